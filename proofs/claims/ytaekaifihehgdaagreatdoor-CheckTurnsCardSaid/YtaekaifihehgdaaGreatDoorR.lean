/- Lemmas for CheckTurns; each states its own conditions. -/
import Derived.Test.YtaekaifihehgdaaGreatDoorK
import Derived.Test.YtaekaifihehgdaaGreatDoorQ
set_option maxRecDepth 100000
set_option maxHeartbeats 0
set_option linter.unusedSimpArgs false
set_option linter.unusedVariables false
namespace Go.Proofs.YtaekaifihehgdaaGreatDoor
open Go.Am Tryz
section
theorem ng{n:bu}(h:Nm n):n.length<=40:=by
 have a:=h.1;cases n with
 |nil=>simp
 |cons c s=>simp only[Kw,cf,tc]at a;simp only[ai];omega
theorem rH:∀t:bu,(sV t).length<=3*t.length
 |[]=>by simp[sV]
 |c::t=>by
  have:=rH t;simp only[sV,ai];split
  ·simp only[ai];omega
  ·split<;>simp only[ai]<;>omega
theorem Qe:∀t:bu,(Cu t).length<=t.length/\(Cv t).length<=t.length
 |[]=>by simp[Cu,Cv]
 |c::t=>by
  have:=Qe t;simp only[Cu,Cv,ai];split<;>simp only[ai,aW]<;>omega
theorem uY{t:bu}(h:TL t):t.length<=70000:=h
theorem sW{t n:bu}(h:TL t)(a:n.length<=40):(AW t n).length<=500000:=by
 have:=Qe t;have:=rH (Cu t);have:=rH (Cv t);have:=uY h;simp only[AW,aO,ai];omega
theorem Jl:∀f n:Nat,(oJ f n).length<=f
 |0,n=>by simp[oJ]
 |f+1,n=>by
  have:=Jl f (n/10);simp only[oJ];cases Nat.blt n 10 with
  |true=>simp
  |false=>simp;omega
theorem RW(n:Int):(jy n).length<=20:=Jl 20 _
theorem Qf{o:bu}(h:o∈vm):o.length<=2:=by
 have:∀o∈vm,o.length<=2:=dc
 exact this o h
theorem Ni{o:bu}(h:o∈B2):o.length<=2:=by
 have:∀o∈B2,o.length<=2:=dc
 exact this o h
variable{P:Pl->Prop}
mutual
theorem qP.le:∀{e:Ex}{l:jC}(_:qP e l)(_:e.al P TL),(sE e).length+3<=1000000*e.nodes
 |_,_,.num (n:=n) _,_=>by have:=RW n;simp only[sE,Ex.nodes];omega
 |_,_,.var h,_=>by have:=ng h;simp only[sE,Ex.nodes];omega
 |_,_,.un ho h,x=>by have:=Qf ho;have:=h.le x.2;simp only[sE,Ex.nodes,aO,ai,aW];omega
 |_,_,.bin ho h k,x=>by have:=Ni ho;have:=h.le x.2.1;have:=k.le x.2.2;simp only[sE,Ex.nodes,aO,ai,aW];omega
 | .cast _ t _,_,.cast _ h,x=>by have:=rH t;have:=uY x.2.1;have:=h.le x.2.2;simp only[sE,Ex.nodes,aO,ai,aW];omega
 | .call _ f xs,_,.call g h,x=>by have:=ng g;have:=h.le x.2 (f++[32,40]) true;simp only[sE,Ex.nodes,aO,ai,aW]at this⊢;omega
 |_,_,.index h k,x=>by have:=h.le x.2.1;have:=k.le x.2.2;simp only[sE,Ex.nodes,aO,ai,aW];omega
 |_,_,.fN b h,x=>by have:=ng b;have:=h.le x.2;simp only[sE,Ex.nodes,aO,ai,aW];omega
 |_,_,.arrow b h,x=>by have:=ng b;have:=h.le x.2;simp only[sE,Ex.nodes,aO,ai,aW];omega
 |_,_,.qp,_=>by simp[sE,Ex.nodes]
 |_,_,.size (t:=t) (a:=a) _ _,x=>by have:=rH (t++a);have:=uY x.2;simp only[sE,Ex.nodes,aO,ai,aW];omega
theorem ve.le:∀{xs:List Ex}{l:jC}(_:ve xs l)(_:Pw P TL xs)(s:bu)(b:Bool),(sL s b xs).length<=s.length+1000000*nV xs
 |_,_,.nil,_,_,_=>by simp[sL]
 |_,_,.one h,x,s,b=>by have:=h.le x.1;cases b<;>simp[sL,nV]<;>omega
 |_,_,.cons (a:=a) h k,x,s,b=>by
  have:=h.le x.1;have:=k.le x.2 ((if b=true then s else s++[32,44])++32::sE a) false;rw[sL,nV];cases b<;>simp at this⊢<;>omega
end
mutual
theorem vf.le:∀{s:Sm}{l:jC}(_:vf s l)(_:s.al P TL),(sS s).length+5<=1000000*s.nodes
 |_,_,.block h,x=>by have:=h.le x.2 [123];simp only[sS,dw.nodes,aO,ai,aW]at this⊢;omega
 |_,_,.empty,_=>by simp[sS,dw.nodes]
 |_,_,.Ar _ _ a,x=>by have:=sW x.2.1 (ng a);simp only[sS,dw.nodes,uB,aO,ai,aW];omega
 |_,_,.As _ a h,x=>by have:=sW x.2.1 (ng a);have:=h.le x.2.2;simp only[sS,dw.nodes,uB,aO,ai,aW];omega
 |_,_,.assign h k,x=>by have:=h.le x.2.1;have:=k.le x.2.2;simp only[sS,dw.nodes,aO,ai,aW];omega
 |_,_,.eval h,x=>by have:=h.le x.2;simp only[sS,dw.nodes,aO,ai,aW];omega
 |_,_,.ifs h k,x=>by have:=h.le x.2.1;have:=k.le x.2.2;simp only[sS,dw.nodes,aO,ai,aW];omega
 |_,_,.wD h k k2,x=>by have:=h.le x.2.1;have:=k.le x.2.2.1;have:=k2.le x.2.2.2;simp only[sS,dw.nodes,aO,ai,aW];omega
 |_,_,.wE h k,x=>by have:=h.le x.2.1;have:=k.le x.2.2;simp only[sS,dw.nodes,aO,ai,aW];omega
 |_,_,.xq,_=>by simp[sS,dw.nodes]
 |_,_,.cont,_=>by simp[sS,dw.nodes]
 |_,_,.GI,_=>by simp[sS,dw.nodes,uB]
 |_,_,.GJ h,x=>by have:=h.le x.2;simp only[sS,dw.nodes,uB,aO,ai,aW];omega
 |_,_,.out h,x=>by have:=h.le x.2;simp only[sS,dw.nodes,aO,ai,aW];omega
theorem GH.le:∀{s:Sm}{l:jC}(_:GH s l)(_:s.al P TL),(sB s).length<=1000000*s.nodes
 |_,_,.is a h,x=>by have:=h.le x;rw[RM a];omega
 |_,_,.wrap a _ h,x=>by have:=h.le x;rw[RO a];simp only[aO,ai,aW];omega
theorem xR.le:∀{xs:List Sm}{l:jC}(_:xR xs l)(_:PC P TL xs)(s:bu),(GV s xs).length<=s.length+1000000*eh xs
 |_,_,.nil,_,s=>by simp[GV]
 |_,_,.cons (s:=q) h k,x,s=>by
  have:=h.le x.1;have:=k.le x.2 (s++32::sS q);rw[GV,eh];simp at this;omega
end
end
class Bd(a:List UInt8)(n:outParam Nat):Prop where
 le:a.length<=n
instance:Bd [] 0:=⟨ao _⟩
instance{c:UInt8}{a:List UInt8}{n:Nat}[k:Bd a n]:Bd (c::a) (n+1):=⟨Nat.succ_le_succ k.le⟩
instance{a b:List UInt8}{n m:Nat}[k:Bd a n][l:Bd b m]:Bd (a++b) (n+m):=⟨by rw[aO];exact Nat.add_le_add k.le l.le⟩
@[simp↓] theorem U5{a b:bu}{n m:Nat}[k:Bd a n][l:Bd b m](h:n+m<=4611686018427387904){α:Type}{x y:α}:(if a.length+b.length<=4611686018427387904 then x else y)=x:=aY (bh (Nat.add_le_add k.le l.le) h)
theorem Dp(t:bu)(ht:t.length<=100000)(h:ah):ba env 16 [.str t] h (λout h'=>out= .ret (.str (sV t))/\h'=h):=by
 refine wb fn16 rfl ?_;simp[f16];refine bz (λm x=>∃i:Nat,i<=t.length/\m=t.length-i/\x.n=49/\x.ds=[]/\x.bX=false/\x.h=h/\x.rg.get 0=some (.str t)/\x.rg.get 3=some (.str (sV (t.take i)))/\x.rg.get 4=some (.I i)) t.length ?_ ?_
 ·exact⟨0,bJ _,rfl,rfl,rfl,rfl,rfl,sp,by simp[sV],sp⟩
 rintro m ⟨rg,U,G,ds,bX⟩ ⟨i,hi,rfl,e1,e2,e3,Q,r0,r3,r4⟩
 dsimp only at e1 e2 e3 Q r0 r3 r4;subst e1 e2 e3 Q;by_cases o:i<t.length
 ·have a:(i:Int)<(t.length:Int):=by omega
  have B:t.take (i+1)=t.take i++[t[i]]:=by rw[cy,aj o];rfl
  have b:(t.drop i).take 1=[t[i]]:=by rw[bs o];rfl
  have g:t[i]?=some t[i]:=aj o;have hle:=rH (t.take i);have C:(t.take i).length=i:=by simp;omega
  rw[C]at hle;have p:sV (t.take (i+1))=sV (t.take i)++sV [t[i]]:=by rw[B,wP]
  have w:=U8 i
  obtain⟨i1,D⟩:∃x,x=i+1:=⟨_,rfl⟩
  rw[<-D]at w p;have y:(i:Int)<=(i1:Int):=by omega
  have A:(i1:Int)<=(t.length:Int):=by omega
  have F:i1<=t.length:=by omega
  have R:i1-i=1:=by omega
  obtain⟨c,S⟩:∃c,c=t[i]:=⟨_,rfl⟩
  rw[<-S]at b g p;have v:∀d:UInt8,c≠d->((c.toNat:Int)==(d.toNat:Int))=false:=λd e=>az.2 λx=>e (cY om);have:Bd (sV (t.take i)) 300000:=⟨om⟩
  have fin:∀u,u=sV [c]->∃j,j<t.length-i/\∃k,k<=t.length/\j=t.length-k/\sV (t.take i)++u=sV (t.take k)/\(i1:Int)=(k:Int):=λu hu=>⟨t.length-i1,om,i1,F,rfl,by rw[p,hu],rfl⟩
  have b:(t.take i1).drop i=[c]:=by rw[List.drop_take,R];exact b
  by_cases I:c=91
  ·subst I;simp[r0,r3,r4,a,g,w,y,A,b];exact fin _ rfl
  ·have J:((c.toNat:Int)==91)=false:=v 91 I;by_cases K:c=42
   ·subst K;simp[r0,r3,r4,a,g,w,y,A,b];exact fin _ rfl
   ·have N:((c.toNat:Int)==42)=false:=v 42 K;by_cases O:c=93
    ·subst O;simp[r0,r3,r4,a,g,w,y,A,b];exact fin _ rfl
    ·have P:((c.toNat:Int)==93)=false:=v 93 O;simp[r0,r3,r4,a,g,N,J,P,w,y,A,b];exact fin [c] (by simp[sV,I,K,O])
 ·have a:¬(i:Int)<(t.length:Int):=by omega
  have e:t.take i=t:=cn om;simp[r0,r3,r4,a,e]
theorem GO(ty nm:bu)(pb:Bool)(ht:ty.length<=100000)(N:nm.length<=100000)(h:ah):ba env 15 [.agg [.str ty,.str nm,.bool pb]] h (λout h'=>out= .ret (.str (AW ty nm))/\aJ h h'):=by
 refine wb fn15 rfl ?_;have:Bd nm 100000:=⟨N⟩
 have hw:∀t:bu,t.length<=100000->Bd (sV t) 300000:=λt ht=>⟨by have:=rH t;omega⟩
 simp[f15];have R:aJ h (h.alloc (.C [.str ty,.str nm,.bool pb])).2:=kT;have g1:(h.alloc (.C [.str ty,.str nm,.bool pb])).2.get h.nx=some (.C [.str ty,.str nm,.bool pb]):=sp
 generalize (h.alloc (.C [.str ty,.str nm,.bool pb])).2=w at*;generalize h.nx=b at*;refine bz (λm x=>∃i:Nat,i<=ty.length/\m=ty.length-i/\x.n=38/\x.ds=[]/\x.bX=false/\x.h=w/\x.rg.get 1=some (.P b)/\x.rg.get 3=some (.I i)/\∀c,c∈ty.take i->c≠91) ty.length ?_ ?_
 ·exact⟨0,bJ _,rfl,rfl,rfl,rfl,rfl,sp,sp,sp⟩
 rintro m ⟨rg,S,G,ds,bX⟩ ⟨i,hi,rfl,e1,e2,e3,I,v,r3,j⟩
 dsimp only at e1 e2 e3 I v r3;subst e1 e2 e3 I;have o:∀a:bu,(a=[]\/∃s,a=91::s)->ty=ty.take i++a->Cu ty=ty.take i/\Cv ty=a:=λa O e=>by
  have:=EJ j a O;rw[<-e]at this;exact this
 by_cases y:i<ty.length
 ·have g:(i:Int)<(ty.length:Int):=by omega
  obtain⟨c,J⟩:∃c,c=ty[i]:=⟨_,rfl⟩
  have p:ty[i]?=some c:=by rw[J];exact aj y
  have A:ty.drop i=c::ty.drop (i+1):=by rw[J];exact bs y
  have P:=U8 i
  have Q:(i:Int)<=(ty.length:Int):=by omega
  by_cases w:c=91
  ·subst w;obtain⟨C,D⟩:=o (ty.drop i) (.inr ⟨_,A⟩) (List.take_append_drop i ty).symm;have l1:(ty.take i).length<=100000:=IN;have l2:(ty.drop i).length<=100000:=IN;have:=hw _ l1;have:=hw _ l2;clear o hw A j;simp[v,r3,g,p,g1];refine eF [0,1,2,3,6,7,9,10,11,12,4,5,8,13,14,15] kr (by simp[cz,dG];rfl) kr ?_;simp[v,r3,Q,g1];refine(Dp _ l1 _).m1 λK B=>?_;subst B;simp;refine dl ?_;refine(Dp _ l2 _).m1 λK B=>?_;subst B;simp;refine dm ?_;exact⟨by simp[AW,C,D],kT⟩
  ·have F:((c.toNat:Int)==91)=false:=az.2 λx=>w (cY IN);simp[v,r3,g,p,g1,F,P];refine⟨_,om,i+1,om,rfl,sp,λd u=>?_⟩;rw[cy,p]at u;rcases aP.1 u with u|u
   ·exact j d u
   ·simp at u;exact u▸w
 ·have g:¬(i:Int)<(ty.length:Int):=by omega
  have e:ty.take i=ty:=cn om;obtain⟨C,D⟩:=o [] (.inl rfl) (by simp[e]);have:=hw _ ht;clear o hw j;simp[v,r3,g,g1];refine eF [0,1,4,5,2,3,6,7] kr (by simp[cz,dG];rfl) kr ?_;simp[v,g1];refine(Dp _ ht _).m1 λK B=>?_;subst B;simp;refine dm ?_;exact⟨by simp[AW,C,D,e,sV],kT⟩
section
section
variable{X:cB}{h:ah}{id:Nat}{op nm ty:bu}{n:Int}{a b c:RN}
theorem eK.kids{ks:List RN}(e:eK X h id (.mk op nm ty n ks)):∃av qs,h.get id=some (.C [.str op,.str nm,.str ty,.I n,av,.str [],.I 0])/\cQ X h av qs/\qs.map Prod.snd=ks/\∀p,p∈qs->eK X h p.1 p.2:=by
 cases e with
 |mk obj nx arr f sub=>exact⟨_,_,obj,arr,f,sub⟩
theorem eK.k0(e:eK X h id (.mk op nm ty n [])):∃x,h.get id=some (.C [.str op,.str nm,.str ty,.I n,.slice x 0,.str [],.I 0]):=by
 obtain⟨av,qs,g,ar,f,_⟩:=e.kids;obtain rfl:qs=[]:=by simpa using f
 rcases ar with⟨_,rfl⟩|⟨b,rfl,_,_⟩
 ·exact⟨_,g⟩
 ·exact⟨_,g⟩
theorem eK.k1(e:eK X h id (.mk op nm ty n [a])):∃v i,h.get id=some (.C [.str op,.str nm,.str ty,.I n,.S v 1,.str [],.I 0])/\h.get v=some (.D 1 [.P i])/\eK X h i a:=by
 obtain⟨av,qs,g,ar,f,sub⟩:=e.kids;rcases qs with _|⟨⟨i,x⟩,_|_⟩<;>simp at f;subst f;rcases ar with⟨h0,_⟩|⟨v,rfl,_,ga⟩
 ·cases h0
 ·exact⟨v,i,g,ga,sub _ (bc ..)⟩
theorem eK.k2(e:eK X h id (.mk op nm ty n [a,b])):∃v i j,h.get id=some (.C [.str op,.str nm,.str ty,.I n,.S v 2,.str [],.I 0])/\h.get v=some (.D 1 [.P i,.P j])/\eK X h i a/\eK X h j b:=by
 obtain⟨av,qs,g,ar,f,sub⟩:=e.kids;rcases qs with _|⟨⟨i,x⟩,_|⟨⟨j,y⟩,_|_⟩⟩<;>simp at f;obtain⟨rfl,rfl⟩:=f;rcases ar with⟨h0,_⟩|⟨v,rfl,_,ga⟩
 ·cases h0
 ·exact⟨v,i,j,g,ga,sub (i,x) sp,sub (j,y) sp⟩
end
theorem ve.mem:∀{xs:List Ex}{l:jC}(_:ve xs l),∀x,x∈xs->∃m,qP x m
 |_,_,.nil,x,h=>by cases h
 |_,_,.one k,x,h=>by simp at h;exact⟨_,h▸k⟩
 |_,_,.cons k r,x,h=>by
  rcases ak.1 h with rfl|h
  ·exact⟨_,k⟩
  ·exact r.mem x h
theorem Qg:∀(xs:List Ex)(s:bu)(b:Bool),s.length<=(sL s b xs).length
 |[],s,b=>by simp[sL]
 |x::xs,s,b=>by
  have:=Qg xs ((if b=true then s else s++[32,44])++32::sE x) false;rw[sL];cases b<;>simp at this⊢<;>omega
theorem Cw:∀(n:Nat){e:Ex}{l:jC}(_:qP e l),e.nodes<=n->n<=1000->∀{P:Pl->Prop},e.al P TL->∀{X:cB}{h H:ah}{id:Nat},bP h->eK X h id e.rn->aJ h H->ba env 33 [.P id] H (λout h'=>out= .ret (.str (sE e))/\aJ h h')
 |0,e,_,_,D,_,_,_,_,_,_,_,_,_,_=>by have:=e.pz;omega
 |n+1,e,l,tk,D,C4,P,al,X,h,H,id,fr,J,B=>by
  have Q:=@Cw n;have R:∀{x:Ex}{m:jC},qP x m->x.al P TL->x.nodes<=n->Bd (sE x) 1000000000:=λhx ha hm=>⟨by have:=hx.le ha;omega⟩
  cases tk with
  |@num p k hk=>
   obtain⟨x,g0⟩:=eK.k0 J;have A:=λ{w:ah}(k:aJ h w)=>(k.old id (aw fr g0)).trans g0;have g:=A B;refine wb fn33 rfl ?_;simp[f33,g];refine Mj 19 k H _ om hk om λS k2=>?_;simp;exact⟨by simp[sE,jy],B.trans k2⟩
  |@var p s Z=>
   obtain⟨x,g0⟩:=eK.k0 J;have A:=λ{w:ah}(k:aJ h w)=>(k.old id (aw fr g0)).trans g0;have g:=A B;refine wb fn33 rfl ?_;simp[f33,g];exact⟨rfl,B⟩
  |@qp p=>
   obtain⟨x,g0⟩:=eK.k0 J;have A:=λ{w:ah}(k:aJ h w)=>(k.old id (aw fr g0)).trans g0;have g:=A B;refine wb fn33 rfl ?_;simp[f33,g];exact⟨rfl,B⟩
  |@size p t a k l ht ha=>
   obtain⟨x,g0⟩:=eK.k0 J;have A:=λ{w:ah}(k:aJ h w)=>(k.old id (aw fr g0)).trans g0;have g:=A B;have lt:=uY al.2;have:=rH (t++a);have:Bd (sV (t++a)) 300000:=⟨om⟩
   refine wb fn33 rfl ?_;simp[f33,g];refine(Dp _ om _).m1 λh1 hq=>?_;subst hq;simp;exact⟨by simp[sE],B⟩
  |@un p o a l ho F=>
   obtain⟨v,i,g0,u,K⟩:=eK.k1 J;have A:=λ{w:ah}(k:aJ h w)=>(k.old id (aw fr g0)).trans g0;have g:=A B;have C:=λ{w:ah}(k:aJ h w)=>(k.old v (aw fr u)).trans u;have ga:=C B;have:Bd o 2:=⟨Qf ho⟩
   have:Bd (sE a) 1000000000:=R F al.2 (by simp only[Ex.nodes]at D;omega);refine wb fn33 rfl ?_;simp[f33,g];refine Dd ?_;simp[g,ga];refine(Q F (by simp only[Ex.nodes]at D;omega) om al.2 fr K kT).m1 λS k2=>?_;have g2:=A k2;have N:=C k2;simp;refine dl ?_;exact⟨by simp[sE],kT⟩
  |@fN p m a l hm F=>
   obtain⟨v,i,g0,u,K⟩:=eK.k1 J;have A:=λ{w:ah}(k:aJ h w)=>(k.old id (aw fr g0)).trans g0;have g:=A B;have C:=λ{w:ah}(k:aJ h w)=>(k.old v (aw fr u)).trans u;have ga:=C B;have:Bd m 40:=⟨ng hm⟩
   have:Bd (sE a) 1000000000:=R F al.2 (by simp only[Ex.nodes]at D;omega);refine wb fn33 rfl ?_;simp[f33,g];refine eF [0,1,2,3,4,5,8,9,10,11,6,7,12,13] kr (by simp[cz,dG];rfl) kr ?_;simp[g,ga];refine(Q F (by simp only[Ex.nodes]at D;omega) om al.2 fr K kT).m1 λS k2=>?_;have g2:=A k2;have N:=C k2;simp;refine dl ?_;exact⟨by simp[sE],kT⟩
  |@arrow p m a l hm F=>
   obtain⟨v,i,g0,u,K⟩:=eK.k1 J;have A:=λ{w:ah}(k:aJ h w)=>(k.old id (aw fr g0)).trans g0;have g:=A B;have C:=λ{w:ah}(k:aJ h w)=>(k.old v (aw fr u)).trans u;have ga:=C B;have:Bd m 40:=⟨ng hm⟩
   have:Bd (sE a) 1000000000:=R F al.2 (by simp only[Ex.nodes]at D;omega);refine wb fn33 rfl ?_;simp[f33,g];refine eF [0,1,2,3,4,5,8,9,10,11,6,7,12,13] kr (by simp[cz,dG];rfl) kr ?_;simp[g,ga];refine(Q F (by simp only[Ex.nodes]at D;omega) om al.2 fr K kT).m1 λS k2=>?_;have g2:=A k2;have N:=C k2;simp;refine dl ?_;exact⟨by simp[sE],kT⟩
  |@cast p t a k l ht F=>
   obtain⟨v,i,g0,u,K⟩:=eK.k1 J;have A:=λ{w:ah}(k:aJ h w)=>(k.old id (aw fr g0)).trans g0;have g:=A B;have C:=λ{w:ah}(k:aJ h w)=>(k.old v (aw fr u)).trans u;have ga:=C B;have lt:=uY al.2.1;have:=rH t;have:Bd (sV t) 300000:=⟨om⟩
   have:Bd (sE a) 1000000000:=R F al.2.2 (by simp only[Ex.nodes]at D;omega);refine wb fn33 rfl ?_;simp[f33,g];refine eF [0,1,2,3,7,8,9,10,11,12,4,5,6,13,14,15,16] kr (by simp[cz,dG];rfl) kr ?_;simp[g,ga];refine(Dp _ om _).m1 λh1 hq=>?_;subst hq;simp;refine dl ?_;refine(Q F (by simp only[Ex.nodes]at D;omega) om al.2.2 fr K kT).m1 λS k2=>?_;have g2:=A k2;have N:=C k2;simp;refine dl ?_;exact⟨by simp[sE],kT⟩
  |@bin p o a b l m ho F kb=>
   obtain⟨v,i,j,g0,u,K,eb⟩:=eK.k2 J;have A:=λ{w:ah}(k:aJ h w)=>(k.old id (aw fr g0)).trans g0;have g:=A B;have C:=λ{w:ah}(k:aJ h w)=>(k.old v (aw fr u)).trans u;have ga:=C B;have:Bd o 2:=⟨Ni ho⟩
   have:Bd (sE a) 1000000000:=R F al.2.1 (by simp only[Ex.nodes]at D;omega);have:Bd (sE b) 1000000000:=R kb al.2.2 (by simp only[Ex.nodes]at D;omega);refine wb fn33 rfl ?_;simp[f33,g];refine eF [0,1,2,3,4,5,9,10,11,12,15,16,17,18,19,20,6,7,8,13,14,21,22,23,24] kr (by simp[cz,dG];rfl) kr ?_;simp[g,ga];refine(Q F (by simp only[Ex.nodes]at D;omega) om al.2.1 fr K kT).m1 λS k2=>?_;have g2:=A k2;have N:=C k2;simp;refine dl ?_;refine(Q kb (by simp only[Ex.nodes]at D;omega) om al.2.2 fr eb kT).m1 λh3 k3=>?_;have g3:=A k3;have A4:=C k3;simp;refine dl ?_;exact⟨by simp[sE],kT⟩
  |@index p a b l m F kb=>
   obtain⟨v,i,j,g0,u,K,eb⟩:=eK.k2 J;have A:=λ{w:ah}(k:aJ h w)=>(k.old id (aw fr g0)).trans g0;have g:=A B;have C:=λ{w:ah}(k:aJ h w)=>(k.old v (aw fr u)).trans u;have ga:=C B;have:Bd (sE a) 1000000000:=R F al.2.1 (by simp only[Ex.nodes]at D;omega);have:Bd (sE b) 1000000000:=R kb al.2.2 (by simp only[Ex.nodes]at D;omega);refine wb fn33 rfl ?_;simp[f33,g];refine eF [0,1,2,3,4,5,8,9,10,11,12,13,6,7,14,15,16,17] kr (by simp[cz,dG];rfl) kr ?_;simp[g,ga];refine(Q F (by simp only[Ex.nodes]at D;omega) om al.2.1 fr K kT).m1 λS k2=>?_;have g2:=A k2;have N:=C k2;simp;refine dl ?_;refine(Q kb (by simp only[Ex.nodes]at D;omega) om al.2.2 fr eb kT).m1 λh3 k3=>?_;have g3:=A k3;have A4:=C k3;simp;refine dl ?_;exact⟨by simp[sE],kT⟩
  |@call p f xs l hf ks=>
   obtain⟨av,qs,g0,A1,A2,sub⟩:=eK.kids J;have A:=λ{w:ah}(k:aJ h w)=>(k.old id (aw fr g0)).trans g0;have C5:qs.length=xs.length:=(by rw[<-List.length_map (f:=Prod.snd),A2];simp[Em]);obtain⟨ab,rfl⟩:∃ab,av= .slice ab qs.length:=by
    rcases A1 with⟨e,h0⟩|⟨v,h0,_⟩
    ·exact⟨none,by rw[h0,e];rfl⟩
    ·exact⟨_,h0⟩
   have A5:=ks.le al.2 (f++[32,40]) true;simp only[Ex.nodes]at D;have Au:=ng hf;have:Bd f 40:=⟨Au⟩
   simp only[aO,ai,aW]at A5;have C6:xs.length<=1000:=(by have:=xL xs;omega);have g:=A B;refine wb fn33 rfl ?_;simp[f33,g];refine bz (λm x=>∃(i:Nat)(s:bu),i<=xs.length/\m=xs.length-i/\x.n=174/\x.ds=[]/\x.bX=false/\aJ h x.h/\x.rg.get 0=some (.P id)/\x.rg.get 3=some (.str s)/\x.rg.get 4=some (.I i)/\sL s (i==0) (xs.drop i)=sL (f++[32,40]) true xs) xs.length ?_ ?_
   ·exact⟨0,_,bJ _,rfl,rfl,rfl,rfl,B,sp,by simp;rfl,sp,sp⟩
   rintro m ⟨rg,n',G,ds,bX⟩ ⟨i,s,hi,rfl,e1,e2,e3,V,r0,r3,r4,Z⟩
   dsimp only at e1 e2 e3 V r0 r3 r4;subst e1 e2 e3;have g:=A V;have C1:=Qg (xs.drop i) s (i==0);rw[Z]at C1;have:Bd s 1000000000:=⟨om⟩
   by_cases U:i<xs.length
   ·have O:(i:Int)<(qs.length:Int):=om;have I:i<qs.length:=om;have C2:xs.drop i=xs[i]::xs.drop (i+1):=bs U;obtain⟨⟨j,y⟩,W⟩:∃q,qs[i]?=some q:=⟨_,aj I⟩
    have hy:y=xs[i].rn:=by
     have:(qs.map Prod.snd)[i]?=some y:=(by rw[bt,W];rfl);rw[A2,Em,bt,aj U]at this;simpa using this.symm
    have ey:=sub _ (bg W);rw[hy]at ey;have hm:xs[i]∈xs:=bk U;obtain⟨l',kx⟩:=ks.mem _ hm;have C7:=uA hm;have:Bd (sE xs[i]) 1000000000:=R kx (yy al.2 hm) om;obtain⟨v,rfl,u⟩:∃v,ab=some (v,0)/\h.get v=some (.D 1 (qs.map λp=> .P p.1)):=by
     rcases A1 with⟨e,_⟩|⟨v,h0,_,g1⟩
     ·rw[e]at I;cases I
     ·injection h0 with h1 S;exact⟨v,h1,g1⟩
    have ga:=(V.old v (aw fr u)).trans u;have A3:qs[i].fst=j:=(by rw[aj I]at W;injection W with W;rw[W]);have w1:=U8 i;have fin:∀s',s'=(if(i==0)=true then s else s++[32,44])++32::sE xs[i]->sL s' (i+1==0) (xs.drop (i+1))=sL (f++[32,40]) true xs:=λs' e=>by
     rw[<-Z,C2,sL,e];rfl
    have ih:=λ{w:ah}(k:aJ h w)=>Q kx om om (yy al.2 hm) fr ey k;clear Q R;by_cases h0:i=0
    ·subst h0;simp[r0,r3,r4,I,g,ga,A3];refine(ih V).m1 λS k2=>?_;simp[r0,r4];exact⟨_,om,1,om,rfl,k2,rfl,fin _ sp⟩
    ·have C8:(0:Int)<(i:Int):=om;have C3:0<i:=om;simp[r0,r3,r4,O,I,g,ga,A3,C3];refine(ih V).m1 λS k2=>?_;simp[r0,r4,w1];exact⟨_,om,i+1,om,rfl,k2,om,fin _ (by simp[h0])⟩
   ·have O:¬(i:Int)<(qs.length:Int):=om;have I:¬i<qs.length:=om;have e:xs.drop i=[]:=iM om;rw[e,sL]at Z;simp[r0,r3,r4,O,g];exact⟨by simp[sE,<-Z],V⟩
end
theorem eK.k3{X:cB}{h:ah}{id:Nat}{op nm ty:bu}{n:Int}{a b c:RN}(e:eK X h id (.mk op nm ty n [a,b,c])):∃v i j k,h.get id=some (.C [.str op,.str nm,.str ty,.I n,.S v 3,.str [],.I 0])/\h.get v=some (.D 1 [.P i,.P j,.P k])/\eK X h i a/\eK X h j b/\eK X h k c:=by
 obtain⟨av,qs,g,ar,f,sub⟩:=e.kids;rcases qs with _|⟨⟨i,x⟩,_|⟨⟨j,y⟩,_|⟨⟨k,z⟩,_|_⟩⟩⟩<;>simp at f;obtain⟨rfl,rfl,rfl⟩:=f;rcases ar with⟨h0,_⟩|⟨v,rfl,_,ga⟩
 ·cases h0
 ·exact⟨v,i,j,k,g,ga,sub (i,x) sp,sub (j,y) sp,sub (k,z) sp⟩
theorem xR.mem:∀{xs:List Sm}{l:jC}(_:xR xs l),∀x,x∈xs->∃m,vf x m
 |_,_,.nil,x,h=>by cases h
 |_,_,.cons k r,x,h=>by
  rcases ak.1 h with rfl|h
  ·exact⟨_,k⟩
  ·exact r.mem x h
theorem B6:∀{xs:List Sm}{x:Sm},x∈xs->x.nodes<=eh xs
 |y::a,x,h=>by
  rcases ak.1 h with rfl|h
  ·simp only[eh];omega
  ·have:=B6 h;simp only[eh];omega
theorem Nj:∀(xs:List Sm)(s:bu),s.length<=(GV s xs).length
 |[],s=>by simp[GV]
 |x::xs,s=>by
  have:=Nj xs (s++32::sS x);rw[GV];simp at this⊢;omega
theorem RX(s:Sm):(s.rn.op==[98,108,111,99,107])=ua s:=by cases s<;>rfl
def SW(n:Nat):Prop:=∀{s:Sm}{l:List Tk}(_:vf s l),s.nodes<=n->n<=1000->∀{P:Pl->Prop},s.al P TL->∀{X:List Nat}{h H:ah}{id:Nat},bP h->eK X h id s.rn->aJ h H->ba env 17 [.P id] H (λout h'=>out= .ret (.str (sS s))/\aJ h h')
theorem Ph{n:Nat}(m:SW n){s:Sm}{l:jC}(k:GH s l)(o:s.nodes<=n)(b:n<=1000){P:Pl->Prop}(al:s.al P TL){X:cB}{h H:ah}{id:Nat}(fr:bP h)(i:eK X h id s.rn)(j:aJ h H):ba env 34 [.P id] H (λout h'=>out= .ret (.str (sB s))/\aJ h h'):=by
 refine wb fn34 rfl ?_;have a:=RX s;obtain⟨av,g0⟩:∃av,h.get id=some (.C (s.rn.cA av [] 0)):=by
  cases i with
  |mk obj nx arr t sub=>exact⟨_,obj⟩
 have g:=(j.old id (aw fr g0)).trans g0;unfold RN.cA at g;cases k with
 |is e k=>
  rw[e]at a;simp[f34,g,a];refine(m k o b al fr i j).m1 λp k1=>?_;simp;exact⟨by rw[RM e],k1⟩
 |wrap e _ k=>
  rw[e]at a;have:Bd (sS s) 1000000000:=⟨by have:=k.le al;omega⟩
  simp[f34,g,a];refine(m k o b al fr i j).m1 λp k1=>?_;simp;exact⟨by rw[RO e];simp,k1⟩
theorem Tx:∀n:Nat,SW n
 |0,s,_,_,B,_,_,_,_,_,_,_,_,_,_=>by have:=s.pz;omega
 |n+1,s,l,tk,B,C2,P,al,X,h,H,id,fr,J,C=>by
  have V:SW n:=@Tx n;have K:∀{x:Ex}{m:jC},qP x m->x.al P TL->x.nodes<=n->Bd (sE x) 1000000000:=λhx ha hm=>⟨by have:=hx.le ha;omega⟩
  have W:∀{x:Sm}{m:jC},GH x m->x.al P TL->x.nodes<=n->Bd (sB x) 1000000000:=λhx ha hm=>⟨by have:=hx.le ha;omega⟩
  cases tk with
  |@empty p=>
   obtain⟨x,g0⟩:=eK.k0 J;have u:=λ{w:ah}(k:aJ h w)=>(k.old id (aw fr g0)).trans g0;have g:=u C;refine wb fn17 rfl ?_;simp[f17,g];exact⟨by simp[sS],C⟩
  |@xq p=>
   obtain⟨x,g0⟩:=eK.k0 J;have u:=λ{w:ah}(k:aJ h w)=>(k.old id (aw fr g0)).trans g0;have g:=u C;refine wb fn17 rfl ?_;simp[f17,g];exact⟨by simp[sS],C⟩
  |@cont p=>
   obtain⟨x,g0⟩:=eK.k0 J;have u:=λ{w:ah}(k:aJ h w)=>(k.old id (aw fr g0)).trans g0;have g:=u C;refine wb fn17 rfl ?_;simp[f17,g];exact⟨by simp[sS],C⟩
  |@GI p=>
   obtain⟨x,g0⟩:=eK.k0 J;have u:=λ{w:ah}(k:aJ h w)=>(k.old id (aw fr g0)).trans g0;have g:=u C;refine wb fn17 rfl ?_;simp[f17,g];exact⟨by simp[sS],C⟩
  |@GJ p a l D=>
   obtain⟨v,i,g0,o,I⟩:=eK.k1 J;have u:=λ{w:ah}(k:aJ h w)=>(k.old id (aw fr g0)).trans g0;have g:=u C;have A:=λ{w:ah}(k:aJ h w)=>(k.old v (aw fr o)).trans o;have ga:=A C;have:Bd (sE a) 1000000000:=K D al.2 (by simp only[dw.nodes,uB]at B;omega);refine wb fn17 rfl ?_;simp[f17,g];simp[ga];refine(Cw n D (by simp only[dw.nodes,uB]at B;omega) om al.2 fr I kT).m1 λO k2=>?_;have g2:=u k2;have F:=A k2;simp;exact⟨by simp[sS],kT⟩
  |@out p a l D=>
   obtain⟨v,i,g0,o,I⟩:=eK.k1 J;have u:=λ{w:ah}(k:aJ h w)=>(k.old id (aw fr g0)).trans g0;have g:=u C;have A:=λ{w:ah}(k:aJ h w)=>(k.old v (aw fr o)).trans o;have ga:=A C;have:Bd (sE a) 1000000000:=K D al.2 (by simp only[dw.nodes]at B;omega);refine wb fn17 rfl ?_;simp[f17,g];simp[ga];refine(Cw n D (by simp only[dw.nodes]at B;omega) om al.2 fr I kT).m1 λO k2=>?_;have g2:=u k2;have F:=A k2;simp;exact⟨by simp[sS],kT⟩
  |@eval p a l D=>
   obtain⟨v,i,g0,o,I⟩:=eK.k1 J;have u:=λ{w:ah}(k:aJ h w)=>(k.old id (aw fr g0)).trans g0;have g:=u C;have A:=λ{w:ah}(k:aJ h w)=>(k.old v (aw fr o)).trans o;have ga:=A C;have:Bd (sE a) 1000000000:=K D al.2 (by simp only[dw.nodes]at B;omega);refine wb fn17 rfl ?_;simp[f17,g];simp[ga];refine(Cw n D (by simp only[dw.nodes]at B;omega) om al.2 fr I kT).m1 λO k2=>?_;have g2:=u k2;have F:=A k2;simp;exact⟨by simp[sS],kT⟩
  |@assign p a b l m D Q=>
   obtain⟨v,i,j,g0,o,I,Z⟩:=eK.k2 J;have u:=λ{w:ah}(k:aJ h w)=>(k.old id (aw fr g0)).trans g0;have g:=u C;have A:=λ{w:ah}(k:aJ h w)=>(k.old v (aw fr o)).trans o;have ga:=A C;have:Bd (sE a) 1000000000:=K D al.2.1 (by simp only[dw.nodes]at B;omega);have:Bd (sE b) 1000000000:=K Q al.2.2 (by simp only[dw.nodes]at B;omega);refine wb fn17 rfl ?_;simp[f17,g];refine eF [0,1,2,3,4,5,8,9,10,11,12,13,6,7,14,15,16,17] kr (by simp[cz,dG];rfl) kr ?_;simp[g,ga];refine(Cw n D (by simp only[dw.nodes]at B;omega) om al.2.1 fr I kT).m1 λO k2=>?_;have g2:=u k2;have F:=A k2;simp;refine dl ?_;refine(Cw n Q (by simp only[dw.nodes]at B;omega) om al.2.2 fr Z kT).m1 λh3 k3=>?_;have g3:=u k3;have R:=A k3;clear V K W u A;simp;refine dl ?_;exact⟨by simp[sS],kT⟩
  |@wE p a s l m D Q=>
   obtain⟨v,i,j,g0,o,I,Z⟩:=eK.k2 J;have u:=λ{w:ah}(k:aJ h w)=>(k.old id (aw fr g0)).trans g0;have g:=u C;have A:=λ{w:ah}(k:aJ h w)=>(k.old v (aw fr o)).trans o;have ga:=A C;have:Bd (sE a) 1000000000:=K D al.2.1 (by simp only[dw.nodes]at B;omega);have:Bd (sB s) 1000000000:=W Q al.2.2 (by simp only[dw.nodes]at B;omega);refine wb fn17 rfl ?_;simp[f17,g];refine eF [0,1,2,3,4,5,9,10,11,12,13,14,6,7,8,15,16,17] kr (by simp[cz,dG];rfl) kr ?_;simp[g,ga];refine(Cw n D (by simp only[dw.nodes]at B;omega) om al.2.1 fr I kT).m1 λO k2=>?_;have g2:=u k2;have F:=A k2;simp;refine dl ?_;refine(Ph V Q (by simp only[dw.nodes]at B;omega) om al.2.2 fr Z kT).m1 λh3 k3=>?_;have g3:=u k3;have R:=A k3;clear V K W u A;simp;refine dl ?_;exact⟨by simp[sS],kT⟩
  |@ifs p a s l m D Q=>
   obtain⟨v,i,j,g0,o,I,Z⟩:=eK.k2 J;have u:=λ{w:ah}(k:aJ h w)=>(k.old id (aw fr g0)).trans g0;have g:=u C;have A:=λ{w:ah}(k:aJ h w)=>(k.old v (aw fr o)).trans o;have ga:=A C;have:Bd (sE a) 1000000000:=K D al.2.1 (by simp only[dw.nodes]at B;omega);have:Bd (sB s) 1000000000:=W Q al.2.2 (by simp only[dw.nodes]at B;omega);refine wb fn17 rfl ?_;simp[f17,g];refine eF [0,1,2,3,4,5,9,10,11,12,13,14,6,7,8,15,16,17] kr (by simp[cz,dG];rfl) kr ?_;simp[g,ga];refine(Cw n D (by simp only[dw.nodes]at B;omega) om al.2.1 fr I kT).m1 λO k2=>?_;have g2:=u k2;have F:=A k2;simp;refine dl ?_;refine(Ph V Q (by simp only[dw.nodes]at B;omega) om al.2.2 fr Z kT).m1 λh3 k3=>?_;have g3:=u k3;have R:=A k3;clear V K W u A;simp[g3];refine dl ?_;exact⟨by simp[sS],kT⟩
  |@wD p a s t l m n' D Q kc=>
   obtain⟨v,i,j,k,g0,o,I,Z,ec⟩:=eK.k3 J;have u:=λ{w:ah}(k:aJ h w)=>(k.old id (aw fr g0)).trans g0;have g:=u C;have A:=λ{w:ah}(k:aJ h w)=>(k.old v (aw fr o)).trans o;have ga:=A C;have:Bd (sE a) 1000000000:=K D al.2.1 (by simp only[dw.nodes]at B;omega);have:Bd (sB s) 1000000000:=W Q al.2.2.1 (by simp only[dw.nodes]at B;omega);have:Bd (sB t) 1000000000:=W kc al.2.2.2 (by simp only[dw.nodes]at B;omega);refine wb fn17 rfl ?_;simp[f17,g];refine eF [0,1,2,3,4,5,9,10,11,12,13,14,6,7,8,15,16,17] kr (by simp[cz,dG];rfl) kr ?_;simp[g,ga];refine(Cw n D (by simp only[dw.nodes]at B;omega) om al.2.1 fr I kT).m1 λO k2=>?_;have g2:=u k2;have F:=A k2;simp;refine dl ?_;refine(Ph V Q (by simp only[dw.nodes]at B;omega) om al.2.2.1 fr Z kT).m1 λh3 k3=>?_;have g3:=u k3;have R:=A k3;simp[g3,R];refine dl ?_;refine(Ph V kc (by simp only[dw.nodes]at B;omega) om al.2.2.2 fr ec kT).m1 λh4 k4=>?_;have g4:=u k4;have C3:=A k4;simp;exact⟨by simp[sS],kT⟩
  |@Ar p t a nm k l ht ha S=>
   obtain⟨x,g0⟩:=eK.k0 J;have u:=λ{w:ah}(k:aJ h w)=>(k.old id (aw fr g0)).trans g0;have g:=u C;have lt:=uY al.2.1;have:=ng S;have:Bd (AW (t++a) nm) 500000:=⟨sW al.2.1 (ng S)⟩
   refine wb fn17 rfl ?_;simp[f17,g];refine Dd ?_;simp[g];refine(GO _ _ _ om om _).m1 λO k2=>?_;have k2:aJ h O:=aJ.trans kT k2;have g2:=u k2;clear V K W u;simp[g2];refine dl ?_;exact⟨by simp[sS],kT⟩
  |@As p t nm e k l ht S D=>
   obtain⟨v,i,g0,o,I⟩:=eK.k1 J;have u:=λ{w:ah}(k:aJ h w)=>(k.old id (aw fr g0)).trans g0;have g:=u C;have A:=λ{w:ah}(k:aJ h w)=>(k.old v (aw fr o)).trans o;have ga:=A C;have lt:=uY al.2.1;have:=ng S;have:Bd (AW t nm) 500000:=⟨sW al.2.1 (ng S)⟩
   have:Bd (sE e) 1000000000:=K D al.2.2 (by simp only[dw.nodes,uB]at B;omega);refine wb fn17 rfl ?_;simp[f17,g];refine Dd ?_;simp[g];refine(GO _ _ _ om om _).m1 λO k2=>?_;have k2:aJ h O:=aJ.trans kT k2;have g2:=u k2;have F:=A k2;simp[g2];refine dl ?_;simp[F];refine(Cw n D (by simp only[dw.nodes,uB]at B;omega) om al.2.2 fr I k2).m1 λh3 k3=>?_;have g3:=u k3;have R:=A k3;simp;exact⟨by simp[sS],kT⟩
  |@block p xs l ks=>
   obtain⟨av,qs,g0,A2,A3,sub⟩:=eK.kids J;have u:=λ{w:ah}(k:aJ h w)=>(k.old id (aw fr g0)).trans g0;have C4:qs.length=xs.length:=(by rw[<-List.length_map (f:=Prod.snd),A3];simp[En]);obtain⟨ab,rfl⟩:∃ab,av= .slice ab qs.length:=by
    rcases A2 with⟨e,h0⟩|⟨v,h0,_⟩
    ·exact⟨none,by rw[h0,e];rfl⟩
    ·exact⟨_,h0⟩
   have A4:=ks.le al.2 [123];simp only[dw.nodes]at B;simp only[ai,aW]at A4;have C5:xs.length<=1000:=(by have:=rF xs;omega);have g:=u C;refine wb fn17 rfl ?_;simp[f17,g];refine bz (λm x=>∃(i:Nat)(s:bu),i<=xs.length/\m=xs.length-i/\x.n=185/\x.ds=[]/\x.bX=false/\aJ h x.h/\x.rg.get 0=some (.P id)/\x.rg.get 3=some (.str s)/\x.rg.get 4=some (.I i)/\GV s (xs.drop i)=GV [123] xs) xs.length ?_ ?_
   ·exact⟨0,_,bJ _,rfl,rfl,rfl,rfl,C,sp,by simp;rfl,sp,sp⟩
   rintro m ⟨rg,n',G,ds,bX⟩ ⟨i,s,hi,rfl,e1,e2,e3,kG,r0,r3,r4,hs⟩
   dsimp only at e1 e2 e3 kG r0 r3 r4;subst e1 e2 e3;have g:=u kG;have A5:=Nj (xs.drop i) s;rw[hs]at A5;have:Bd s 1000000000:=⟨om⟩
   by_cases A1:i<xs.length
   ·have U:(i:Int)<(qs.length:Int):=om;have N:i<qs.length:=om;have Au:xs.drop i=xs[i]::xs.drop (i+1):=bs A1;obtain⟨⟨j,y⟩,hj⟩:∃q,qs[i]?=some q:=⟨_,aj N⟩
    have hy:y=xs[i].rn:=by
     have:(qs.map Prod.snd)[i]?=some y:=(by rw[bt,hj];rfl);rw[A3,En,bt,aj A1]at this;simpa using this.symm
    have ey:=sub _ (bg hj);rw[hy]at ey;have hm:xs[i]∈xs:=bk A1;obtain⟨l',kx⟩:=ks.mem _ hm;have C6:=B6 hm;have:Bd (sS xs[i]) 1000000000:=⟨by have:=kx.le (uC al.2 hm);omega⟩
    obtain⟨v,rfl,o⟩:∃v,ab=some (v,0)/\h.get v=some (.D 1 (qs.map λp=> .P p.1)):=by
     rcases A2 with⟨e,_⟩|⟨v,h0,_,g1⟩
     ·rw[e]at N;cases N
     ·injection h0 with h1 O;exact⟨v,h1,g1⟩
    have ga:=(kG.old v (aw fr o)).trans o;have C1:qs[i].fst=j:=(by rw[aj N]at hj;injection hj with hj;rw[hj]);have w1:=U8 i;have ih:=λ{w:ah}(k:aJ h w)=>V kx om om (uC al.2 hm) fr ey k;clear V K W;simp[r0,r3,r4,U,N,g,ga,C1];refine(ih kG).m1 λO k2=>?_;simp[r0,r4,w1];exact⟨_,om,i+1,om,rfl,k2,om,by rw[<-hs,Au,GV]⟩
   ·have U:¬(i:Int)<(qs.length:Int):=om;have N:¬i<qs.length:=om;have e:xs.drop i=[]:=iM om;rw[e,GV]at hs;simp[r0,r3,r4,U,g];exact⟨by simp[sS,<-hs],kG⟩
inductive GP(X:List Nat)(h:ah)(c1 c2 c3:List AV):Nat->Nat->It->Prop where
 |st {a:Nat} {p:Pl} {nm:List UInt8} {fs:List Fd} {fv:AV} (hc:(c1.drop (a*2)).take 2=[.str nm,fv]) (hl:a*2+2<=c1.length) (ha:cu X h fv 3 fs.length (fs.flatMap OK)):GP X h c1 c2 c3 0 a (.struct p nm fs)
 |gl {a:Nat} {p:Pl} {ty nm:List UInt8} (hc:(c2.drop (a*3)).take 3=[.str ty,.str nm,.bool false]) (hl:a*3+3<=c2.length):GP X h c1 c2 c3 1 a (.global p ty nm)
 |fn {a:Nat} {p:Pl} {ty nm:List UInt8} {ps:List Pm} {b:Sm} {pv:AV} {id:Nat} (hc:(c3.drop (a*5)).take 5=[.str ty,.str nm,pv,.P id,.Z]) (hl:a*5+5<=c3.length) (ha:cu X h pv 3 ps.length (ps.flatMap OM)) (e:eK X h id b.rn):GP X h c1 c2 c3 2 a (.func p ty nm ps b)
theorem HX{c e:eu}{a k:Nat}(b:a+k<=c.length):((c++e).drop a).take k=(c.drop a).take k:=by
 rw[List.drop_append_of_le_length om,vi (by rw[bK];omega)]
theorem GP.more{X:cB}{h:ah}{c1 c2 c3:eu}{k a:Nat}{x:It}(s:GP X h c1 c2 c3 k a x)(e1 e2 e3:eu):GP X h (c1++e1) (c2++e2) (c3++e3) k a x:=by
 cases s with
 |st b f g=>exact .st (by rw[HX f];exact b) (by rw[aO];omega) g
 |gl b f=>exact .gl (by rw[HX f];exact b) (by rw[aO];omega)
 |fn b f g e=>exact .fn (by rw[HX f];exact b) (by rw[aO];omega) g e
theorem HY{c e:eu}{a k:Nat}(b:c.length=a)(he:e.length=k):((c++e).drop a).take k=e:=by
 subst b he;simp
structure Nk(X:List Nat)(h:ah)(l:List It)(c1 c2 c3:List AV):Prop where
 l1:c1.length=(l.filter oQ).length*2
 l2:c2.length=(l.filter oR).length*3
 l3:c3.length=(l.filter qh).length*5
 a1:∀i x,(l.filter oQ)[i]?=some x->GP X h c1 c2 c3 0 i x
 a2:∀i x,(l.filter oR)[i]?=some x->GP X h c1 c2 c3 1 i x
 a3:∀i x,(l.filter qh)[i]?=some x->GP X h c1 c2 c3 2 i x
theorem EP{l:nj}{y:It}{R:Nat->It->Prop}(old:∀i x,l[i]?=some x->R i x)(new:R l.length y):∀i x,(l++[y])[i]?=some x->R i x:=λi x a=>by
 rcases dJ i l.length with h|h
 ·rw[cS h]at a;exact old i x a
 ·rw[du h]at a;obtain⟨f,b⟩:=aV.1 a;simp only[ue]at f;have e:i=l.length:=by omega
  subst e;simp at b;exact b▸new
theorem Cq.at{X:cB}{h:ah}{l:nj}{c1 c2 c3:eu}(s:Cq X h l c1 c2 c3):Nk X h l c1 c2 c3:=by
 induction s with
 |nil=>exact⟨rfl,rfl,rfl,sp,sp,sp⟩
 |@st l c1 c2 c3 p nm fs fv s a j=>
  obtain⟨l1,l2,l3,a1,a2,a3⟩:=j;have g:=λ{k i:Nat}{x:It}(s:GP X h c1 c2 c3 k i x)=>(by simpa using s.more [.str nm,fv] [] []:GP X h (c1++[.str nm,fv]) c2 c3 k i x)
  refine⟨by simp[iz,oQ,l1];omega,by simp[oR,l2],by simp[qh,l3],?_,?_,?_⟩
  ·rw[ig];exact EP (λi x f=>g (a1 i x f)) (.st (HY l1 rfl) (by simp[l1]) a)
  ·simp only[ig,iz,oR,qS];simpa using λi x f=>g (a2 i x f)
  ·simp only[ig,iz,qh,qS];simpa using λi x f=>g (a3 i x f)
 |@gl l c1 c2 c3 p ty nm s j=>
  obtain⟨l1,l2,l3,a1,a2,a3⟩:=j;have g:=λ{k i:Nat}{x:It}(s:GP X h c1 c2 c3 k i x)=>(by simpa using s.more [] [.str ty,.str nm,.bool false] []:GP X h c1 (c2++[.str ty,.str nm,.bool false]) c3 k i x)
  refine⟨by simp[oQ,l1],by simp[iz,oR,l2];omega,by simp[qh,l3],?_,?_,?_⟩
  ·simp only[ig,iz,oQ,qS];simpa using λi x f=>g (a1 i x f)
  ·rw[ig];exact EP (λi x f=>g (a2 i x f)) (.gl (HY l2 rfl) (by simp[l2]))
  ·simp only[ig,iz,qh,qS];simpa using λi x f=>g (a3 i x f)
 |@fn l c1 c2 c3 p ty nm ps b pv id s a e j=>
  obtain⟨l1,l2,l3,a1,a2,a3⟩:=j;have g:=λ{k i:Nat}{x:It}(s:GP X h c1 c2 c3 k i x)=>(by simpa using s.more [] [] [.str ty,.str nm,pv,.P id,.Z]:GP X h c1 c2 (c3++[.str ty,.str nm,pv,.P id,.Z]) k i x)
  refine⟨by simp[oQ,l1],by simp[oR,l2],by simp[iz,qh,l3];omega,?_,?_,?_⟩
  ·simp only[ig,iz,oQ,qS];simpa using λi x f=>g (a1 i x f)
  ·simp only[ig,iz,oR,qS];simpa using λi x f=>g (a2 i x f)
  ·rw[ig];exact EP (λi x f=>g (a3 i x f)) (.fn (HY l3 rfl) (by simp[l3]) a e)
def Uy(l:List It):List (Nat×Nat):=(List.range (l.filter oQ).length).map (λi=>(0,i))++((List.range (l.filter oR).length).map (λi=>(1,i))++((List.range (l.filter qh).length).map (λi=>(2,i))).reverse)
def PW{α β:Type}(R:α->β->Prop)(l:List α)(m:List β):Prop:=l.length=m.length/\∀(i:Nat)(x:α)(y:β),l[i]?=some x->m[i]?=some y->R x y
theorem PW.app{α β:Type}{R:α->β->Prop}{l l':List α}{m e:List β}(h:PW R l m)(h':PW R l' e):PW R (l++l') (m++e):=
 ⟨by simp[h.1,h'.1],λi x y a b=>by
  rcases dJ i l.length with hi|hi
  ·rw[cS hi]at a;rw[cS (h.1▸hi)]at b;exact h.2 i x y a b
  ·rw[du hi]at a;rw[du (h.1▸hi),<-h.1]at b;exact h'.2 _ x y a b⟩
theorem PW.rev{α β:Type}{R:α->β->Prop}{l:List α}{m:List β}(h:PW R l m):PW R l.reverse m.reverse:=
 ⟨by simp[h.1],λi x y a b=>by
  obtain⟨hi,_⟩:=aV.1 a;rw[List.length_reverse]at hi;rw[List.getElem?_reverse hi]at a;rw[List.getElem?_reverse (h.1▸hi),<-h.1]at b;exact h.2 _ x y a b⟩
theorem PW.ix{R:Nat×Nat->It->Prop}{l:nj}{k:Nat}(h:∀i x,l[i]?=some x->R (k,i) x):PW R ((List.range l.length).map λi=>(k,i)) l:=
 ⟨sp,λi x y a b=>by
  obtain⟨hi,_⟩:=aV.1 b;rw[bt,wR hi]at a;simp at a;exact a▸h i y b⟩
theorem Nk.Dz{X:cB}{h:ah}{l:nj}{c1 c2 c3:eu}(s:Nk X h l c1 c2 c3):PW (λq x=>GP X h c1 c2 c3 q.1 q.2 x) (Uy l) (wh l):=
 (PW.ix s.a1).app ((PW.ix s.a2).app (PW.ix s.a3).rev)
theorem Nl:∀(fs:List Fd)(s:bu),s.length<=(EM s fs).length
 |[],s=>by simp[EM]
 |f::fs,s=>by
  have:=Nl fs (s++(32::(AW f.ty f.nm++[32,59])));rw[EM];simp at this⊢;omega
theorem H0:∀(fs:List Fd)(s:bu),(∀f∈fs,TL f.ty/\f.nm.length<=40)->(EM s fs).length<=s.length+500003*fs.length
 |[],s,_=>by simp[EM]
 |f::fs,s,h=>by
  have e:=H0 fs (s++(32::(AW f.ty f.nm++[32,59]))) λg i=>h g (by simp[i]);obtain⟨a,b⟩:=h f sp;have:=sW a b;rw[EM];simp at e⊢;omega
abbrev Ny(s:List UInt8)(first:Bool)(q:Pm):List UInt8:=(if q.AR=true then(if first=true then s else s++[32,44])++[32,112,117,98,108,105,99]else(if first=true then s else s++[32,44]))++32::AW q.ty q.nm
theorem Nn(s:bu)(b:Bool)(q:Pm):s.length<=(Ny s b q).length/\(Ny s b q).length<=s.length+10+(AW q.ty q.nm).length:=by
 unfold Ny;cases b<;>cases q.AR<;>simp<;>omega
theorem No:∀(ps:List Pm)(s:bu)(b:Bool),s.length<=(B5 s b ps).length
 |[],s,b=>by simp[B5]
 |q::ps,s,b=>bh (Nn s b q).1 (No ps _ false)
theorem Ib:∀(ps:List Pm)(s:bu)(b:Bool),(∀q∈ps,TL q.ty/\q.nm.length<=40)->(B5 s b ps).length<=s.length+500010*ps.length
 |[],s,b,_=>by simp[B5]
 |q::ps,s,b,h=>by
  have:=Ib ps (Ny s b q) false λg a=>h g (by simp[a]);obtain⟨x,y⟩:=h q sp;have:=sW x y;have:=(Nn s b q).2;show(B5 (Ny s b q) false ps).length<=_;simp only[ai];omega
theorem Kx.nm{fs:List Fd}{l:jC}(h:Kx fs l):∀f∈fs,f.nm.length<=40:=by
 induction h with
 |nil=>simp
 |cons ht i a hr b=>exact λf g=>(ak.1 g).elim (λe=>e▸ng a) (b f)
theorem Jh.nm{ps:List Pm}{l:jC}(h:Jh ps l):∀q∈ps,q.nm.length<=40:=by
 induction h with
 |one ht b=>exact λq a=>by simp at a;exact a▸ng b
 |cons ht b hr f=>exact λq a=>(ak.1 a).elim (λe=>e▸ng b) (f q)
def Told(P:Pl->Prop):It->Prop
 | .struct _ n fs=>n.length<=40/\fs.length<=250/\∀f∈fs,TL f.ty/\f.nm.length<=40
 | .global _ t n=>TL t/\n.length<=40
 | .func _ t n ps b=>TL t/\n.length<=40/\ps.length<=250/\(∀q∈ps,TL q.ty/\q.nm.length<=40)/\b.al P TL/\b.nodes<=250/\∃m,vf b m
theorem GK.told{P:Pl->Prop}{i:It}{l:jC}(h:GK i l)(al:i.al P)(wt:i.wt<=250):Told P i:=by
 cases h with
 |struct a g=>exact⟨ng a,by simp only[It.wt]at wt;omega,λf hm=>⟨(al.2.2 f hm).1,g.nm f hm⟩⟩
 |global ht m a=>exact⟨al.2,ng a⟩
 |func0 ht a b=>exact⟨al.2.1,ng a,sp,sp,al.2.2.2,by simp only[It.wt]at wt;omega,_,b⟩
 |func ht a j b=>exact⟨al.2.1,ng a,by simp only[It.wt]at wt;omega,λq e=>⟨(al.2.2.1 q e).2,j.nm q e⟩,al.2.2.2,by simp only[It.wt]at wt;omega,_,b⟩
theorem Told.le{P:Pl->Prop}:∀{i:It},Told P i->(sI i).length<=1000000000
 | .struct _ n fs,h=>by have:=H0 fs ([115,116,114,117,99,116,32]++n++[32,123]) h.2.2;have:=h.1;have:=h.2.1;simp[sI]at*;omega
 | .global _ t n,h=>by have:=sW h.1 h.2;simp[sI];omega
 | .func _ t n ps b,⟨a,j,o,e,f,p,m,g⟩=>by
  have:=Ib ps (sV t++32::n++[32,40]) true e;have:=rH t;have:=uY a;have:=g.le f;simp[sI]at*;omega
theorem Np:∀(l:nj)(s:bu)(b:Bool),s.length<=(Dm s b l).length
 |[],s,b=>by simp[Dm]
 |i::l,s,b=>by
  have:=Np l ((if b=true then s else s++[32])++sI i) false;rw[Dm];cases b<;>simp at this⊢<;>omega
theorem Nq{P:Pl->Prop}:∀(l:nj)(s:bu)(b:Bool),(∀i∈l,Told P i)->(Dm s b l).length<=s.length+1000000001*l.length
 |[],s,b,_=>by simp[Dm]
 |i::l,s,b,h=>by
  have e:=Nq l ((if b=true then s else s++[32])++sI i) false λj a=>h j (by simp[a]);have:=(h i sp).le;rw[Dm];cases b<;>simp at e⊢<;>omega
theorem cu.sm{X:cB}{h:ah}{av:AV}{es n:Nat}{cs:eu}(a:cu X h av es n cs)(e:0<cs.length):∃b,av= .S b n/\h.get b=some (.D es cs):=by
 rcases a with⟨_,rfl,_⟩|⟨b,rfl,_,g⟩
 ·simp at e
 ·exact⟨b,rfl,g⟩
theorem Jm{α:Type}{f:α->eu}{c:Nat}(g:∀x,(f x).length=c):∀(l:List α)(k:Nat)(h:k<l.length),((l.flatMap f).drop (k*c)).take c=f l[k]/\k*c+c<=(l.flatMap f).length
 |x::l,0,_=>by
  have:=g x;simp only[dy,Nat.zero_mul,List.drop_zero,List.getElem_cons_zero,aO];exact⟨by rw[vi om,cn om],om⟩
 |x::l,k+1,h=>by
  have h0:=g x;obtain⟨a,b⟩:=Jm g l k (U7 h);have e:(k+1)*c=(f x).length+k*c:=by rw[Nat.succ_mul];omega
  simp only[dy,aO,List.getElem_cons_succ];rw[e,<-List.drop_drop,List.drop_left];exact⟨a,om⟩
theorem Ic{c:eu}{a k i:Nat}{l:eu}(h:(c.drop a).take k=l)(hi:i<k):c[a+i]?=l[i]?:=by
 rw[<-h,List.getElem?_take_of_lt hi,eM]
theorem Jn:∀(fs:List Fd)(a b:bu),EM (a++b) fs=a++EM b fs
 |[],_,_=>rfl
 |f::fs,a,b=>by rw[EM,EM,aU,Jn fs]
theorem Jo:∀(ps:List Pm)(a b:bu)(c:Bool),B5 (a++b) c ps=a++B5 b c ps
 |[],_,_,_=>rfl
 |q::ps,a,b,c=>by
  show B5 (Ny (a++b) c q) false ps=a++B5 (Ny b c q) false ps;rw[<-Jo ps];congr 1;cases c<;>cases e:q.AR<;>simp[Ny,e]
def RY(q:Nat×Nat):List AV:=[.I q.1,.I q.2]
theorem Tz{P:Pl->Prop}{T:nj}{L:List (Nat×Nat)}{h H:ah}{g m1 m2 m3:Nat}{l1 l2 l3 l4 nd dp:AV}{c1 c2 c3:eu}(fr:bP h)(g0:h.get g=some (.C [l1,l2,l3,l4,nd,dp]))
 (b1:cu [] h l1 2 m1 c1) (u1:c1.length=m1*2) (b2:cu [] h l2 3 m2 c2) (u2:c2.length=m2*3) (b3:cu [] h l3 5 m3 c3) (u3:c3.length=m3*5) (b4:cu [] h l4 2 L.length (L.flatMap RY))
 (pw:PW (λq x=>GP [] h c1 c2 c3 q.1 q.2 x) L T) (ht:∀x∈T,Told P x) (hn:T.length<=300) (kH:aJ h H):
 ba env 7 [.P g] H (λout h'=>out= .ret (.str (Dm [] true T))/\aJ h h'):=by
 refine wb fn7 rfl ?_;obtain⟨F1,rfl⟩:=b4.len;have C9:=Nq T [] true ht;have gi:=λ{B:ah}(k:aJ h B)=>(k.old g (aw fr g0)).trans g0;have g1:=gi kH;simp[f7];refine bz (λm x=>∃(i:Nat)(s:bu),i<=T.length/\m=T.length-i/\x.n=150/\x.ds=[]/\x.bX=false/\aJ h x.h/\x.rg.get 0=some (.P g)/\x.rg.get 3=some (.str s)/\x.rg.get 4=some (.I i)/\Dm s (i==0) (T.drop i)=Dm [] true T) T.length ?_ ?_
 ·exact⟨0,[],bJ _,rfl,rfl,rfl,rfl,kH,sp,sp,sp,sp⟩
 rintro m ⟨rg,n',G,ds,bX⟩ ⟨i,s,hi,rfl,e1,e2,e3,S,r0,r3,r4,hs⟩
 dsimp only at e1 e2 e3 S r0 r3 r4;subst e1 e2 e3;have g1:=gi S;have C5:=Np (T.drop i) s (i==0);rw[hs]at C5;simp only[aW]at C9;have bS:Bd s 1000000000000:=⟨om⟩
 have F2:=pw.1;by_cases A5:i<T.length
 ·have U:i<L.length:=by omega
  have o:(i:Int)<(L.length:Int):=by omega
  have C:T.drop i=T[i]::T.drop (i+1):=bs A5;have hm:T[i]∈T:=bk A5;have it:=pw.2 i L[i] T[i] (aj U) (aj A5);have tx:=ht _ hm;obtain⟨f1,f2⟩:=Jm (f:=RY) (c:=2) (λ_=>rfl) L i U;have ck:=Ic (i:=0) f1 om;have ca:=Ic (i:=1) f1 om;obtain⟨v4,Au,C6⟩:=b4.sm om;injection Au with Au;subst Au;have gv:=λ{B:ah}(k:aJ h B)=>(k.old v4 (aw fr C6)).trans C6;have R:=gv S;have w1:=U8 i
  have fin:∀s'(B:ah),aJ h B->s'=(if(i==0)=true then s else s++[32])++sI T[i]->∃j,j<T.length-i/\∃k,k<=T.length/\j=T.length-k/\aJ h B/\((i:Int)+1=(k:Int))/\Dm s' (k==0) (T.drop k)=Dm [] true T:=λs' B kk e=>⟨T.length-(i+1),om,i+1,om,rfl,kk,om,by rw[<-hs,C,Dm,e];rfl⟩
  have two:(i=0/\¬(0:Int)<(i:Int)/\¬0<i)\/(i≠0/\(0:Int)<(i:Int)/\0<i):=by omega
  generalize hx:T[i]=x at*;generalize hq:L[i]=q at*;obtain⟨kk,a⟩:=q;simp only[RY,cw,rK,mr]at ck ca it;clear pw hs C C5 b4 f1;cases it with
  |@st _ p nm fs fv hc hl ha=>
   obtain⟨ab,rfl⟩:=ha.len;have nG:=S.nx;generalize C1:fs.flatMap OK=cs at ha;obtain⟨v,rfl,y⟩:=b1.sm om;have ga:=(S.old v (aw fr y)).trans y;have V:(a:Int)<(m1:Int):=om;have bN:Bd nm 40:=⟨tx.1⟩
   have fj:=(S.fresh fr) (G.nx+14) om
   obtain⟨Z,D⟩:∃Z,Z=if(i==0)=true then s else s++[32]:=⟨_,rfl⟩
   have C2:Bd Z 1000000000001:=⟨by rw[D];have:=bS.le;split<;>simp<;>omega⟩
   have fl:=H0 fs ([115,116,114,117,99,116,32]++nm++[32,123]) tx.2.2;have F3:=tx.2.1;have F4:=tx.1;simp only[aO,ai,aW]at fl;obtain⟨tg,F⟩:∃x,x=Z++EM ([115,116,114,117,99,116,32]++nm++[32,123]) fs:=⟨_,rfl⟩
   have tl:tg.length<=2000000000000:=(by rw[F,aO];have:=C2.le;omega);rcases two with⟨h0,h1,Q⟩|⟨h0,h1,Q⟩<;>(
    simp[r0,r3,r4,o,g1,R,ck,Q];refine Dd ?_;simp[r0,r3,r4,o,g1,R,ca,ga,V,hc,hl,fj];refine dl ?_;refine bz (λm x=>∃(k:Nat)(s2:bu),k<=fs.length/\m=fs.length-k/\x.n=150/\x.ds=[]/\x.bX=false/\aJ h x.h/\x.h.get (G.nx+14)=some (.C [.str nm,.slice ab fs.length])/\G.nx+14<x.h.nx/\x.rg.get 0=some (.P g)/\x.rg.get 3=some (.str s2)/\x.rg.get 4=some (.I i)/\x.rg.get 5=some (.P (G.nx+14))/\x.rg.get 6=some (.I k)/\EM s2 (fs.drop k)=tg) fs.length ?_ ?_
    ·exact⟨0,_,bJ _,rfl,rfl,rfl,rfl,by dsimp only;exact kT,sp,sp,by simp[r0],by simp;rfl,by simp[r4],sp,sp,by rw[F,<-Jn];simp[D,h0]⟩
    rintro m ⟨cC,n',G',ds,bX⟩ ⟨k,s2,hk,rfl,e1,e2,e3,u,gt,lt,I,J,K,A1,A2,w⟩
    dsimp only at e1 e2 e3 u gt lt I J K A1 A2;subst e1 e2 e3;have C3:=Nl (fs.drop k) s2;rw[w]at C3;have:Bd s2 2000000000000:=⟨om⟩
    by_cases N:k<fs.length
    ·have t:(k:Int)<(fs.length:Int):=om;have C:fs.drop k=fs[k]::fs.drop (k+1):=bs N;obtain⟨W,y2⟩:=Jm (f:=OK) (c:=3) (λ_=>rfl) fs k N;rw[C1]at W y2;obtain⟨va,O,A⟩:=ha.sm om;injection O with O;subst O;have C4:=(u.old va (aw fr A)).trans A;obtain⟨z1,z2⟩:=tx.2.2 _ (bk N);have z3:=uY z1;have:Bd (AW fs[k].ty fs[k].nm) 500000:=⟨sW z1 z2⟩
     have w2:=U8 k;simp only[OK]at W;simp[J,A1,A2,t,gt,C4,W,y2];refine(GO fs[k].ty fs[k].nm false om om _).m1 λQ k2=>?_;simp[I,K,A1,A2,w2];exact⟨_,om,k+1,om,rfl,u.trans k2,(k2.old _ lt).trans gt,aq lt k2.nx,om,by rw[<-w,C,EM]⟩
    ·have t:¬(k:Int)<(fs.length:Int):=om;have e:fs.drop k=[]:=iM om;rw[e,EM]at w;simp[I,J,K,A1,A2,t,gt,w1];exact fin _ _ u (by rw[w,F,D,sI];simp))
  |@gl _ p ty nm hc hl=>
   obtain⟨v,rfl,y⟩:=b2.sm om;have ga:=(S.old v (aw fr y)).trans y;have V:(a:Int)<(m2:Int):=om;have bD:Bd (AW ty nm) 500000:=⟨sW tx.1 tx.2⟩
   have z:=uY tx.1;have zn:=tx.2;rcases two with⟨h0,h1,Q⟩|⟨h0,h1,Q⟩<;>(
    simp[r0,r3,r4,o,g1,R,ck,Q];refine Dd ?_;simp[r0,r3,r4,o,g1,R,ca,ga,V,hc,hl];refine(GO ty nm false om om _).m1 λQ k2=>?_;have k2:aJ h Q:=aJ.trans kT k2;simp[r0,r4,w1];refine dl ?_;exact fin _ _ k2 (by simp[h0,sI]))
  |@fn _ p ty nm ps b pv id hc hl ha e=>
   obtain⟨ab,rfl⟩:=ha.len;have nG:=S.nx;generalize C1:ps.flatMap OM=cs at ha;obtain⟨v,rfl,y⟩:=b3.sm om;have ga:=(S.old v (aw fr y)).trans y;have V:(a:Int)<(m3:Int):=om;obtain⟨tt,tn,tp,tq,tb,CL,tm,tk⟩:=tx;have bN:Bd nm 40:=⟨tn⟩
   have z:=uY tt;have bW:Bd (sV ty) 300000:=⟨by have:=rH ty;omega⟩
   have bB:Bd (sS b) 1000000000:=⟨by have:=tk.le tb;omega⟩
   have fj:=(S.fresh fr) (G.nx+14) om
   obtain⟨Z,D⟩:∃Z,Z=if(i==0)=true then s else s++[32]:=⟨_,rfl⟩
   have C2:Bd Z 1000000000001:=⟨by rw[D];have:=bS.le;split<;>simp<;>omega⟩
   have fl:=Ib ps (sV ty++32::nm++[32,40]) true tq;have F5:=bW.le;simp only[aO,ai,aW]at fl;obtain⟨tg,F⟩:∃x,x=Z++B5 (sV ty++32::nm++[32,40]) true ps:=⟨_,rfl⟩
   have tl:tg.length<=2000000000000:=(by rw[F,aO];have:=C2.le;omega);rcases two with⟨h0,h1,Q⟩|⟨h0,h1,Q⟩<;>(
    simp[r0,r3,r4,o,g1,R,ck,Q];refine Dd ?_;simp[r0,r4,o,g1,R,ca,ga,V,hc,hl,fj];refine dl ?_;refine eF [0,1,2,6,7,3,4,5,8,9,10] kr (by simp[cz,dG];rfl) kr ?_;simp[r3];refine(Dp ty om _).m1 λQ hq=>?_;subst hq;simp;refine dl ?_;refine bz (λm x=>∃(k:Nat)(s2:bu),k<=ps.length/\m=ps.length-k/\x.n=150/\x.ds=[]/\x.bX=false/\aJ h x.h/\x.h.get (G.nx+14)=some (.C [.str ty,.str nm,.slice ab ps.length,.P id,.Z])/\G.nx+14<x.h.nx/\x.rg.get 0=some (.P g)/\x.rg.get 3=some (.str s2)/\x.rg.get 4=some (.I i)/\x.rg.get 7=some (.P (G.nx+14))/\x.rg.get 8=some (.I k)/\B5 s2 (k==0) (ps.drop k)=tg) ps.length ?_ ?_
    ·exact⟨0,_,bJ _,rfl,rfl,rfl,rfl,by dsimp only;exact kT,sp,sp,by simp[r0],by simp;rfl,by simp[r4],sp,sp,by rw[F,<-Jo];simp[D,h0]⟩
    rintro m ⟨cC,n',G',ds,bX⟩ ⟨k,s2,hk,rfl,e1,e2,e3,u,gt,lt,I,J,K,A3,A4,w⟩
    dsimp only at e1 e2 e3 u gt lt I J K A3 A4;subst e1 e2 e3;have C3:=No (ps.drop k) s2 (k==0);rw[w]at C3;have:Bd s2 2000000000000:=⟨om⟩
    by_cases N:k<ps.length
    ·have t:(k:Int)<(ps.length:Int):=om;have C:ps.drop k=ps[k]::ps.drop (k+1):=bs N;obtain⟨W,y2⟩:=Jm (f:=OM) (c:=3) (λ_=>rfl) ps k N;rw[C1]at W y2;have y3:=Ic (i:=2) W om;obtain⟨va,O,A⟩:=ha.sm om;injection O with O;subst O;have C4:=(u.old va (aw fr A)).trans A;obtain⟨z1,z2⟩:=tq _ (bk N);generalize ps[k]=q at C W y3 z1 z2;have z3:=uY z1;have:Bd (AW q.ty q.nm) 500000:=⟨sW z1 z2⟩
     have w2:=U8 k;simp only[OM,rK,cw]at W y3;have C7:∀(s':bu)(B:ah),aJ h B->B.get (G.nx+14)=some (.C [.str ty,.str nm,.S va ps.length,.P id,.Z])->G.nx+14<B.nx->s'=Ny s2 (k==0) q->∃j,j<ps.length-k/\∃k',k'<=ps.length/\j=ps.length-k'/\aJ h B/\B.get (G.nx+14)=some (.C [.str ty,.str nm,.S va ps.length,.P id,.Z])/\G.nx+14<B.nx/\(k:Int)+1=(k':Int)/\B5 s' (k'==0) (ps.drop k')=tg:=λs' B kk gg ll e=>⟨_,om,k+1,om,rfl,kk,gg,ll,om,by rw[<-w,C,e];rfl⟩
     have F0:(k=0/\¬(0:Int)<(k:Int)/\¬0<k)\/(k≠0/\(0:Int)<(k:Int)/\0<k):=om;rcases F0 with⟨j0,j1,j2⟩|⟨j0,j1,j2⟩<;>cases C8:q.AR<;>(
      rw[C8]at W y3;simp[J,A3,A4,t,gt,C4,W,y2,y3,j2];refine(GO q.ty q.nm _ om om _).m1 λQ k2=>?_;simp[I,K,A3,A4,w2];exact C7 _ _ (u.trans k2) ((k2.old _ lt).trans gt) (aq lt k2.nx) (by simp[Ny,C8,j0]))
    ·have t:¬(k:Int)<(ps.length:Int):=om;have e0:ps.drop k=[]:=iM om;rw[e0,B5]at w;simp[J,A3,A4,t,gt];refine(Tx 250 tk CL om tb fr e u).m1 λQ k2=>?_;simp[I,K,w1];exact fin _ _ k2 (by rw[w,F,D,sI];simp))
 ·have U:¬i<L.length:=by omega
  have o:¬(i:Int)<(L.length:Int):=by omega
  have e:T.drop i=[]:=iM om;rw[e,Dm]at hs;simp[r0,r3,r4,o,g1];exact⟨hs,S⟩
end Go.Proofs.YtaekaifihehgdaaGreatDoor
