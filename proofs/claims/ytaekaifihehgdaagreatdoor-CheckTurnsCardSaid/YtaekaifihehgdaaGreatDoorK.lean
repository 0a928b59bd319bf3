/- Lemmas for CheckTurns; each states its own conditions. -/
import Derived.Test.YtaekaifihehgdaaGreatDoorJ
set_option maxRecDepth 100000
set_option maxHeartbeats 0
set_option linter.unusedSimpArgs false
set_option linter.unusedVariables false
namespace Go.Proofs.YtaekaifihehgdaaGreatDoor
open Go.Am Tryz
section
theorem ON{b:Nat}{w:Wo}{rs bH:dh}{t:Sm}(h:G .pW b (w::rs) bH (.s t))(f:eX w [123]):G .ub b (w::rs) bH (.s t):=by
 have e:bF (w::rs) [123]=true:=by rw[f.bF];decide
 have ne:∀x:bu,eX w x->x=[123]:=λx g=>g.t.symm.trans f.t;cases h with
 |uD e i=>exact i.mono (cp _)
 |uE j=>have:=ne _ j;simp at this
 |CT hi=>have:=ne _ hi;simp at this
 |tU hi=>have:=ne _ hi;simp at this
 |jJ hi=>have:=ne _ hi;simp at this
 |uF hi=>have:=ne _ hi;simp at this
 |nW hi=>have:=ne _ hi;simp at this
 |nZ hi=>have:=ne _ hi;simp at this
 |oa hi=>have:=ne _ hi;simp at this
 |uG hi=>have:=ne _ hi;simp at this
 |uH a=>simp[Cr,anyS,e]at a
 |tV a=>simp[Cr,anyS,e]at a
def L7(I a:RI):Prop:=a.r=I.r/\a.g=I.g/\a.b=I.b/\a.W=I.W
structure LL(I:RI)(h2:ah)(tI:Nat)(oc:List AV)(fv:AV)(m:Nat)(cs:List AV)(H:ah):Prop where
 get:H.get tI=some (.C oc)
 lo:h2.nx<=tI
 lt:tI<H.nx
 kx:aR I.X h2 H
 rl:I.r<h2.nx
 gl:I.g<h2.nx
 bl:I.b<h2.nx
 arr:cu [tI,I.r,I.g,I.b] H fv 3 m cs
 len:cs.length=m*3
 z:∀z,z∈aT fv->h2.nx<=z
theorem LL.ar{I:RI}{h2 H:ah}{tI m lo n:Nat}{oc cs c1 c2 c3 c4:eu}{fv:AV}(l:LL I h2 tI oc fv m cs H)(x:GA I.r I.g I.b lo n (I.L c1 c2 c3 c4) h2)(f:bP h2){Y:cB}(a:∀y,y∈Y->y<lo)(e:lo<=h2.nx):cu (Y++I.ar) H fv 3 m cs:=
 l.arr.re λz o i ho=>⟨ho,λhm=>by
  have:=l.z z i;have:=l.rl;have:=l.gl;have:=l.bl;simp only[RI.ar,aP,ak]at hm;rcases hm with h|h|h|h|h
  ·have:=a z h;omega
  ·omega
  ·omega
  ·omega
  ·obtain⟨o,ho⟩:=x.in (show z∈oP (I.L c1 c2 c3 c4)from h);have:=aw f ho;omega⟩
theorem RI.sub(I:RI)(Y:cB):∀z,z∈I.X->z∈Y++I.ar:=λz a=>by
 simp only[RI.X,ak,bm,cT]at a;simp only[RI.ar,aP,ak];exact .inr (a.elim .inl λh=> .inr (.inl h))
section
variable{I:RI}{s:RS}{h2 H H':ah}{tI m:Nat}{oc cs:eu}{fv:AV}
theorem LL.nr(l:LL I h2 tI oc fv m cs H):tI≠I.r/\tI≠I.g/\tI≠I.b:=by have:=l.lo;have:=l.rl;have:=l.gl;have:=l.bl;omega
theorem LL.call(l:LL I h2 tI oc fv m cs H)(fr:bP H)(kx:aR I.X H H'):LL I h2 tI oc fv m cs H':=
 ⟨(
  kx.old tI l.lt (by simp[RI.X,l.nr.1,l.nr.2.1])).trans l.get,l.lo,aq l.lt kx.nx,l.kx.trans kx,l.rl,l.gl,l.bl,l.arr.kx fr kx (λy a=>by
  simp only[RI.X,ak,bm,cT]at a⊢;rcases a with h|h
  ·exact .inr (.inl h)
  ·exact .inr (.inr (.inl h))),l.len,l.z⟩
theorem LL.aH(l:LL I h2 tI oc fv m cs H)(fr:bP H)(k:aJ H H'):LL I h2 tI oc fv m cs H':=l.call fr (k.x _)
theorem LL.put(l:LL I h2 tI oc fv m cs H)(p:RP I s H)(a:eu):∃H',H.set tI (.C a)=H'/\LL I h2 tI a fv m cs H'/\RP I s H':=by
 have nr:=l.nr;exact⟨_,rfl,⟨by rw[ah.aM,aY rfl],l.lo,l.lt,aR.set _ l.kx (.inr l.lo) l.lt,l.rl,l.gl,l.bl,l.arr.move (Move.on _ sp),l.len,l.z⟩,p.put _ nr.1 nr.2.1 nr.2.2 l.lt⟩
theorem LL.set(l:LL I h2 tI oc fv m cs H){i:Nat}(o:dK)(hi:h2.nx<=i)(b:i≠tI)(f:i∉aT fv)(g:i<H.nx):LL I h2 tI oc fv m cs (H.set i o):=
 ⟨by rw[ah.aM,ay (iV b)];exact l.get,l.lo,l.lt,aR.set _ l.kx (.inr hi) g,l.rl,l.gl,l.bl,l.arr.re (λz ob a ho=>⟨by rw[ah.aM,ay (λe:z=i=>f (e▸a))];exact ho,(l.arr.ni a).1⟩),l.len,l.z⟩
theorem LL.push(l:LL I h2 tI oc fv m cs H)(p:RP I s H)(hm:m<=300)(i:eu)(j:i.length=3)(t:i.all AV.scalar=true):
 ∃f,aK env (H.alloc (.D 3 i)).2 30 fv (.S H.nx 1)=some (.S (H.nx+1) (m+1),f)/\f.get tI=some (.C oc)/\f.nx=H.nx+2/\
  ∀h,LL I h2 tI h (.S (H.nx+1) (m+1)) (m+1) (cs++i) (f.set tI (.C h))/\RP I s (f.set tI (.C h)):=by
 have K:=(aJ.refl H).alloc (.D 3 i);have l2:=l.aH p.fr K;have w:=p.aH K;have lt:=l.lt;have lo:=l.lo;have nr:=l.nr;obtain⟨f,y,nx,g7,u⟩:=oW (es:=2) (st:=30) (e:=64) rfl ty64.1 ty64.2.1 dc ty64.2.2.2 rfl l2.arr l.len hm H.nx i j t sp w.fr;have o:(H.alloc (.D 3 i)).2.nx=H.nx+1:=rfl
 rw[o]at y nx g7;have ni:∀z,z∈aT fv->z≠tI/\z≠I.r/\z≠I.g/\z≠I.b:=λz a=>by
  have:=(l.arr.ni a).1;simp only[ak,bm,cT,iS]at this;exact this
 have A:=w.off u (λa=>(ni _ a).2.1 rfl) (λa=>(ni _ a).2.2.1 rfl) (λa=>(ni _ a).2.2.2 rfl);have B:f.get tI=some (.C oc):=by rw[u.old tI (by rw[o];omega) (λa=>(ni _ a).1 rfl)];exact l2.get
 have v:aR I.X h2 f:=l2.kx.trans' u (λz a C=>by have:=l.z z a;omega);refine⟨f,y,B,om,λh=>⟨⟨by rw[ah.aM,aY rfl],l.lo,by simp only[ah.set];omega,aR.set _ v (.inr l.lo) om,l.rl,l.gl,l.bl,.inr ⟨H.nx+1,rfl,?_,by rw[ah.aM,ay om];exact g7⟩,by simp[l.len,j];omega,?_⟩,A.put _ nr.1 nr.2.1 nr.2.2 om⟩⟩
 ·have:=l.rl;have:=l.gl;have:=l.bl;simp;omega
 ·intro z a;simp only[aT,aQ]at a;omega
end
theorem CR{E:Env}{P:T AV->ah->Prop}{n:Nat}{f:FuncId}{args:eu}{G:Prop}(ops:Array Oper)(rest:List Oper)(a:bT->St->Prop)(d:Option Tmp)(hm:(∀cC h',P cC h'->ba E f args h' (uQ E ops rest a d cC n [] false))->G)(ht:∀cC h',P cC h'->ba E f args h' (uQ E ops rest a d cC n [] false)):G:=hm ht
def PM(ws bH:List Wo)(l:List Pm):Prop:=(∃c,ws=c::bH/\eX c [41]/\l=[])\/∃c dR,ws=c::dR/\eX c [44]/\rM dR bH l
structure S5(I:RI)(s5:RS)(OO:List Wo)(ps:List Pm):Prop where
 nil:ps=[]->I.W.drop s5.k=OO
 cons:ps≠[]->bF OO [41]=false/\∀bH l,PM (I.W.drop s5.k) bH l->rM OO bH (ps++l)
theorem S6{I:RI}{s:RS}{h:ah}{Q:Out->ah->Prop}(p:RP I s h)(f:∀b s' h',RP I s' h'->jA s s'->s'.dp=s.dp->(s'.bad=false->Ks (I.W.drop s.k) (I.W.drop s'.k) b)->aR I.X h h'->Q (.ret (.bool b)) h'):
 ba env 27 [.P I.r,.str [112,117,98,108,105,99]] h Q:=by
 refine gO p (λa h2 e k2=>?_) λa h2 e k2=>?_
 ·obtain⟨g,w,rs,hw,i,j⟩:=eL a;exact f true _ _ e (jA.of (cp _) rfl (ao _) id) rfl (λ_=>by simp only[j];rw[hw];exact .yes i) k2
 ·exact f false _ _ e (jA.refl _) rfl (λg=> .no (gQ a g)) (k2.x _)
theorem Rm{I:RI}{s:RS}{lo n:Nat}{c1 c2 c3 c4:eu}{h:ah}{Q:Out->ah->Prop}(p:RP I s h)(ga:GA I.r I.g I.b lo n (I.L c1 c2 c3 c4) h)(hn:n<=290)(ML:lo<=h.nx){Y:cB}(hY:∀y,y∈Y->y<lo)(hd:s.dep=0)(b1:s.bad=false)
 (hQ:∀I' s' K2 K3 K4 MN h',RP I' s' h'->GA I'.r I'.g I'.b lo (n+2) (I'.L K2 K3 K4 MN) h'->L7 I I'->(∀i,i<lo->h'.get i=h.get i)->h.nx<=h'.nx->s.k<=s'.k->(s'.bad=false->s.k+2<=s'.k/\s'.dep=0/\s.dp<=s'.dp/\∃it,(∀b,s'.dp<=b->Item b (I.W.drop s.k) (I.W.drop s'.k) it)/\∀l,Cq (Y++I.ar) h l c1 c2 c3->Cq (Y++I'.ar) h' (l++[it]) K2 K3 K4)->Q (.ret (.iO [])) h'):
 ba env 13 [.P I.r] h Q:=by
 refine wb fn13 rfl ?_;have wl:=p.AE.len;have rl:=p.rl;have gl:=p.gl;have bl:=p.bl;simp[f13];refine Db p λt s1 h1 p1 a1 d1 l1 f1 k1=>?_;have g1:=ga.call p.fr k1;have K5:=bh ML k1.nx;have F4:∀i,i<lo->h1.get i=h.get i:=λi hi=>k1.old i om (by simp[RI.X];have:=ga.lor;have:=ga.log;omega);have b2:=k1.nx;apply CR (E:=env) (n:=243) (f:=28) (args:=[.P I.r]) (P:=λcC h'=>cC.get 0=some (.P I.r)/\cC.get 2=some (.str t)/\RP I s1 h'/\aJ h1 h')
 case hm=>
  intro H6;obtain⟨Lt,MY⟩:∃x,x=t.length-1:=⟨_,rfl⟩
  by_cases hA:7<t.length
  ·have F7:(7:Int)<(t.length:Int):=om;have F1:(7:Int)<=(t.length:Int):=om;have wL:IntKind.wrap .i64 ((t.length:Int)-1)=(Lt:Int):=wq;have HC:Lt<t.length:=om;obtain⟨x,hx⟩:∃x,t[Lt]?=some x:=⟨_,aj HC⟩
   have K7:t[Lt]=x:=(by rw[aj HC]at hx;injection hx);cases hB:(t.take 7==[115,116,114,117,99,116,32])with
   |true=>
    cases hC:((x.toNat:Int) !=42)with
    |true=>
     simp[F7,F1,hB,wL,HC,K7,hC];refine gO p1 (λhs h2 p2 k2=>?_) λhs h2 p2 k2=>?_
     ·obtain⟨KA,o,KH,OL,Q2,QQ⟩:=eL hs;have hT:=f1 KA;have I3:t.getLast?≠some 42:=by
       rw[List.getLast?_eq_getElem?,<-MY,hx];intro e;injection e with e;rw[e]at hC;simp at hC
      obtain⟨w,nw,e1,e2,e3,e4⟩:=hT.st hA (U7 hB) I3;simp[F1];have I4:aJ h2 ((h2.alloc (.C [.str [],.Z])).2.set h2.nx (.C [.str (t.drop 7),.Z])):=kT;have p3:=p2.aH I4;have l3:LL I h2 h2.nx [.str (t.drop 7),.Z] (.Z) 0 [] ((h2.alloc (.C [.str [],.Z])).2.set h2.nx (.C [.str (t.drop 7),.Z])):=
       ⟨sp,ao _,sp,I4.x _,p2.rl,p2.gl,p2.bl,.inl ⟨rfl,rfl,rfl⟩,rfl,by simp[aT]⟩
      generalize ((h2.alloc (.C [.str [],.Z])).2.set h2.nx (.C [.str (t.drop 7),.Z]))=h3 at*;obtain⟨tI,FF⟩:∃x,x=h2.nx:=⟨_,rfl⟩
      rw[<-FF]at l3;clear I4;obtain⟨J,hJ⟩:∃J:Nat->St->Prop,J=(λm x=>∃s5 fv mm cs fs,m=s5.ms I.W.length/\x.n=243/\x.ds=[]/\x.bX=false/\RP I s5 x.h/\LL I h2 tI [.str (t.drop 7),fv] fv mm cs x.h/\jA ⟨s1.k+1,s1.bad,s1.dep,s1.dp⟩ s5/\(s5.bad=false->mm<=s5.k/\(cs=fs.flatMap OK/\mm=fs.length)/\∀bH l,Fields (I.W.drop s5.k) bH l->Fields KH bH (fs++l))/\
       x.rg.get 0=some (.P I.r)/\x.rg.get 3=some (.P tI)):=⟨_,rfl⟩
      refine bz J (RS.ms ⟨s1.k+1,s1.bad,s1.dep,s1.dp⟩ I.W.length) ?_ ?_
      ·rw[hJ];exact⟨⟨s1.k+1,s1.bad,s1.dep,s1.dp⟩,.Z,0,[],[],rfl,rfl,rfl,rfl,p3,l3,jA.refl _,λ_=>⟨bJ _,⟨rfl,rfl⟩,λbH l hF=>by simp only[QQ]at hF;exact hF⟩,sp,by simp[FF]⟩
      intro m st A4;have FO:=A4;rw[hJ]at FO;obtain⟨rg,n',H,ds,bX⟩:=st;obtain⟨s5,fv,mm,cs,fs,rfl,x1,x2,x3,p5,l5,a5,F5,r0,r3⟩:=FO;dsimp only at x1 x2 x3 p5 l5 r0 r3;subst x1 x2 x3;have o5:=p5.obj;have S0:=p5.kl;apply CR (E:=env) (n:=243) (f:=30) (args:=[.P I.r,.str [59]]) (P:=λcC h'=>cC.get 0=some (.P I.r)/\cC.get 3=some (.P tI)/\∃s6,RP I s6 h'/\LL I h2 tI [.str (t.drop 7),fv] fv mm cs h'/\jA ⟨s1.k+1,s1.bad,s1.dep,s1.dp⟩ s6/\(s6.bad=false->(cs=fs.flatMap OK/\mm=fs.length)/\Fields KH (I.W.drop s6.k) fs))
      case hm=>
       intro out;cases S:s5.bad with
       |true=>
        simp[r0,o5,S];refine out _ _ ?_;exact⟨by simp[r0],by simp[r3],s5,p5,l5,a5,λv=>by rw[S]at v;cases v⟩
       |false=>
        obtain⟨S1,F2,hF⟩:=F5 S;simp[r0,o5,S];refine gO p5 (λCL h6 V k6=>?_) λCL h6 V k6=>?_
        ·obtain⟨_,c,I5,HE,HG,I6⟩:=eL CL;simp[r0];refine out _ _ ?_;exact⟨by simp[r0],by simp[r3],_,V,l5.call p5.fr k6,a5.trans (jA.of (cp _) rfl (ao _) id),λ_=>by
          have:=hF I5 [] (by rw[HE];exact .done HG);rw[fi]at this;simp only;rw[I6];exact⟨F2,this⟩⟩
        ·have l6:=l5.aH p5.fr k6;have HP:=gQ CL S;simp[r0];refine Db V λty s7 a C a7 d7 b3 f7 k7=>?_;have N:=l6.call V.fr k7;have Z:=N.kx.nx;have S2:=N.lt;have FP:a.nx∉aT fv:=λv=>by
          obtain⟨_,ob,ho⟩:=N.arr.ni v;have:=aw C.fr ho;omega
         have K8:aJ a ((a.alloc (.C [.str [],.str [],.bool false])).2.set a.nx (.C [.str ty,.str [],.bool false])):=kT;have D:=C.aH K8;have l8:=N.aH C.fr K8;have HU:((a.alloc (.C [.str [],.str [],.bool false])).2.set a.nx (.C [.str ty,.str [],.bool false])).get a.nx=some (.C [.str ty,.str [],.bool false]):=sp;have F3:a.nx<((a.alloc (.C [.str [],.str [],.bool false])).2.set a.nx (.C [.str ty,.str [],.bool false])).nx:=by simp
         simp[r0];generalize ((a.alloc (.C [.str [],.str [],.bool false])).2.set a.nx (.C [.str ty,.str [],.bool false]))=h8 at*;have u:a.nx≠I.r/\a.nx≠I.g/\a.nx≠I.b/\a.nx≠tI:=(by have:=N.rl;have:=N.gl;have:=N.bl;omega);generalize a.nx=dI at*;refine vW D λnm s9 h9 p9 a9 S3 d9 T0 f9 k9=>?_;have IB:=(k9.old dI F3 (by simp[RI.X,u.1,u.2.1])).trans HU;have l9:=l8.call D.fr k9;have A3:=aq F3 k9.nx;simp[r0,IB];have pA:=p9.put (.C [.str ty,.str nm,.bool false]) u.1 u.2.1 u.2.2.1 A3;have lA:=l9.set (.C [.str ty,.str nm,.bool false]) Z u.2.2.2 FP A3;refine AS ty om pA λty2 sB hB pB aB dB b4 fB kB=>?_;have KK:=kB.old dI (by simp only[ah.set];exact A3) (by simp[RI.X,u.1,u.2.1]);simp at KK;have lB:=lA.call pA.fr kB;have IH:dI<hB.nx:=aq (by simp only[ah.set];exact A3) kB.nx;simp[r0,KK];have pC:=pB.put (.C [.str ty2,.str nm,.bool false]) u.1 u.2.1 u.2.2.1 IH;have lC:=lB.set (.C [.str ty2,.str nm,.bool false]) Z u.2.2.2 FP IH;refine gd pC λsD hD pD aD T2 dD fD kD=>?_;have FQ:=kD.old dI (by simp only[ah.set];exact IH) (by simp[RI.X,u.1,u.2.1]);simp at FQ;have lD:=lC.call pC.fr kD;have gT:=lD.get;simp[-aK,r3,gT,FQ];obtain⟨H7,Ia,Ik,KL,F0⟩:=lD.push pD (by have:=p5.AE.len;omega) [.str ty2,.str nm,.bool false] rfl rfl;rw[Ia];obtain⟨lE,pE⟩:=F0 [.str (t.drop 7),.S (hD.nx+1) (mm+1)];simp[-aK,r3,Ik];rw[hJ];have A:=a7.trans (a9.trans (aB.trans aD));refine⟨sD.ms I.W.length,Dc A S (λv=>?_) pD.kl,sD,_,_,_,fs++[⟨ty2,nm⟩],rfl,rfl,rfl,rfl,pE,lE,a5.trans A,λv=>?_,by simp[r0],by simp[r3]⟩
         ·obtain⟨c1,r1,y1,y2,y3,y4⟩:=fD v;have:=A.k;have:=aD.k;have:=aB.k;have:=a9.k;have:=a7.k;omega
         ·obtain⟨c1,r1,y1,y2,y3,y4⟩:=fD v;have FW:=fB (aD.bad v);obtain⟨n1,r2,z1,z2,z3,z4,z5⟩:=f9 (aB.bad (aD.bad v));have A5:=f7 (a9.bad (aB.bad (aD.bad v)));have u1:=a7.k;have u2:=aB.k;refine⟨om,⟨by rw[F2.1];simp[OK],by simp[F2.2]⟩,λbH l T4=>?_⟩;rw[aU];refine hF bH _ ?_;rw[z1,<-z4]at A5;rw[y1,<-y3]at FW;subst z3;exact .field HP A5 z2 FW y2 T4
      case ht=>
       intro rg h5 hP;obtain⟨r0,r3,s6,V,l6,a6,F6⟩:=hP;refine gd V λs7 a C a7 TH d7 f7 k7=>?_;have N:=l6.call V.fr k7;have gT:=N.get;have J2:GA I.r I.g I.b lo n (I.L c1 c2 c3 c4) a:=(((g1.call p1.fr k2).call p2.fr N.kx))
       have G2:∀i,i<lo->a.get i=h.get i:=λi hi=>by
        have hr:=ga.lor;have hg:=ga.log;have ni:i∉I.X:=(by simp[RI.X];omega);have n2:=k2.nx;rw[N.kx.old i om ni,k2.old i om ni];exact F4 i hi
       have Z:lo<=a.nx:=(by have:=N.kx.nx;have:=k2.nx;omega);have KL:h.nx<=a.nx:=(by have:=N.kx.nx;have:=k2.nx;omega);obtain⟨ab,G3⟩:∃ab,fv= .slice ab mm:=by
        rcases N.arr with⟨u1,u2,u3⟩|⟨bb,u1,_,_⟩
        ·exact⟨none,by rw[u3,u1]⟩
        ·exact⟨some (bb,0),u1⟩
       subst G3;simp;refine Dd ?_;have oX:=C.obj;obtain⟨nd,pg⟩:=C.prog;have fj:=C.fr (a.nx+12) om;have KT:=C.rg;simp[-aK,r0,r3,oX,pg,gT,fj];refine dm ?_;have KB:aJ a (a.bump 17):=kT;obtain⟨m1,H8,Au,G4,KX,G5,C1,Kc,D,F⟩:=(C.aH KB).app (A:=[]) (B:=[_,_,_]) (st:=29) (e:=61) rfl ty61.1 ty61.2.1 dc ty61.2.2.2 rfl (J2.call C.fr (KB.x _)) IN (j:=a.nx+12) fj sp om [.str (t.drop 7),.slice ab mm] rfl rfl om;obtain⟨F,A1⟩:=F (.C [.S (a.nx+17) (m1+1),I.l2,I.l3,I.l4,.I nd,.I s7.dp]);have D:=D.li nd (.S (a.nx+17) (m1+1)) I.l2 I.l3 I.l4;have C2:H8.get I.g=some (.C [I.l1,I.l2,I.l3,I.l4,.I nd,.I s7.dp]):=G5.trans pg;simp[-aK]at Au G4 D F A1;simp[-aK,Au,C2];refine dl ?_;refine Dd ?_;have GL:IntKind.wrap .i64 (m1:Int)=(m1:Int):=wq;have o9:=D.obj;have O:(H8.set I.g (.C [.S (a.nx+17) (m1+1),I.l2,I.l3,I.l4,.I nd,.I s7.dp])).get I.g=some (.C [.S (a.nx+17) (m1+1),I.l2,I.l3,I.l4,.I nd,.I s7.dp]):=sp;obtain⟨K,A2⟩:∃x,x=H8.set I.g (.C [.S (a.nx+17) (m1+1),I.l2,I.l3,I.l4,.I nd,.I s7.dp]):=⟨_,rfl⟩
       have L0:K.nx=a.nx+18:=(by rw[A2];simp only[ah.set];omega);rw[<-A2]at D F A1 o9 O⊢;have C3:=D.fr (K.nx+21) om;simp only at o9 O;simp[-aK,r0,o9,O,C3,GL];refine dm ?_;have KC:aJ K (K.bump 26):=kT;obtain⟨m4,HA,C4,Gq,H2,H3,C5,L1,pA,R⟩:=(D.aH KC).app (A:=[_,_,_]) (B:=[]) (st:=32) (e:=36) rfl ty36.1 ty36.2.1 dc ty36.2.2.2 rfl (F.call D.fr (KC.x _)) IN (j:=K.nx+21) C3 sp om [.I 0,.I m1] rfl rfl om;obtain⟨R,C6⟩:=R (.C [.S (a.nx+17) (m1+1),I.l2,I.l3,.S (K.nx+26) (m4+1),.I nd,.I s7.dp]);have pA:=pA.li nd (.S (a.nx+17) (m1+1)) I.l2 I.l3 (.S (K.nx+26) (m4+1));have U:=H3.trans (show(K.bump 26).get I.g=_ from O);have C7:=H2.trans (show(K.bump 26).get I.r=_ from o9);simp[-aK]at C4 Gq pA R C6 U C7;simp[-aK,C4,U];refine dl ?_;have C8:∀i,i<lo->(HA.set I.g (.C [.S (a.nx+17) (m1+1),I.l2,I.l3,.S (K.nx+26) (m4+1),.I nd,.I s7.dp])).get i=h.get i:=λi hi=>by
        have hg:=ga.log;rw[ah.aM,ay om,C5 i hi];show K.get i=_;rw[A2,ah.aM,ay om,C1 i hi];exact G2 i hi
       have BE:=Move.add (Y:=Y) (X:=I.ar) ((Move.k C.fr KB).comp (A1.comp ((Move.k D.fr KC).comp C6)));refine hQ _ s7 _ _ _ _ _ pA R ⟨rfl,rfl,rfl,rfl⟩ C8 (by simp only[ah.set];omega) (by have:=a1.k;have:=a6.k;have:=a7.k;simp only at*;omega) (λv=>?_);obtain⟨c2,r2,y1,y2,y3,y4⟩:=f7 v;have HZ:=F6 (a7.bad v);have v1:=a6.dep (a7.bad v);have v2:=a1.dep KA;have v3:=a7.dep v;have v4:=a1.dp;have v5:=a6.dp;have v7:=a6.k;have v8:=a1.k;simp only at v1 v5 v7;have v9:=hT.jx;simp only[bK]at v9;refine⟨om,om,om,.struct w.at nw.text fs,λb _=>?_,λl hl=>?_⟩
       ·rw[y1,<-y3]at HZ;rw[e1];rw[OL];exact .struct e2 e3 Q2 HZ.2 y2
       ·rw[e4];have:=((N.ar (g1.call p1.fr k2) p2.fr hY (bh K5 k2.nx)).move BE).cast HZ.1.2 HZ.1.1;exact .st (hl.move ((Move.of p.fr (k1.trans (k2.trans N.kx)) (λz v _=>I.sub Y z v) λ_ hy=> .inl hy).comp BE)) this
     ·simp;exact H6 _ _ ⟨sp,sp,p2,k2⟩
    |false=>
     simp[F7,F1,hB,wL,HC,K7,hC];exact H6 _ _ ⟨sp,sp,p1,aJ.refl _⟩
   |false=>
    simp[F7,F1,hB];exact H6 _ _ ⟨sp,sp,p1,aJ.refl _⟩
  ·have F7:¬(7:Int)<(t.length:Int):=om;simp[F7];exact H6 _ _ ⟨sp,sp,p1,aJ.refl _⟩
 case ht=>
  intro rg h2 hP;obtain⟨r0,r2,p2,k2⟩:=hP;have g2:=g1.call p1.fr (k2.x _);refine vW p2 λnm s3 h3 p3 a3 b5 d3 l3 f3 k3=>?_;have g3:=g2.call p2.fr k3;simp[r0];refine gO p3 (λhs h4 p4 k4=>?_) λhs h4 p4 k4=>?_
  ·simp[r2];obtain⟨b6,oo,OO,V2,Li,V5⟩:=eL hs;have g4:=g3.call p3.fr k4;have KF:aJ h4 ((h4.alloc (.C [.str [],.str [],.Z,.N,.Z])).2.set h4.nx (.C [.str t,.str nm,.Z,.N,.Z])):=kT;have pF:=p4.aH KF;have lF:LL I h4 h4.nx [.str t,.str nm,.Z,.N,.Z] (.Z) 0 [] ((h4.alloc (.C [.str [],.str [],.Z,.N,.Z])).2.set h4.nx (.C [.str t,.str nm,.Z,.N,.Z])):=
    ⟨sp,ao _,sp,KF.x _,p4.rl,p4.gl,p4.bl,.inl ⟨rfl,rfl,rfl⟩,rfl,by simp[aT]⟩
   obtain⟨hF,Lj⟩:∃x,x=((h4.alloc (.C [.str [],.str [],.Z,.N,.Z])).2.set h4.nx (.C [.str t,.str nm,.Z,.N,.Z])):=⟨_,rfl⟩
   rw[<-Lj]at KF pF lF⊢;clear Lj;obtain⟨tI,FF⟩:∃x,x=h4.nx:=⟨_,rfl⟩
   rw[<-FF]at lF;obtain⟨J,hJ⟩:∃J:Nat->St->Prop,J=(λm x=>∃s5 fv mm cs ps,m=s5.ms I.W.length/\x.n=243/\x.ds=[]/\x.bX=false/\RP I s5 x.h/\LL I h4 tI [.str t,.str nm,fv,.N,.Z] fv mm cs x.h/\jA ⟨s3.k+1,s3.bad,s3.dep,s3.dp⟩ s5/\(s5.bad=false->mm<=s5.k/\(mm=ps.length/\cs=ps.flatMap OM)/\S5 I s5 OO ps)/\
    x.rg.get 0=some (.P I.r)/\x.rg.get 7=some (.P tI)):=⟨_,rfl⟩
   refine bz J (RS.ms ⟨s3.k+1,s3.bad,s3.dep,s3.dp⟩ I.W.length) ?_ ?_
   ·rw[hJ];exact⟨⟨s3.k+1,s3.bad,s3.dep,s3.dp⟩,.Z,0,[],[],rfl,rfl,rfl,rfl,pF,lF,jA.refl _,λ_=>⟨bJ _,⟨rfl,rfl⟩,⟨λ_=>V5,λh=>(h rfl).elim⟩⟩,by simp[r0],by simp[FF]⟩
   clear lF pF KF r0 r2 rg;intro m st A4;have FO:=A4;rw[hJ]at FO;obtain⟨rg,n',H,ds,bX⟩:=st;obtain⟨s5,fv,mm,cs,ps,rfl,x1,x2,x3,p5,l5,a5,F5,r0,r7⟩:=FO;dsimp only at x1 x2 x3 p5 l5 r0 r7;subst x1 x2 x3;have o5:=p5.obj;have S0:=p5.kl;obtain⟨ab,G3⟩:∃ab,fv= .slice ab mm:=by
    rcases l5.arr with⟨u1,u2,u3⟩|⟨bb,u1,_,_⟩
    ·exact⟨none,by rw[u3,u1]⟩
    ·exact⟨some (bb,0),u1⟩
   apply CR (E:=env) (n:=243) (f:=31) (args:=[.P I.r,.str [123]]) (P:=λcC h'=>cC.get 0=some (.P I.r)/\cC.get 7=some (.P tI)/\∃s6,RP I s6 h'/\LL I h4 tI [.str t,.str nm,fv,.N,.Z] fv mm cs h'/\jA ⟨s3.k+1,s3.bad,s3.dep,s3.dp⟩ s6/\(s6.bad=false->(mm=ps.length/\cs=ps.flatMap OM)/\((ps=[]/\∃c,OO=c::I.W.drop s6.k/\eX c [41])\/(bF OO [41]=false/\rM OO (I.W.drop s6.k) ps))))
   case hm=>
    intro out;cases S:s5.bad with
    |true=>
     simp[r0,o5,S];refine out _ _ ?_;exact⟨by simp[r0],by simp[r7],s5,p5,l5,a5,λv=>by rw[S]at v;cases v⟩
    |false=>
     obtain⟨S1,⟨Hc,F2⟩,hF⟩:=F5 S;simp[r0,o5,S];refine gO p5 (λCL h6 V k6=>?_) λCL h6 V k6=>?_
     ·obtain⟨_,c,I5,HE,HG,I6⟩:=eL CL;simp[r0];refine out _ _ ?_;refine⟨by simp[r0],by simp[r7],_,V,l5.call p5.fr k6,a5.trans (jA.of (cp _) rfl (ao _) id),λ_=>?_⟩;refine⟨⟨Hc,F2⟩,?_⟩;simp only[I6];cases ps with
      |nil=>
       have:=hF.nil rfl;rw[HE]at this;exact .inl ⟨rfl,c,this.symm,HG⟩
      |cons b7 b8=>
       obtain⟨v1,v2⟩:=hF.cons sp;have:=v2 I5 [] (.inl ⟨c,HE,HG,rfl⟩);rw[fi]at this;exact .inr ⟨v1,this⟩
     ·have l6:=l5.aH p5.fr k6;have HP:=gQ CL S;have H4:=l6.get;apply CR (E:=env) (n:=243) (f:=27) (args:=[.P I.r,.str [112,117,98,108,105,99]]) (P:=λcC h'=>cC.get 0=some (.P I.r)/\cC.get 7=some (.P tI)/\∃s9,RP I s9 h'/\LL I h4 tI [.str t,.str nm,fv,.N,.Z] fv mm cs h'/\jA s5 s9/\(s9.bad=false->(ps=[]/\I.W.drop s9.k=OO)\/(ps≠[]/\∃c,I.W.drop s5.k=c::I.W.drop s9.k/\eX c [44])))
      case hm=>
       intro go;rcases Nat.eq_zero_or_pos mm with J3|J3
       ·have I0:ps=[]:=cI om;rw[G3,J3]at H4;simp[r0,r7,H4];refine go _ _ ?_;exact⟨by simp[r0],by simp[r7],s5,V,l6,jA.refl _,λ_=> .inl ⟨I0,hF.nil I0⟩⟩
       ·have I0:ps≠[]:=(by intro e;rw[e]at Hc;simp at Hc;omega);rw[G3]at H4;simp[r0,r7,H4,J3];refine gd V λs9 h9 p9 a9 S3 d9 f9 k9=>?_;simp[r0];refine go _ _ ?_;exact⟨by simp[r0],by simp[r7],s9,p9,l6.call V.fr k9,a9,λv=>by
         obtain⟨c3,b9,v1,v2,v3,v4⟩:=f9 v;exact .inr ⟨I0,c3,by rw[v1,v3],v2⟩⟩
      case ht=>
       clear H4 l6 V k6 A4;intro bA h6 hP;obtain⟨r0,r7,s6,V,l6,a6,F6⟩:=hP;refine S6 V λpb s7 a C a7 d7 f7 k7=>?_;have N:=l6.call V.fr k7;have Z:=N.kx.nx;have S2:=N.lt;have FP:a.nx∉aT fv:=λv=>by
        obtain⟨_,ob,ho⟩:=N.arr.ni v;have:=aw C.fr ho;omega
       have K8:aJ a ((a.alloc (.C [.str [],.str [],.bool false])).2.set a.nx (.C [.str [],.str [],.bool pb])):=kT;have D:=C.aH K8;have l8:=N.aH C.fr K8;have HU:((a.alloc (.C [.str [],.str [],.bool false])).2.set a.nx (.C [.str [],.str [],.bool pb])).get a.nx=some (.C [.str [],.str [],.bool pb]):=sp;have F3:a.nx<((a.alloc (.C [.str [],.str [],.bool false])).2.set a.nx (.C [.str [],.str [],.bool pb])).nx:=by simp
       simp[r0];obtain⟨h8,Lk⟩:∃x,x=((a.alloc (.C [.str [],.str [],.bool false])).2.set a.nx (.C [.str [],.str [],.bool pb])):=⟨_,rfl⟩
       rw[<-Lk]at K8 D l8 HU F3⊢;clear Lk;have u:a.nx≠I.r/\a.nx≠I.g/\a.nx≠I.b/\a.nx≠tI:=(by have:=N.rl;have:=N.gl;have:=N.bl;omega);generalize a.nx=dI at*;refine Db D λty s9 h9 p9 a9 d9 T0 f9 k9=>?_;have IB:=(k9.old dI F3 (by simp[RI.X,u.1,u.2.1])).trans HU;have l9:=l8.call D.fr k9;have A3:=aq F3 k9.nx;simp[r0,IB];have pA:=p9.put (.C [.str ty,.str [],.bool pb]) u.1 u.2.1 u.2.2.1 A3;have lA:=l9.set (.C [.str ty,.str [],.bool pb]) Z u.2.2.2 FP A3;refine vW pA λpn sD hD pD aD T2 dD bB fD kD=>?_;have FQ:=kD.old dI (by simp only[ah.set];exact A3) (by simp[RI.X,u.1,u.2.1]);simp at FQ;have lD:=lA.call pA.fr kD;have Lp:dI<hD.nx:=aq (by simp only[ah.set];exact A3) kD.nx;simp[FQ];have pE:=pD.put (.C [.str ty,.str pn,.bool pb]) u.1 u.2.1 u.2.2.1 Lp;have lE:=lD.set (.C [.str ty,.str pn,.bool pb]) Z u.2.2.2 FP Lp;have gT:=lE.get;have Lq:(hD.set dI (.C [.str ty,.str pn,.bool pb])).get dI=some (.C [.str ty,.str pn,.bool pb]):=sp;have W1:(hD.set dI (.C [.str ty,.str pn,.bool pb])).nx=hD.nx:=rfl
       obtain⟨hE,M1⟩:∃x,x=hD.set dI (.C [.str ty,.str pn,.bool pb]):=⟨_,rfl⟩
       rw[<-M1]at pE lE gT Lq W1⊢;clear M1;simp[-aK,r7,gT,Lq];obtain⟨H7,Ia,Ik,KL,F0⟩:=lE.push pE (by have:=p5.AE.len;omega) [.str ty,.str pn,.bool pb] rfl rfl;rw[Ia];obtain⟨lG,pG⟩:=F0 [.str t,.str nm,.S (hE.nx+1) (mm+1),.N,.Z];simp[-aK,r7,Ik];rw[hJ];have A:=a6.trans (a7.trans (a9.trans aD));have w7:=a7.k;have w9:=a9.k;have w6:=a6.k;refine⟨sD.ms I.W.length,Dc A S (λv=>?_) pD.kl,sD,_,_,_,ps++[⟨JR (I.W.drop s9.k),pb,ty,pn⟩],rfl,rfl,rfl,rfl,pG,lG,a5.trans A,λv=>?_,by simp[r0],by simp[r7]⟩
       ·obtain⟨n1,r2,z1,z2,z3,z4,z5⟩:=fD v;omega
       ·obtain⟨n1,W2,z1,z2,z3,z4,z5⟩:=fD v;have A5:=f9 (aD.bad v);have M3:=f7 (a9.bad (aD.bad v));have Y2:=F6 (a7.bad (a9.bad (aD.bad v)));refine⟨om,⟨by simp[Hc],by rw[F2];simp[OM]⟩,⟨λh=>by simp at h,λ_=>?_⟩⟩;have one:∀bH l,PM (I.W.drop sD.k) bH l->rM (I.W.drop s6.k) bH (⟨JR (I.W.drop s9.k),pb,ty,pn⟩::l):=λbH l hT=>by
         rw[yD z1];rw[z1,<-z4]at A5;subst z3;rcases hT with⟨c,e1,hc,rfl⟩|⟨c,dR,e1,hc,hr⟩
         ·rw[e1]at A5;exact .one M3 A5 z2 hc
         ·rw[e1]at A5;exact .more M3 A5 z2 hc hr
        rcases Y2 with⟨w1,w2⟩|⟨w1,cc,w2,w3⟩
        ·have Y5:=hF.nil w1;rw[Y5]at HP;refine⟨HP,λbH l hT=>?_⟩;have:=one bH l hT;rw[w2]at this;rw[w1];exact this
        ·obtain⟨y1,y2⟩:=hF.cons w1;refine⟨y1,λbH l hT=>?_⟩;have:=y2 bH _ (.inr ⟨cc,_,w2,w3,one bH l hT⟩);rw[aU];exact this
   case ht=>
    clear A4;intro bC h5 hP;obtain⟨r0,r7,s6,V,l6,a6,F6⟩:=hP;have bD:=k2.nx;have bE:=k3.nx;have bN:=k4.nx;have I2:∀H',aR I.X h4 H'->∀i,i<lo->H'.get i=h.get i:=λH' kk i hi=>by
     have hr:=ga.lor;have hg:=ga.log;have ni:i∉I.X:=(by simp[RI.X];omega);rw[kk.old i om ni,k4.old i om ni,k3.old i om ni,k2.old i om];exact F4 i hi
    refine yE V λa C k7=>?_;have N:=l6.aH V.fr k7;have o7:=C.obj;have aA:=a6.k;have bS:=a3.k;have bW:=a1.k;simp only at aA;cases aC:od I s6 [123]with
    |false=>
     simp[r0,o7];obtain⟨aE,aF⟩:=C.prog;have M4:aR I.X a (a.set I.r (.C [.S I.b I.W.length,.I s6.k,.bool true,.P I.g,.I s6.dep])):=aR.set _ (aR.refl _ _) (.inl (by simp[RI.X])) C.rl;have D:=C.yX (s':={s6 with bad:=true}) M4 sp ⟨aE,by rw[ah.aM,ay C.rg.symm];exact aF⟩ C.kl C.dd C.d2;have l8:=N.call C.fr M4;exact hQ I {s6 with bad:=true} _ _ _ _ _ D ((g4.call p4.fr l8.kx).mono om) ⟨rfl,rfl,rfl,rfl⟩ (I2 _ l8.kx) (by have:=l8.kx.nx;simp only[ah.set]at this⊢;omega) (by simp only;omega) sp
    |true=>
     obtain⟨H5,wb,rb,M5,aG,bY⟩:=eL aC;have aL:=a6.dep H5;have C9:=a6.bad H5;simp only at C9 aL;have bd:=a3.dep C9;have bf:=a1.dep (a3.bad C9);simp[r0];have aN:XO I (tI::(Y++I.ar)) a:=⟨by simp[RI.ar],by simp[RI.ar],λy hy=>by
      simp only[RI.ar,aP,ak]at hy;rcases hy with h|h|h|h|h|h
      ·rw[h];exact N.lt
      ·have:=hY y h;have:=C.rl;have:=ga.lor;have:=N.kx.nx;omega
      ·rw[h];exact C.rl
      ·rw[h];exact C.gl
      ·rw[h];exact C.bl
      ·obtain⟨o,ho⟩:=(g4.call p4.fr N.kx).in (show y∈oP (I.L c1 c2 c3 c4)from h)
       exact aw C.fr ho⟩
     refine(S7 (I.W.length-s6.k)).st I s6 a (tI::(Y++I.ar)) _ rfl C aN om λM6 tb s8 h8 D a8 bn f8 k8=>?_;have l8:=N.call C.fr k8;have aZ:=l8.get;simp[r7,aZ];obtain⟨h9,e9,l9,p9⟩:=l8.put D [.str t,.str nm,fv,.P M6,.Z];rw[e9];have gT:=l9.get;subst G3;have ad:=g4.call p4.fr l9.kx;have ag:lo<=h9.nx:=(by have:=l9.kx.nx;omega);have ax:h.nx<=h9.nx:=(by have:=l9.kx.nx;omega);have M7:=I2 h9 l9.kx;refine Dd ?_;have oX:=p9.obj;obtain⟨nd,pg⟩:=p9.prog;have fj:=p9.fr (h9.nx+12) om;have KT:=p9.rg;simp[-aK,r0,r7,oX,pg,gT,fj];refine dm ?_;have KB:aJ h9 (h9.bump 17):=kT;obtain⟨m1,H8,Au,G4,KX,G5,C1,Kc,D,F⟩:=(p9.aH KB).app (A:=[_,_]) (B:=[_]) (st:=31) (e:=67) rfl ty67.1 ty67.2.1 dc ty67.2.2.2 rfl (ad.call p9.fr (KB.x _)) IN (j:=h9.nx+12) fj sp om [.str t,.str nm,.slice ab mm,.P M6,.Z] rfl rfl om;obtain⟨F,A1⟩:=F (.C [I.l1,I.l2,.S (h9.nx+17) (m1+1),I.l4,.I nd,.I s8.dp]);have D:=D.li nd I.l1 I.l2 (.S (h9.nx+17) (m1+1)) I.l4;have C2:H8.get I.g=some (.C [I.l1,I.l2,I.l3,I.l4,.I nd,.I s8.dp]):=G5.trans pg;simp[-aK]at Au G4 D F A1;simp[-aK,Au,C2];refine dl ?_;refine Dd ?_;have GL:IntKind.wrap .i64 (m1:Int)=(m1:Int):=wq;have o9:=D.obj;have O:(H8.set I.g (.C [I.l1,I.l2,.S (h9.nx+17) (m1+1),I.l4,.I nd,.I s8.dp])).get I.g=some (.C [I.l1,I.l2,.S (h9.nx+17) (m1+1),I.l4,.I nd,.I s8.dp]):=sp;obtain⟨K,A2⟩:∃x,x=H8.set I.g (.C [I.l1,I.l2,.S (h9.nx+17) (m1+1),I.l4,.I nd,.I s8.dp]):=⟨_,rfl⟩
     have L0:K.nx=h9.nx+18:=(by rw[A2];simp only[ah.set];omega);rw[<-A2]at D F A1 o9 O⊢;have C3:=D.fr (K.nx+21) om;simp only at o9 O;simp[-aK,r0,o9,O,C3,GL];refine dm ?_;have KC:aJ K (K.bump 26):=kT;obtain⟨m4,HA,C4,Gq,H2,H3,C5,L1,pA,R⟩:=(D.aH KC).app (A:=[_,_,_]) (B:=[]) (st:=32) (e:=36) rfl ty36.1 ty36.2.1 dc ty36.2.2.2 rfl (F.call D.fr (KC.x _)) IN (j:=K.nx+21) C3 sp om [.I 2,.I m1] rfl rfl om;obtain⟨R,C6⟩:=R (.C [I.l1,I.l2,.S (h9.nx+17) (m1+1),.S (K.nx+26) (m4+1),.I nd,.I s8.dp]);have pA:=pA.li nd I.l1 I.l2 (.S (h9.nx+17) (m1+1)) (.S (K.nx+26) (m4+1));have U:=H3.trans (show(K.bump 26).get I.g=_ from O);have C7:=H2.trans (show(K.bump 26).get I.r=_ from o9);simp[-aK]at C4 Gq pA R C6 U C7;simp[-aK,C4,U];refine dl ?_;have C8:∀i,i<lo->(HA.set I.g (.C [I.l1,I.l2,.S (h9.nx+17) (m1+1),.S (K.nx+26) (m4+1),.I nd,.I s8.dp])).get i=h.get i:=λi hi=>by
      have hg:=ga.log;rw[ah.aM,ay om,C5 i hi];show K.get i=_;rw[A2,ah.aM,ay om,C1 i hi];exact M7 i hi
     have BE:=Move.add (Y:=Y) (X:=I.ar) ((Move.k p9.fr KB).comp (A1.comp ((Move.k D.fr KC).comp C6)));refine hQ _ s8 _ _ _ _ _ pA R ⟨rfl,rfl,rfl,rfl⟩ C8 (by simp only[ah.set];omega) (by have:=a8.k;omega) (λv=>?_);obtain⟨q1,q2,q3⟩:=f8 v;have v4:=a8.dep v;have v5:=a1.dp;have v7:=a6.dp;have v8:=a8.dp;have v10:=a8.k;obtain⟨nw,rs,z1,z2,z3,z4,z5⟩:=f3 C9;have hT:=f1 (a3.bad C9);have v9:=hT.jx;simp only[bK]at v9;simp only at v7;refine⟨om,om,om,.func nw.at t nw.text ps tb,λb bo=>?_,λl hl=>?_⟩
     ·have hB:=q2 b om;rw[M5]at hB;have K0:=ON hB aG;rw[<-M5]at K0;rw[z1,<-z4,V2]at hT;rcases(F6 H5).2 with⟨w1,c,w2,w3⟩|⟨w1,w2⟩
      ·rw[w1];rw[w2]at hT;exact .func0 hT z2 Li w3 K0
      ·exact .func hT z2 Li w1 w2 K0
     ·have:=((l9.ar g4 p4.fr hY om).move BE).cast (F6 H5).1.1 (F6 H5).1.2;rw[<-z3];exact .fn (hl.move ((Move.of p.fr (k1.trans ((k2.x _).trans (k3.trans (k4.trans l9.kx)))) (λz v _=>I.sub Y z v) λ_ hy=> .inl hy).comp BE)) this (q3.move ((e9▸Move.on _ (bc ..)).comp ((Move.less λy hy=>au _ hy).comp BE)))
  ·have g4:=g3.call p3.fr (k4.x _);simp[r0,r2];refine AS t om p4 λty s5 h5 p5 a5 d5 l5 f5 k5=>?_;have g5:=g4.call p4.fr k5;have K6:aJ h5 ((h5.alloc (.C [.str [],.str [],.bool false])).2.set h5.nx (.C [.str ty,.str nm,.bool false])):=kT;have M8:((h5.alloc (.C [.str [],.str [],.bool false])).2.set h5.nx (.C [.str ty,.str nm,.bool false])).get h5.nx=some (.C [.str ty,.str nm,.bool false]):=sp;have M9:h5.nx<((h5.alloc (.C [.str [],.str [],.bool false])).2.set h5.nx (.C [.str ty,.str nm,.bool false])).nx:=by simp
   simp[r0];obtain⟨h6,MB⟩:∃x,x=((h5.alloc (.C [.str [],.str [],.bool false])).2.set h5.nx (.C [.str ty,.str nm,.bool false])):=⟨_,rfl⟩
   rw[<-MB]at K6 M8 M9⊢;clear MB;have V:=p5.aH K6;have g6:=g5.call p5.fr (K6.x _);refine gd V λs7 a C a7 TH d7 f7 k7=>?_;have J2:=g6.call V.fr k7;have nX:h5.nx∉I.X:=(by have:=p5.rl;have:=p5.gl;simp[RI.X];omega);have gT:=(k7.old h5.nx M9 nX).trans M8;have u1:=k2.nx;have u2:=k3.nx;have u3:=k4.nx;have u4:=k5.nx;have u6:=k7.nx;have G2:∀i,i<lo->a.get i=h.get i:=λi hi=>by
    have hr:=ga.lor;have hg:=ga.log;have ni:i∉I.X:=(by simp[RI.X];omega);rw[k7.old i om ni,K6.old i om,k5.old i om ni,k4.old i om,k3.old i om ni,k2.old i om];exact F4 i hi
   have Z:lo<=a.nx:=om;simp;refine Dd ?_;have oX:=C.obj;obtain⟨nd,pg⟩:=C.prog;have fj:=C.fr (a.nx+12) om;have KT:=C.rg;simp[-aK,r0,oX,pg,gT,fj];refine dm ?_;have KB:aJ a (a.bump 17):=kT;obtain⟨m1,H8,Au,G4,KX,G5,C1,Kc,D,F⟩:=(C.aH KB).app (A:=[_]) (B:=[_,_]) (st:=30) (e:=64) rfl ty64.1 ty64.2.1 dc ty64.2.2.2 rfl (J2.call C.fr (KB.x _)) IN (j:=a.nx+12) fj sp om [.str ty,.str nm,.bool false] rfl rfl om;obtain⟨F,A1⟩:=F (.C [I.l1,.S (a.nx+17) (m1+1),I.l3,I.l4,.I nd,.I s7.dp]);have D:=D.li nd I.l1 (.S (a.nx+17) (m1+1)) I.l3 I.l4;have C2:H8.get I.g=some (.C [I.l1,I.l2,I.l3,I.l4,.I nd,.I s7.dp]):=G5.trans pg;simp[-aK]at Au G4 D F A1;simp[-aK,Au,C2];refine dl ?_;refine Dd ?_;have GL:IntKind.wrap .i64 (m1:Int)=(m1:Int):=wq;have o9:=D.obj;have O:(H8.set I.g (.C [I.l1,.S (a.nx+17) (m1+1),I.l3,I.l4,.I nd,.I s7.dp])).get I.g=some (.C [I.l1,.S (a.nx+17) (m1+1),I.l3,I.l4,.I nd,.I s7.dp]):=sp;obtain⟨K,A2⟩:∃x,x=H8.set I.g (.C [I.l1,.S (a.nx+17) (m1+1),I.l3,I.l4,.I nd,.I s7.dp]):=⟨_,rfl⟩
   have L0:K.nx=a.nx+18:=(by rw[A2];simp only[ah.set];omega);rw[<-A2]at D F A1 o9 O⊢;have C3:=D.fr (K.nx+21) om;simp only at o9 O;simp[-aK,r0,o9,O,C3,GL];refine dm ?_;have KC:aJ K (K.bump 26):=kT;obtain⟨m4,HA,C4,Gq,H2,H3,C5,L1,pA,R⟩:=(D.aH KC).app (A:=[_,_,_]) (B:=[]) (st:=32) (e:=36) rfl ty36.1 ty36.2.1 dc ty36.2.2.2 rfl (F.call D.fr (KC.x _)) IN (j:=K.nx+21) C3 sp om [.I 1,.I m1] rfl rfl om;obtain⟨R,C6⟩:=R (.C [I.l1,.S (a.nx+17) (m1+1),I.l3,.S (K.nx+26) (m4+1),.I nd,.I s7.dp]);have pA:=pA.li nd I.l1 (.S (a.nx+17) (m1+1)) I.l3 (.S (K.nx+26) (m4+1));have U:=H3.trans (show(K.bump 26).get I.g=_ from O);have C7:=H2.trans (show(K.bump 26).get I.r=_ from o9);simp[-aK]at C4 Gq pA R C6 U C7;simp[-aK,C4,U];refine dl ?_;have C8:∀i,i<lo->(HA.set I.g (.C [I.l1,.S (a.nx+17) (m1+1),I.l3,.S (K.nx+26) (m4+1),.I nd,.I s7.dp])).get i=h.get i:=λi hi=>by
    have hg:=ga.log;rw[ah.aM,ay om,C5 i hi];show K.get i=_;rw[A2,ah.aM,ay om,C1 i hi];exact G2 i hi
   have BE:=Move.add (Y:=Y) (X:=I.ar) ((Move.k C.fr KB).comp (A1.comp ((Move.k D.fr KC).comp C6)));refine hQ _ s7 _ _ _ _ _ pA R ⟨rfl,rfl,rfl,rfl⟩ C8 (by simp only[ah.set];omega) (by have:=a1.k;have:=a3.k;have:=a5.k;have:=a7.k;simp only at*;omega) (λv=>?_);obtain⟨c2,W2,y1,y2,y3,y4⟩:=f7 v;have K1:=a7.bad v;have I1:=a5.bad K1;have MH:=a3.bad I1;obtain⟨nw,rs,z1,z2,z3,z4,z5⟩:=f3 I1;have hT:=f1 MH;have FW:=f5 K1;have v1:=a1.dep MH;have v2:=a3.dep I1;have v3:=a5.dep K1;have v4:=a7.dep v;have v5:=a1.dp;have v7:=a5.dp;have v8:=a7.dp;have v10:=a5.k;have v9:=hT.jx;simp only[bK]at v9;refine⟨om,om,om,.global nw.at ty nw.text,λb _=>?_,λl hl=>?_⟩
   ·rw[z1,<-z4]at hT;have af:=gQ hs I1;rw[y1,<-y3]at FW;exact .global hT z2 af FW y2
   ·rw[<-z3];exact .gl (hl.move ((Move.of p.fr (k1.trans ((k2.x _).trans (k3.trans ((k4.x _).trans (k5.trans ((K6.x _).trans k7)))))) (λz v _=>I.sub Y z v) λ_ hy=> .inl hy).comp BE))
end
theorem gZ.uniq{l c:Int}{s:bu}{ws bH:dh}(h:gZ l c s ws)(h':gZ l c s bH):ws=bH:=by
 induction h generalizing bH with
 |nil=>exact h'.done.symm
 |blank j i h0 t hr m=>
  cases h' with
  |nil=>exact(j rfl).elim
  |blank g a o p b=>
   rw[i]at a;simp only[dz,qE]at a;have e:=Int.ofNat.inj a;subst e;exact m b
  |word g a f b=>
   rw[i]at a;simp only[dz,qE]at a;omega
 |word j i hw hr m=>
  cases h' with
  |nil=>exact(j rfl).elim
  |blank g a o p b=>
   rw[i]at a;simp only[dz,qE]at a;omega
  |word g a f b=>
   rw[hw]at f;injection f with f;subst f;rw[m b]
theorem S8{s:bu}{h:ah}{Q:Out->ah->Prop}(v:s.length<=65536)(t:∀l c h',aJ h h'->Q (.ret (.agg [.I l,.I c])) h'):ba env 14 [.str s] h Q:=by
 refine wb fn14 rfl ?_;simp[f14];refine bz (λm x=>∃(i:Nat)(l c:Int),i<=s.length/\m=s.length-i/\x.n=25/\x.ds=[]/\x.bX=false/\aJ h x.h/\h.nx+1<x.h.nx/\x.h.get h.nx=some (.C [.I 0,.I 0])/\x.h.get (h.nx+1)=some (.C [.I l,.I c])/\
  x.rg.get 0=some (.str s)/\x.rg.get 2=some (.P h.nx)/\x.rg.get 3=some (.P (h.nx+1))/\x.rg.get 4=some (.I i)) s.length ?_ ?_
 ·exact⟨0,1,1,om,rfl,rfl,rfl,rfl,kT,sp,sp,sp,sp,sp,sp,sp⟩
 rintro m ⟨rg,w,H,ds,bX⟩ ⟨i,l,c,hi,rfl,e1,e2,e3,k1,u,g2,g3,r0,g,r3,r4⟩
 dsimp only at e1 e2 e3 k1 u g2 g3 r0 g r3 r4;subst e1 e2 e3;by_cases b:i<s.length
 ·have j:=U8 i
  have a:(i:Int)<(s.length:Int):=by omega
  obtain⟨x,o⟩:∃x,s[i]?=some x:=⟨_,aj b⟩
  have e:s[i]=x:=by rw[aj b]at o;injection o
  cases p:((x.toNat:Int)==10)with
  |true=>
   simp[r0,g,r3,r4,b,a,g3,e,p,j];refine⟨s.length-(i+1),om,i+1,om,rfl,kT,om,?_,om⟩;exact g2
  |false=>
   simp[r0,g,r3,r4,b,a,g3,e,p,j];refine⟨s.length-(i+1),om,i+1,om,rfl,kT,om,?_,om⟩;exact g2
 ·have a:¬(i:Int)<(s.length:Int):=by omega
  simp[r0,g,r3,r4,a,g2,g3];exact t l c _ kT
theorem dq{F A H:Prop}(f:F)(b:H)(a:F->H->A:=by intro e;(repeat (apply dj; · (repeat (first|exact JG _ _|exact Bu _ _ _|exact JH _ _ _ _ _|refine R3 (by decide+kernel) ?_|refine Ll (by decide+kernel) ?_|refine R4 (by decide+kernel) ?_|refine JF (by simp[e];done) ?_|refine Pu (by simp[e];done) ?_))));exact λh=>h):A:=a f b
def PL(h:ah)(cD:List It)(l1 l2 l3:AV):Prop:=∃m1 m2 c1 c2 c3,cu [] h l1 2 m1 c1/\c1.length=m1*2/\cu [] h l2 3 m2 c2/\c2.length=m2*3/\cu [] h l3 5 (xZ cD) c3/\Cq [] h cD c1 c2 c3
def Ue(s:List UInt8)(h:ah)(out:Out)(h':ah):Prop:=
 ∃pv l c bad,out= .ret (.iO [pv,.agg [.I l,.I c],.I bad])/\aJ h h'/\
  (bad=0->∃g ws cD dp l1 l2 l4 nd x,PL h' cD l1 l2 (.slice x (xZ cD))/\pv= .P g/\h'.get g=some (.C [l1,l2,.slice x (xZ cD),l4,.I nd,.I (dp:Nat)])/\gZ 1 1 s ws/\∀b,dp<=b->jK b ws cD)
theorem Hw{b:Nat}{ws bQ:dh}{cD:nj}(h:∀l,jK b bQ l->jK b ws (cD++l)){it:It}{dR:dh}(hi:Item b bQ dR it):∀l,jK b dR l->jK b ws ((cD++[it])++l):=λl a=>by
 rw[aU];exact h _ (.item hi a)
theorem Ga{s:bu}{h:ah}(hs:s.length<=65536)(fr:bP h)(hlen:∀ws,gZ 1 1 s ws->ws.length<=250):ba env 6 [.str s] h (Ue s h):=by
 refine wb fn6 rfl ?_;simp[f6];have K0:=(aJ.refl h).alloc (.C [.I 0,.I 0]);refine(IT s _ (K0.fresh fr)).mono λout j hq=>?_;obtain⟨sv,l,c,bad,rfl,K2,FF⟩:=hq;have KK:=K0.trans K2;have n2:=K2.nx;have g0:j.get h.nx=some (.C [.I 0,.I 0]):=(K2.old h.nx sp).trans sp;simp at n2;have FO:h.nx≠j.nx:=om
 simp;by_cases P:bad=0
 ·subst P;obtain⟨ws,b,hx,rfl,ar,H4,FP⟩:=FF rfl;have hw:=hlen ws hx;have AE:=hx.AE hs hw;simp;have K3:aJ j (((((j.alloc (.C [.I 0,.I 0])).2.set j.nx (.C [.I l,.I c])).alloc (.C [.Z,.Z,.Z,.Z,.I 0,.I 0])).2.alloc (.C [.S b ws.length,.I 0,.bool false,.P (j.nx+1),.I 0])).2):=kT;have A1:(((((j.alloc (.C [.I 0,.I 0])).2.set j.nx (.C [.I l,.I c])).alloc (.C [.Z,.Z,.Z,.Z,.I 0,.I 0])).2.alloc (.C [.S b ws.length,.I 0,.bool false,.P (j.nx+1),.I 0])).2).get (j.nx+2)=some (.C [.S b ws.length,.I 0,.bool false,.P (j.nx+1),.I 0]):=by simp
  have A2:(((((j.alloc (.C [.I 0,.I 0])).2.set j.nx (.C [.I l,.I c])).alloc (.C [.Z,.Z,.Z,.Z,.I 0,.I 0])).2.alloc (.C [.S b ws.length,.I 0,.bool false,.P (j.nx+1),.I 0])).2).get (j.nx+1)=some (.C [.Z,.Z,.Z,.Z,.I 0,.I 0]):=by simp
  have n3:(((((j.alloc (.C [.I 0,.I 0])).2.set j.nx (.C [.I l,.I c])).alloc (.C [.Z,.Z,.Z,.Z,.I 0,.I 0])).2.alloc (.C [.S b ws.length,.I 0,.bool false,.P (j.nx+1),.I 0])).2).nx=j.nx+3:=by simp
  obtain⟨V,A3⟩:∃x,x=(((((j.alloc (.C [.I 0,.I 0])).2.set j.nx (.C [.I l,.I c])).alloc (.C [.Z,.Z,.Z,.Z,.I 0,.I 0])).2.alloc (.C [.S b ws.length,.I 0,.bool false,.P (j.nx+1),.I 0])).2):=⟨_,rfl⟩
  rw[<-A3]at K3 A1 A2 n3⊢;clear A3;have FQ:=(K3.old h.nx om).trans g0;have KH:=KK.trans K3;obtain⟨B,y⟩:∃x:RI,x=⟨j.nx+2,j.nx+1,b,ws,.Z,.Z,.Z,.Z⟩:=⟨_,rfl⟩
  have i1:B.r=j.nx+2:=by rw[y]
  have i2:B.g=j.nx+1:=by rw[y]
  have i3:B.b=b:=by rw[y]
  have i4:B.W=ws:=by rw[y]
  have p0:RP B ⟨0,false,0,0⟩ V:=by
   rw[y];exact⟨A1,⟨0,A2⟩,(K3.old b FP).trans ar,sp,by simp only;omega,by simp only;omega,by simp only;omega,by simp only;omega,by simp only;omega,KH.fresh fr,bJ _,ao _,sp,AE⟩
  have A4:GA B.r B.g B.b (j.nx+1) 0 (B.L [] [] [] []) V:=by
   rw[y];exact⟨λe he=>⟨0,by simp only[RI.L,ak,bm,cT]at he;rcases he with rfl|rfl|rfl|rfl<;>exact⟨.inl ⟨rfl,rfl,rfl⟩,rfl,ao _⟩⟩,by simp[oP,aT],by simp[oP,aT],by simp only;omega,by simp only;omega⟩
  obtain⟨J,hJ⟩:∃J:Nat->St->Prop,J=(λm x=>∃I s5 n c1 c2 c3 c4 cD,m=s5.ms ws.length/\x.n=77/\x.ds=[]/\x.bX=false/\RP I s5 x.h/\GA I.r I.g I.b (j.nx+1) n (I.L c1 c2 c3 c4) x.h/\L7 B I/\(∀i,i<j.nx+1->x.h.get i=V.get i)/\V.nx<=x.h.nx/\
   (s5.bad=false->s5.dep=0/\n<=s5.k/\Cq ([h.nx]++I.ar) x.h cD c1 c2 c3/\∀b,s5.dp<=b->∀l,jK b (ws.drop s5.k) l->jK b ws (cD++l))/\
   x.rg.get 0=some (.str s)/\x.rg.get 3=some (.P h.nx)/\x.rg.get 5=some (.S b ws.length)/\x.rg.get 8=some (.P I.r)):=⟨_,rfl⟩
  refine bz J (RS.ms ⟨0,false,0,0⟩ ws.length) ?_ ?_
  ·rw[hJ];exact⟨B,⟨0,false,0,0⟩,0,[],[],[],[],[],rfl,rfl,rfl,rfl,p0,A4,⟨rfl,rfl,rfl,rfl⟩,λ_ _=>rfl,ao _,λ_=>⟨rfl,ao _,.nil,λb _ l hl=>hl⟩,sp,sp,sp,by simp[i1]⟩
  clear p0 A4;intro m st N;have A5:=N;rw[hJ]at A5;obtain⟨rg,n',H,ds,bX⟩:=st;obtain⟨I,s5,n,c1,c2,c3,c4,cD,rfl,x1,x2,x3,D,A,sm,v,FW,F5,r0,r3,r5,r8⟩:=A5;clear N;dsimp only at x1 x2 x3 D A v FW r0 r3 r5 r8;subst x1 x2 x3;obtain⟨s1,s2,s3,Z⟩:=sm;have F:=D.obj;have G2:=D.kl;have Q:=D.fr;obtain⟨nd,K⟩:=D.prog;rw[s3,i3,Z,i4]at F;have Au:I.g≠h.nx:=by omega
  rw[Z,i4]at G2;have R:=(v h.nx om).trans FQ;have C1:aJ h H:=⟨by have:=KH.nx;omega,λi hi=>by rw[v i (by have:=KK.nx;omega)];exact KH.old i hi,λ_=>Q⟩
  have C2:=D.arr;rw[s3,i3,Z,i4]at C2;simp;refine Dd ?_;cases p:s5.bad with
  |true=>
   by_cases u:s5.k<ws.length
   ·obtain⟨w,rs,G3⟩:∃w rs,ws.drop s5.k=w::rs:=⟨_,_,bs u⟩
    obtain⟨c0,c1,c2,d0,d3,l5,l3⟩:=vX G3;simp[r5,r8,F,p,u];refine Dd ?_;simp[r3,r5,r8,F,p,u,C2,d3,l3,R];refine dm ?_;exact⟨_,_,_,4,rfl,kT,sp⟩
   ·simp[r5,r8,F,p,u];refine Dd ?_;simp[r0,r8,F,p];refine S8 hs λl2 c2 h6 k6=>?_;have C3:=(k6.old h.nx (by have:=C1.nx;have:=KH.nx;simp;omega)).trans R;have G4:=(k6.old I.r (by have:=D.rl;simp;omega)).trans (show((H.bump 17).bump 9).get I.r=_ from F);have G5:=(k6.old I.g (by have:=D.gl;simp;omega)).trans (show((H.bump 17).bump 9).get I.g=_ from K);simp[C3,r3];refine dq (And.intro F (And.intro K (And.intro C3 (And.intro G4 (And.intro G5 r3))))) ?_;have C4:aJ h h6:=(show aJ h ((H.bump 17).bump 9)from kT).trans k6;have C5:h.nx<h6.nx:=by have:=k6.nx;have:=C1.nx;have e:((H.bump 17).bump 9).nx=H.nx+17+9:=rfl;omega
    exact⟨_,_,_,4,rfl,aJ.Ly _ C4 (ao _) C5,sp⟩
  |false=>
   obtain⟨F1,F2,F3,F4⟩:=F5 p;by_cases u:s5.k<ws.length
   ·simp[r8,F,p,u];have K1:=(aJ.refl H).bump 17;refine Rm (D.aH K1) (A.call Q (K1.x _)) om IN (Y:=[h.nx]) IN F1 p λI' s' C6 C7 C8 C9 h' p' CL GL F0 H5 H6 f'=>?_;obtain⟨t1,t2,t3,t4⟩:=GL;have Gq:=p'.kl;rw[t4,Z,i4]at Gq;have H7:s5.k<s'.k\/s'.bad=true:=by
     cases t:s'.bad with
     |true=>exact .inr rfl
     |false=>have:=(f' t).1;exact .inl om
    have H2:s'.ms ws.length<s5.ms ws.length:=by
     unfold RS.ms;rw[p];cases t:s'.bad with
     |true=>simp only[cond_true,xW];omega
     |false=>have:=(f' t).1;simp only[xW];omega
    simp;rw[hJ];refine⟨s'.ms ws.length,H2,?_⟩;have sm2:L7 B I':=⟨t1.trans s1,t2.trans s2,t3.trans s3,t4.trans Z⟩
    have O:∀i,i<j.nx+1->h'.get i=V.get i:=λi hi=>(F0 i hi).trans (v i hi);have F6:V.nx<=h'.nx:=by have:(H.bump 17).nx=H.nx+17:=rfl;omega
    cases t:s'.bad with
    |true=>
     exact⟨I',s',n+2,C6,C7,C8,C9,cD,rfl,rfl,rfl,rfl,p',CL,sm2,O,F6,by simp[t],by simp[r0],by simp[r3],by simp[r5],by simp[r8,t1]⟩
    |false=>
     obtain⟨w1,w2,w3,it,w5,w4⟩:=f' t;rw[Z,i4]at w5;exact⟨I',s',n+2,C6,C7,C8,C9,cD++[it],rfl,rfl,rfl,rfl,p',CL,sm2,O,F6,λ_=>⟨w2,om,w4 cD (F3.move (Move.k Q K1)),λS U=>Hw (F4 S om) (w5 S U)⟩,by simp[r0],by simp[r3],by simp[r5],by simp[r8,t1]⟩
   ·simp[r3,r8,F,p,u,R];obtain⟨m3,b3,u3,_⟩:=A.el (I.l3,5,c3) sp;obtain⟨m1,b1,u1,_⟩:=A.el (I.l1,2,c1) sp;obtain⟨m2,S,u2,_⟩:=A.el (I.l2,3,c2) sp;dsimp only at b1 S b3 u1 u2 u3;have e3:=F3.len;have e4:m3=xZ cD:=om;subst e4;obtain⟨x,F7⟩:∃x,I.l3= .slice x (xZ cD):=by
     rcases b3 with⟨u1,v1,u3⟩|⟨bb,u1,_,_⟩
     ·exact⟨none,by rw[u3,u1]⟩
     ·exact⟨some (bb,0),u1⟩
    rw[F7]at K b3;have C:∀z,z∈oP (I.L c1 c2 c3 c4)->z≠h.nx:=λz t=>by have:=(A.no z t).1;omega
    refine⟨_,0,0,0,rfl,kT,λ_=>⟨I.g,ws,cD,s5.dp,I.l1,I.l2,I.l4,nd,x,?_,rfl,?_,hx,λS U=>?_⟩⟩
    ·have re:∀{av:AV}{es n:Nat}{cs:eu}(o:dK),(∀z,z∈aT av->z≠h.nx)->cu [] H av es n cs->cu [] ((H.bump 17).set h.nx o) av es n cs:=λo t a=>a.re λz ob h1 j=>⟨by rw[ah.aM,ay (t z h1)];exact j,sp⟩
     exact⟨m1,m2,c1,c2,c3,re _ (λz t=>C z (by simp[oP,t])) b1,u1,re _ (λz t=>C z (by simp[oP,t])) S,u2,re _ (λz t=>C z (by simp[oP,F7,t])) b3,F3.move ⟨λi o gi hi=>⟨by simp only[aP,aQ,iS]at hi;rw[ah.aM,ay hi.1];exact gi,sp⟩⟩⟩
    ·rw[ah.aM,ay Au];exact K
    ·have:=F4 S U [] (by rw[iM om];exact .done);rw[fi]at this;exact this
 ·have H3:(bad !=0)=true:=by simpa using P
  simp[H3];refine Dd ?_;simp[g0,FO];refine dm ?_;exact⟨_,_,_,bad,rfl,kT,λe=>absurd e P⟩
end Go.Proofs.YtaekaifihehgdaaGreatDoor
