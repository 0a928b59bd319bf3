/- Lemmas for CheckTurns; each states its own conditions. -/
import Derived.Test.YtaekaifihehgdaaGreatDoorF
set_option maxRecDepth 100000
set_option maxHeartbeats 0
set_option linter.unusedSimpArgs false
set_option linter.unusedVariables false
namespace Go.Proofs.YtaekaifihehgdaaGreatDoor
open Go.Am Tryz
section
theorem Mm{k:IntKind}{t:TypeId}{a b:Int}:cm (Go.binOp .add t (.int k a) (.int k b))=some (.int k (IntKind.wrap k (a+b))):=by cases k<;>simp[Go.binOp,Op.intArith,cm,iF,pure]
theorem yJ{k:IntKind}{t:TypeId}{a b:Int}:cm (Go.binOp .sub t (.int k a) (.int k b))=some (.int k (IntKind.wrap k (a-b))):=by cases k<;>simp[Go.binOp,Op.intArith,cm,iF,pure]
theorem Mn{k:IntKind}{t:TypeId}{a b:Int}:cm (Go.binOp .mul t (.int k a) (.int k b))=some (.int k (IntKind.wrap k (a*b))):=by cases k<;>simp[Go.binOp,Op.intArith,cm,iF,pure]
theorem Mo{k:IntKind}{t:TypeId}{a:Nat}:cm (Go.binOp .shl t (.int .u64 a) (.int k 4))=some (.int .u64 ((a*16%18446744073709551616:Nat):Int)):=by
 simp[Go.binOp,Op.shift,cm,iF,pure,IntKind.bits,IntKind.wrap_u64]
theorem Mp{t:TypeId}{a d:Nat}(h:a<18446744073709551616)(o:d<16)(f:a%16=0):cm (Go.binOp .or t (.int .u64 a) (.int .u64 d))=some (.int .u64 ((a+d:Nat):Int)):=by
 have e:(a|||d)=a+d:=by
  have:=Nat.two_pow_add_eq_or_of_lt (i:=4) (b:=d) om (a/16);rw[show 2^4*(a/16)=a by omega]at this;exact this.symm
 have g:IntKind.u64.bits=64:=rfl;have j:a%2^64=a:=Nat.mod_eq_of_lt h;have m:d%2^64=d:=Nat.mod_eq_of_lt om;have p:a+d<18446744073709551616:=om
 simp[Go.binOp,Op.intBits,cm,iF,pure];rw[g,j,m,e,IntKind.wrap_u64];omega
theorem ot(c:Int)(h:ah):ba env 21 [.int .u8 c] h (λout h'=>out= .ret (.bool (eT c))/\h'=h):=by
 refine wb fn21 rfl ?_;by_cases a:97<=c<;>by_cases b:c<=122<;>by_cases e:65<=c<;>by_cases g:c<=90<;>simp[f21,eT,a,b,e,g]
theorem jZ(c:Int)(h:ah):ba env 22 [.int .u8 c] h (λout h'=>out= .ret (.bool (fy c))/\h'=h):=by
 refine wb fn22 rfl ?_;by_cases a:48<=c<;>by_cases b:c<=57<;>simp[f22,fy,a,b]
theorem wrap_u8{a:Int}(h0:0<=a)(b:a<256):IntKind.wrap .u8 a=a:=by rw[IntKind.wrap_u8];omega
theorem Er{u:Int}:cm (pure (Value.int .i64 u))=some (.I u):=by simp[cm,iF,pure]
def wY(c:UInt8):Int:=match wU c with
 |some v=>v
 |none=>-1
theorem PZ(c:UInt8)(h:ah):ba env 41 [.int .u8 c.toNat] h (λout h'=>out= .ret (.I (wY c))/\h'=h):=by
 refine wb fn41 rfl ?_;have i:=c.toNat_lt;simp[f41];refine(jZ _ _).m1 λj g=>?_;subst g;unfold wY wU;generalize c.toNat=n at*;by_cases d1:48<=n/\n<=57
 ·have e1:(48:Int)<=n:=by omega
  have e2:(n:Int)<=57:=by omega
  have a:IntKind.wrap .u8 ((n:Int)-48)=(n:Int)-48:=wrap_u8 om om;have b:IntKind.wrap .i64 ((n:Int)-48)=(n:Int)-48:=wr om om;have d2:((n-48:Nat):Int)=(n:Int)-48:=by omega
  simp[fy,e1,e2,yJ,a,b,Er,d1,d2]
 ·have dd:fy (n:Int)=false:=by
   unfold fy;by_cases e1:(48:Int)<=n<;>simp[e1];omega
  by_cases d3:97<=n/\n<=102
  ·have e1:(97:Int)<=n:=om;have e2:(n:Int)<=102:=om;have a:IntKind.wrap .u8 ((n:Int)-97)=(n:Int)-97:=wrap_u8 om om;have b:IntKind.wrap .i64 ((n:Int)-97)=(n:Int)-97:=wr om om;have e:IntKind.wrap .i64 ((n:Int)-97+10)=(n:Int)-97+10:=wr om om;have d2:((n-87:Nat):Int)=(n:Int)-97+10:=om;simp[dd,e1,e2,yJ,a,b,e,Er,d1,d3,d2]
  ·by_cases d4:65<=n/\n<=70
   ·have e1:(65:Int)<=n:=om;have e2:(n:Int)<=70:=om;have e3:¬(97:Int)<=n:=om;have a:IntKind.wrap .u8 ((n:Int)-65)=(n:Int)-65:=wrap_u8 om om;have b:IntKind.wrap .i64 ((n:Int)-65)=(n:Int)-65:=wr om om;have e:IntKind.wrap .i64 ((n:Int)-65+10)=(n:Int)-65+10:=wr om om;have d2:((n-55:Nat):Int)=(n:Int)-65+10:=om;simp[dd,e1,e2,e3,yJ,a,b,e,Er,d1,d3,d4,d2]
   ·by_cases f1:(97:Int)<=n<;>by_cases f2:(65:Int)<=n
    ·have f3:¬(n:Int)<=102:=om;have f4:¬(n:Int)<=70:=om;simp[dd,f1,f2,f3,f4,d1,d3,d4]
    ·omega
    ·have f4:¬(n:Int)<=70:=om;simp[dd,f1,f2,f4,d1,d3,d4]
    ·simp[dd,f1,f2,d1,d3,d4]
theorem sR{α:Type}[BEq α][LawfulBEq α]{l:List α}{i:Nat}{x:α}(hi:i<l.length)(h:(l.take i).contains x=false)(b:(l[i]==x)=false):(l.take (i+1)).contains x=false:=by
 rw[cy,aj hi];rw[dx]at h⊢;intro a;rw[dQ,aP]at a;rcases a with a|a
 ·exact h (dQ.2 a)
 ·simp at a;rw[a]at b;simp at b
theorem Tf(s:bu)(h:ah):ba env 24 [.str s] h (λout h'=>out= .ret (.bool (keys.contains s))/\aJ h h'):=by
 refine wb fn24 rfl ?_;simp[f24];have g:((h.alloc (.D 1 (keys.map AV.str))).2).get h.nx=some (.D 1 (keys.map AV.str)):=sp
 have K:aJ h (h.alloc (.D 1 (keys.map AV.str))).2:=kT;obtain⟨p,b⟩:∃p,p=keys.map AV.str:=⟨_,rfl⟩
 rw[<-b]at g K;obtain⟨t,e⟩:∃t,t=(h.alloc (.D 1 p)).2:=⟨_,rfl⟩
 rw[<-e]at g K;have a:=e;rw[b]at a;simp only[keys,bL,iL]at a;rw[<-a];clear a e;refine bz (λm x=>∃i,i<=keys.length/\m=keys.length-i/\(keys.take i).contains s=false/\x.n=18/\x.ds=[]/\x.bX=false/\x.h=t/\x.rg.get 0=some (.str s)/\x.rg.get 3=some (.S h.nx 15)/\x.rg.get 4=some (.I i)) keys.length ?_ ?_
 ·exact⟨0,om,rfl,sp,rfl,rfl,rfl,rfl,sp,sp,sp⟩
 rintro m ⟨rg,n,H,ds,bX⟩ ⟨i,hi,rfl,u,e1,e2,e3,y,r0,r3,r4⟩
 dsimp only at e1 e2 e3 y r0 r3 r4;subst e1 e2 e3 y;have C:keys.length=15:=rfl;by_cases j:i<keys.length
 ·have o:(i:Int)<15:=by omega
  have A:i<15:=by omega
  have D:p[i]?=some (.str keys[i]):=by rw[b,bt,aj j];rfl
  have F:IntKind.wrap .i64 ((i:Int)+1)=((i+1:Nat):Int):=by
   rw[wr om om];simp
  simp[r0,r3,r4,o,g,D];cases B:(keys[i]==s)with
  |true=>
   have:keys.contains s=true:=(by rw[<-eq_of_beq B];exact dQ.2 (bk _));simp;exact⟨U7 this,K⟩
  |false=>
   have v:=sR j u B;simp[F];exact⟨_,om,i+1,om,rfl,U7 v,rfl⟩
 ·have w:i=keys.length:=by omega
  subst w;rw[cF]at u;simp[r3,r4,C];exact⟨U7 u,K⟩
end
section
theorem zJ:∀(l:bu)(c:UInt8),0<=Lib.indexByte l c↔c∈l
 |[],c=>by simp[Lib.indexByte]
 |b::l,c=>by
  have i:=zJ l c;have j:=Lib.indexByte_ge l c;unfold Lib.indexByte;by_cases a:b=c
  ·simp[a]
  ·have f:(b==c)=false:=az.2 a;have g:¬c=b:=λe=>a e.symm;simp only[f,dN,eY,ak,g,false_or];rw[<-i];split
   ·rename_i h;have:=eq_of_beq h;omega
   ·rename_i h;have:Lib.indexByte l c≠-1:=λe=>h (by rw[e];rfl);omega
theorem Es(c0:UInt8)(s:bu)(h:ah)(hl:s.length<=65536):ba env 25 [.str (c0::s)] h (λout h'=>out= .ret (.str ((c0::s).take (gK (c0::s)).toNat))/\aJ h h'):=by
 refine wb fn25 rfl ?_;simp[f25];have g:((h.alloc (.D 1 (lM.map AV.str))).2).get h.nx=some (.D 1 (lM.map AV.str)):=sp
 have K:aJ h (h.alloc (.D 1 (lM.map AV.str))).2:=kT;obtain⟨N,v⟩:∃N,N=lM.map AV.str:=⟨_,rfl⟩
 rw[<-v]at g K;obtain⟨h1,D⟩:∃h1,h1=(h.alloc (.D 1 N)).2:=⟨_,rfl⟩
 rw[<-D]at g K;have w:=D;rw[v]at w;simp only[lM,bL,iL]at w;rw[<-w];clear w D;obtain⟨I,Q⟩:∃I:Nat->St->Prop,I=(λm x=>∃i,i<=lM.length/\m=lM.length-i/\(2<=s.length+1->(lM.take i).contains ((c0::s).take 2)=false)/\x.n=44/\x.ds=[]/\x.bX=false/\aJ h x.h/\x.h.get h.nx=some (.D 1 N)/\x.rg.get 0=some (.str (c0::s))/\x.rg.get 3=some (.S h.nx 9)/\x.rg.get 4=some (.I i)):=⟨_,rfl⟩
 refine bz I lM.length (by rw[Q];exact⟨0,om,rfl,sp,rfl,rfl,rfl,K,g,sp,sp,sp⟩) ?_;clear K g;intro m st O;have C:=O;rw[Q]at C;obtain⟨rg,n,H,ds,bX⟩:=st;obtain⟨i,hi,rfl,F,e1,e2,e3,K,g,r0,r3,r4⟩:=C;clear O;dsimp only at e1 e2 e3 K g r0 r3 r4;subst e1 e2 e3;have S:lM.length=9:=rfl;by_cases b:i<lM.length
 ·have a:(i:Int)<9:=by omega
  have A1:i<9:=by omega
  have U:N[i]?=some (.str lM[i]):=by rw[v,bt,aj b];rfl
  have R:IntKind.wrap .i64 ((i:Int)+1)=((i+1:Nat):Int):=by
   rw[wr om om];simp
  have go:((2<=s.length+1->(lM.take (i+1)).contains ((c0::s).take 2)=false))->∀cC,cC.get 0=some (.str (c0::s))->cC.get 3=some (.S h.nx 9)->cC.get 4=some (.I ((i+1:Nat):Int))->∃j,j<lM.length-i/\I j ⟨cC,44,H.bump 12,[],false⟩:=by
   intro o cC q0 q3 q4;refine⟨lM.length-(i+1),om,?_⟩;rw[Q];exact⟨i+1,b,rfl,o,rfl,rfl,rfl,K.bump 12,g,q0,q3,q4⟩
  by_cases h2:2<=s.length+1
  ·have y:(2:Int)<=(s.length:Int)+1:=om;cases t:(lM[i]==(c0::s).take 2)with
   |true=>
    have he:=eq_of_beq t;have hm:gK (c0::s)=2:=by
     unfold gK;rw[aY ⟨IN,by rw[<-he];exact bk _⟩]
    simp[r3,r4,a];refine Dd ?_;rw[hm];have A:((c0::s).take 2==lM[i])=true:=(by rw[he];simp);simp at he A t;simp[r0,r3,r4,a,g,U,y,A];exact K.bump 12
   |false=>
    have o:(lM.take (i+1)).contains ((c0::s).take 2)=false:=sR b (F h2) t;have A:(c0::s.take 1==lM[i])=false:=by
     have:(c0::s).take 2=c0::s.take 1:=rfl;rw[this]at t;rw[az]at t⊢;exact λe=>t e.symm
    simp[r3,r4,a];refine Dd ?_;simp[r0,r3,r4,a,g,U,y,A,R];exact go (λ_=>o) _ (by simp[r0]) (by simp[r3]) sp
  ·have y:¬(2:Int)<=(s.length:Int)+1:=om;simp[r3,r4,a];refine Dd ?_;simp[r0,r4,y,R];exact go (λe=>absurd e h2) _ (by simp[r0]) (by simp[r3]) sp
 ·have J:i=lM.length:=by omega
  subst J;rw[cF]at F;simp[r3,r4,S];have V:¬(2<=(c0::s).length/\(c0::s).take 2∈lM):=λe=>by
   have:=F (U7 e.1);rw[dQ.2 e.2]at this;cases this
  obtain⟨p,B⟩:∃p,p=xG:=⟨_,rfl⟩
  have u:p.length=22:=by rw[B];rfl
  have e1:([40,41,123,125,91,93,59,44,46,61,60,62,43,45,42,47,37,38,124,94,126,33]:bu)=p:=by rw[B];rfl
  try rw[e1]
  clear r3 r4 g v Q I F b hi;have P:=r0;clear r0;refine bz (λm x=>∃i,i<=22/\m=22-i/\(p.take i).contains c0=false/\x.n=44/\x.ds=[]/\x.bX=false/\aJ h x.h/\x.rg.get 0=some (.str (c0::s))/\x.rg.get 5=some (.str p)/\x.rg.get 6=some (.I i)) 22 ?_ ?_
  ·exact⟨0,om,rfl,sp,rfl,rfl,rfl,K,by simp[P],sp,sp⟩
  clear K P rg H
  rintro m ⟨rg,n,H,ds,bX⟩ ⟨i,hi,rfl,F,e1,e2,e3,K,r0,r5,r6⟩
  dsimp only at e1 e2 e3 K r0 r5 r6;subst e1 e2 e3;have hm:gK (c0::s)=if 0<=Lib.indexByte xG c0 then 1 else 0:=by unfold gK;rw[ay V]
  by_cases b:i<22
  ·have a:(i:Int)<22:=om;have U:p[i]?=some p[i]:=aj om;have R:IntKind.wrap .i64 ((i:Int)+1)=((i+1:Nat):Int):=by
    rw[wr om om];simp
   simp[r5,r6,a,u];refine Dd ?_;have W:(1:Int)<=(s.length:Int)+1:=om;have Z:i<p.length:=om;cases t:(p[i]==c0)with
   |true=>
    have he:=eq_of_beq t;have h0:0<=Lib.indexByte xG c0:=by
     rw[zJ,<-B,<-he];exact bk _
    have q:((c0.toNat:Int)==(p[i].toNat:Int))=true:=(by rw[he];simp);simp[r0,r5,r6,b,u,q,W,hm,h0];exact K.bump 6
   |false=>
    have o:=sR Z F t;have q:((c0.toNat:Int)==(p[i].toNat:Int))=false:=by
     rw[az]at t⊢;intro e;exact t (cY om)
    simp[r0,r5,r6,b,u,q,R];exact⟨_,om,i+1,om,rfl,U7 o,K.bump 6,rfl⟩
  ·have J:i=22:=om;subst J;have o:xG.contains c0=false:=(by rw[<-B,<-List.take_length (l:=p),u];exact F);have h0:¬0<=Lib.indexByte xG c0:=λe=>by
    rw[zJ,<-List.contains_iff_mem,o]at e;cases e
   simp[r5,r6,u,hm,h0];exact K
theorem IZ{α:Type}{P:List α->Prop}(h0:P [])(a:∀l c,P l->P (l++[c]))(l:List α):P l:=by
 have:∀m:List α,P m.reverse:=by
  intro m;induction m with
  |nil=>exact h0
  |cons c m b=>rw[ki];exact a _ _ b
 have:=this l.reverse;rwa[List.reverse_reverse]at this
def sT(l:List UInt8):Nat:=l.foldl (λa c=>a*16+(wY c).toNat) 0
def qg(l:List UInt8):Nat:=l.foldl (λa c=>a*10+(c.toNat-48)) 0
theorem An(l:bu)(c:UInt8):sT (l++[c])=sT l*16+(wY c).toNat:=by simp[sT]
theorem Ao(l:bu)(c:UInt8):qg (l++[c])=qg l*10+(c.toNat-48):=by simp[qg]
theorem O4{c:UInt8}{v:Nat}(h:wU c=some v):v<16:=by
 unfold wU at h;split at h
 ·injection h with h;omega
 ·split at h
  ·injection h with h;omega
  ·split at h
   ·injection h with h;omega
   ·cases h
theorem Et{c:UInt8}(h:0<=wY c):∃v,wU c=some v/\wY c=v/\v<16:=by
 unfold wY at*;cases a:wU c with
 |none=>rw[a]at h;simp at h
 |some v=>exact⟨v,rfl,sp,O4 a⟩
theorem Kb:∀(l:bu),(∀c∈l,0<=wY c)->sT l<16^l.length:=by
 refine IZ (λ_=>by simp[sT]) λl c a h=>?_;obtain⟨v,f,b,g⟩:=Et (h c sp);have:=a λx e=>h x (by simp[e]);rw[An,aO,b,ue,Nat.pow_succ];omega
theorem Kd:∀(l:bu),(∀c∈l,fy c.toNat=true)->qg l<10^l.length:=by
 refine IZ (λ_=>by simp[qg]) λl c a h=>?_;have b:=h c sp;simp[fy]at b;have:=a λx e=>h x (by simp[e]);rw[Ao,aO,ue,Nat.pow_succ];omega
theorem I7:∀(l:bu)(a:Nat),(∀c∈l,0<=wY c)->l.foldl (λa c=>a*16+(wY c).toNat) a<9223372036854775808->wT a l=some (l.foldl (λa c=>a*16+(wY c).toNat) a)
 |[],a,_,_=>rfl
 |c::l,a,h,b=>by
  obtain⟨v,e,f,j⟩:=Et (h c sp);have ht:(wY c).toNat=v:=by rw[f];simp
  simp only[jt,ht]at b⊢;have hle:a*16+v<=l.foldl (λa c=>a*16+(wY c).toNat) (a*16+v):=by
   clear b h;generalize a*16+v=x;induction l generalizing x with
   |nil=>simp
   |cons d l g=>simp only[jt];exact bh om (g _)
  simp only[wT,e];rw[ay om];exact I7 l _ (λx i=>h x (by simp[i])) b
theorem Gj:∀(l:bu)(a:Nat),(∀c∈l,fy c.toNat=true)->l.foldl (λa c=>a*10+(c.toNat-48)) a<9223372036854775808->Lib.parseUint10 a l= .ok (l.foldl (λa c=>a*10+(c.toNat-48)) a)
 |[],a,_,_=>rfl
 |c::l,a,h,b=>by
  have e:=h c sp;simp[fy]at e;simp only[jt]at b⊢;have hle:a*10+(c.toNat-48)<=l.foldl (λa c=>a*10+(c.toNat-48)) (a*10+(c.toNat-48)):=by
   clear b h;generalize a*10+(c.toNat-48)=x;induction l generalizing x with
   |nil=>simp
   |cons d l f=>simp only[jt];exact bh om (f _)
  unfold Lib.parseUint10;rw[aY om,ay om,ay om];exact Gj l _ (λx g=>h x (by simp[g])) b
end
theorem Mq{l:bu}(h:∀c∈l,fy c.toNat=true):∀b∈l,yn.contains b=true:=λb a=>by
 have e:=h b a;have key:∀n:Fin 256,fy ((UInt8.ofNat n.1).toNat:Int)=true->yn.contains (UInt8.ofNat n.1)=true:=dc
 have:=key ⟨b.toNat,b.toNat_lt⟩;simp only[UInt8.ofNat_toNat]at this;exact this e
theorem Mr{s:bu}(h0:s≠[])(a:∀c∈s,fy c.toNat=true)(b:s.length<=1\/s.head?≠some 48)(f:qg s<9223372036854775808):uw s=some (qg s:Int):=by
 obtain⟨c,r,rfl⟩:∃c r,s=c::r:=by cases s with|nil=>exact(h0 rfl).elim|cons c r=>exact⟨c,r,rfl⟩
 have g:Lib.hasPrefix (c::r) [48,120]=false:=by
  unfold Lib.hasPrefix;cases r with
  |nil=>rw[dx];intro e;rw[dO]at e;have:=e.length_le;simp at this
  |cons d r=>
   rw[dx];intro e;rw[dO]at e;obtain⟨t,ht⟩:=e;simp at ht;have:=a d sp;rw[<-ht.2.1]at this;revert this;decide
 have h:=a c sp;simp[fy]at h;have i:Lib.parseUint10 0 (c::r)= .ok (qg (c::r)):=Gj (c::r) 0 a f;have j:Lib.atoiAll (c::r)= .ok (qg (c::r):Int):=by
  have m:¬c.toNat=43:=by omega
  have o:¬c.toNat=45:=by omega
  have p:¬9223372036854775808<=qg (c::r):=by omega
  unfold Lib.atoiAll Lib.parseMag;simp[m,o,i,p]
 unfold uw;rw[ay (by rw[g];simp),aY ⟨Mq a,b⟩,j]
theorem Ms{s:bu}(h0:s≠[])(a:∀c∈s,0<=wY c)(j:s.length<=16)(b:sT s<9223372036854775808):uw (48::120::s)=some (sT s:Int):=by
 have f:Lib.hasPrefix (48::120::s) [48,120]=true:=by
  unfold Lib.hasPrefix;rw[dO];exact⟨s,rfl⟩
 have g:wT 0 s=some (sT s):=I7 s 0 a b;unfold uw;rw[aY f];have e:(48::120::s).drop 2=s:=rfl;have i:¬(s=[]\/16<s.length):=by rintro(h|h);exact h0 h;omega
 rw[e,ay i,g];rfl
theorem Gk{u:Int}:cm (pure (Value.int .u64 u))=some (.int .u64 u):=by simp[cm,iF,pure]
theorem Tg{a:Int}(h0:0<=a)(b:a<18446744073709551616):IntKind.wrap .u64 a=a:=by rw[IntKind.wrap_u64];omega
def Mt(s:List UInt8)(out:Out):Prop:=∃v ok,out= .ret (.iO [.I v,.bool ok])/\(ok=true->uw s=some v)
def Ku:Code->Code
 | .seq a _=>a
 |c=>c
def vq:Code->Code
 | .seq _ b=>b
 |c=>c
def Ke(f:Func):Code:=match f.body with
 |some c=>c
 |none=> .skip
theorem HD(s:bu)(h:ah)(h0:s≠[])(hl:s.length<=65536)(Q:bT->St->Prop)(t:∀(rg:T AV)(v:Int)(ok:Bool),rg.get 2=some (.I v)->rg.get 3=some (.bool ok)->(ok=true->uw s=some v)->Q .ret ⟨rg,86,h,[],false⟩)(rg:T AV)(r0:rg.get 0=some (.str s))(r4:rg.get 4=some (.int .u64 0))(r6:rg.get 6=some (.I 0)):
 ct env (vq (Ku (vq (vq (vq (Ke f23)))))) (kv (ct env (vq (vq (vq (vq (Ke f23))))) Q) Q) ⟨rg,86,h,[],false⟩:=by
 simp only[Ku,vq,Ke,f23,Hj];obtain⟨I,N⟩:∃I:Nat->St->Prop,I=(λm x=>∃i v,i<=s.length/\m=s.length-i/\(∀b∈s.take i,fy b.toNat=true)/\v<18446744073709551616/\(i<=19->v=qg (s.take i))/\x.n=86/\x.ds=[]/\x.bX=false/\x.h=h/\x.rg.get 0=some (.str s)/\x.rg.get 4=some (.int .u64 (v:Nat))/\x.rg.get 6=some (.I i)):=⟨_,rfl⟩
 refine bz I s.length (by rw[N];exact⟨0,0,om,rfl,sp,om,λ_=>by simp[qg],rfl,rfl,rfl,rfl,r0,U7 r4,U7 r6⟩) ?_;clear r0 r4 r6 rg;intro m st B;have p:=B;rw[N]at p;obtain⟨rg,n,H,ds,bX⟩:=st;obtain⟨i,v,hi,rfl,J,hv,j,e1,e2,e3,Z,r0,r4,r6⟩:=p;clear B;dsimp only at e1 e2 e3 Z r0 r4 r6;subst e1 e2 e3 Z;by_cases o:i<s.length
 ·have C:(i:Int)<(s.length:Int):=by omega
  have hx:s[i]?=some s[i]:=aj o;have w1:IntKind.wrap .i64 ((i:Int)+1)=((i+1:Nat):Int):=by
   rw[wr om om];simp
  have tk:s.take (i+1)=s.take i++[s[i]]:=by rw[cy,hx];rfl
  simp[r0,r6,o,C];refine(jZ _ _).m1 λh2 hq=>?_;subst hq;cases hg:fy (s[i].toNat:Int)with
  |false=>
   simp;exact t _ 0 false sp sp sp
  |true=>
   have O:=hg;simp[fy]at O;generalize P:s[i]=ci at*;obtain⟨x,A2⟩:∃x:Nat,x=v*10%18446744073709551616:=⟨_,rfl⟩
   obtain⟨d,R⟩:∃d:Nat,d=ci.toNat-48:=⟨_,rfl⟩
   obtain⟨y,A3⟩:∃y:Nat,y=(x+d)%18446744073709551616:=⟨_,rfl⟩
   have v1:IntKind.wrap .u64 ((v:Int)*10)=(x:Int):=(by rw[IntKind.wrap_u64];omega);have v2:IntKind.wrap .u8 ((ci.toNat:Int)-48)=(d:Int):=(by rw[wrap_u8 om om];omega);have v3:IntKind.wrap .u64 (d:Int)=(d:Int):=Tg om om;have v4:IntKind.wrap .u64 ((x:Int)+(d:Int))=(y:Int):=(by rw[IntKind.wrap_u64];omega);simp[r0,r4,r6,o,w1,Mn,yJ,Mm,v1,v2,Gk,v3,v4,P];refine⟨s.length-(i+1),om,?_⟩;rw[N];refine⟨i+1,y,o,rfl,?_,om,?_,rfl,rfl,rfl,rfl,by simp[r0],sp,sp⟩
   ·intro b w;rw[tk]at w;rcases aP.1 w with w|w
    ·exact J b w
    ·simp only[aQ]at w;rw[w];exact hg
   ·intro A4;rw[tk,Ao,<-R];have S:=Kd (s.take i) J;have U:(s.take i).length<=18:=(by rw[bR];omega);have A1:10^(s.take i).length<=10^18:=Nat.pow_le_pow_right om U;have:=j om;omega
 ·have V:i=s.length:=by omega
  subst V;rw[cF]at J j;obtain⟨c,r,rfl⟩:∃c r,s=c::r:=by cases s with|nil=>exact(h0 rfl).elim|cons c r=>exact⟨c,r,rfl⟩
  obtain⟨u,hu⟩:∃u:Int,u=IntKind.wrap .i64 (v:Int):=⟨_,rfl⟩
  simp only[ai]at r6 j hl;by_cases b1:r.length+1<=19
  ·have a:(r.length:Int)+1<=19:=om;have fin:((c.toNat:Int) !=48)=true\/((r.length:Int)+1==1)=true->v<9223372036854775808->uw (c::r)=some u:=by
    intro D A5;have F:=j b1;have hw:u=(v:Int):=(by rw[hu,wr om om]);rw[hw,F];refine Mr sp J ?_ om;rcases D with D|D
    ·right;intro e;simp at e;subst e;revert D;decide
    ·left;have:=eq_of_beq D;simp only[ai];omega
   cases A:((c.toNat:Int) !=48)with
   |true=>
    by_cases W:v<9223372036854775808
    ·have g:(v:Int)<9223372036854775808:=om;simp[r0,r4,r6,sK,<-hu,a,A,g];exact t _ u true sp sp (λ_=>fin (.inl A) W)
    ·have g:¬(v:Int)<9223372036854775808:=om;simp[r0,r4,r6,sK,<-hu,a,A,g];exact t _ u false sp sp sp
   |false=>
    cases K:((r.length:Int)+1==1)with
    |true=>
     by_cases W:v<9223372036854775808
     ·have g:(v:Int)<9223372036854775808:=om;simp[r0,r4,r6,sK,<-hu,a,A,K,g];exact t _ u true sp sp (λ_=>fin (.inr K) W)
     ·have g:¬(v:Int)<9223372036854775808:=om;simp[r0,r4,r6,sK,<-hu,a,A,K,g];exact t _ u false sp sp sp
    |false=>
     simp[r0,r4,r6,sK,<-hu,a,A,K];exact t _ u false sp sp sp
  ·have a:¬(r.length:Int)+1<=19:=om;simp[r0,r4,r6,sK,<-hu,a];exact t _ u false sp sp sp
theorem Mu(s:bu)(h:ah)(h0:s≠[])(hl:s.length<=65536):ba env 23 [.str s] h (λout h'=>Mt s out/\h'=h):=by
 refine wb fn23 rfl ?_;have dec:=λ(rg:T AV) r0 r4 r6=>HD s h h0 hl (atEnd env f23 (λout h'=>Mt s out/\h'=h)) (λrg v ok h2 h3 hk=>by
  rw[Lg];refine⟨rfl,?_⟩;simp[f23,h2,h3];exact⟨v,ok,rfl,hk⟩) rg r0 r4 r6
 obtain⟨c,r,rfl⟩:∃c r,s=c::r:=by cases s with|nil=>exact(h0 rfl).elim|cons c r=>exact⟨c,r,rfl⟩
 simp only[Ku,vq,Ke,f23]at dec;by_cases K:2<r.length+1
 ·have j:(2:Int)<(r.length:Int)+1:=by omega
  cases N:((c.toNat:Int)==48)with
  |false=>
   simp[f23,j,N];exact dec _ sp sp sp
  |true=>
   obtain⟨d,a,rfl⟩:∃d a,r=d::a:=(by cases r with|nil=>simp at K|cons d a=>exact⟨d,a,rfl⟩);have C7:(1:Int)<(a.length:Int)+1+1:=om;have C8:(0:Int)<(a.length:Int)+1:=om;have C9:(2:Int)<(a.length:Int)+1+1:=(by simp at j;omega);have O:(2:Int)<(a.length:Int)+2:=om;cases W:((d.toNat:Int)==120)with
   |false=>
    simp[f23,O,N,W];exact dec _ sp sp sp
   |true=>
    simp[f23,O,N,W];have Z:c=48:=cY (by have:=eq_of_beq N;have:(48:UInt8).toNat=48:=rfl;omega);have A1:d=120:=cY (by have:=eq_of_beq W;have:(120:UInt8).toNat=120:=rfl;omega);subst Z A1;clear dec N W;have A2:a≠[]:=(by rintro rfl;simp at K);simp only[ai]at hl;obtain⟨s,P⟩:∃s:bu,s=48::120::a:=⟨_,rfl⟩
    rw[<-P];have CL:s.length=a.length+2:=(by rw[P];rfl);have A3:∀i,s[2+i]?=a[i]?:=λi=>by rw[P,show 2+i=i+1+1 by omega];rfl
    obtain⟨I,hI⟩:∃I:Nat->St->Prop,I=(λm x=>∃i v,i<=a.length/\m=a.length-i/\(∀b∈a.take i,0<=wY b)/\v<18446744073709551616/\(i<=16->v=sT (a.take i))/\x.n=86/\x.ds=[]/\x.bX=false/\x.h=h/\x.rg.get 0=some (.str s)/\x.rg.get 4=some (.int .u64 (v:Nat))/\x.rg.get 5=some (.I ((2+i:Nat):Int))):=⟨_,rfl⟩
    refine bz I a.length (by rw[hI];exact⟨0,0,om,rfl,sp,om,λ_=>by simp[sT],rfl,rfl,rfl,rfl,by simp[P],sp,sp⟩) ?_;intro m st Q;have w:=Q;rw[hI]at w;obtain⟨rg,n,H,ds,bX⟩:=st;obtain⟨i,v,hi,rfl,o,hv,C,e1,e2,e3,e4,r0,r4,r5⟩:=w;clear Q;dsimp only at e1 e2 e3 e4 r0 r4 r5;subst e1 e2 e3 e4;by_cases R:i<a.length
    ·have e:((2+i:Nat):Int)<(s.length:Int):=om;have g:2+i<s.length:=om;have hx:a[i]?=some a[i]:=aj R;obtain⟨ci,A4⟩:∃ci,a[i]=ci:=⟨_,rfl⟩
     rw[A4]at hx;have A5:s[2+i]?=some ci:=(by rw[A3,hx]);have A:s[2+i]'g=ci:=by
      have:=aj g;rw[A5]at this;injection this with this;exact this.symm
     have w1:IntKind.wrap .i64 (((2+i:Nat):Int)+1)=((2+(i+1):Nat):Int):=by
      rw[wr om om];omega
     have tk:a.take (i+1)=a.take i++[ci]:=(by rw[cy,hx];rfl);generalize Au:2+i=k2 at*;simp[r0,r5,e,g,A];refine(PZ _ _).m1 λh2 hq=>?_;subst hq;by_cases S:wY ci<0
     ·simp[S];exact⟨0,false,rfl,sp⟩
     ·obtain⟨B,d1,d2,d3⟩:=Et (c:=ci) om;have D:¬(B:Int)<0:=om;obtain⟨x,C1⟩:∃x:Nat,x=v*16%18446744073709551616:=⟨_,rfl⟩
      have sh:∀t,cm (Go.binOp .shl t (.int .u64 v) (.int .u64 4))=some (.int .u64 (x:Int)):=λt=>by rw[Mo,<-C1]
      have U:∀t,cm (Go.binOp .or t (.int .u64 x) (.int .u64 B))=some (.int .u64 ((x+B:Nat):Int)):=λt=>Mp om d3 om;have v3:IntKind.wrap .u64 (B:Int)=(B:Int):=Tg om om;obtain⟨y,C2⟩:∃y:Nat,y=x+B:=⟨_,rfl⟩
      rw[<-C2]at U;simp[d2,D,r0,r4,r5,g,A,sh];refine(PZ _ _).m1 λh3 hq=>?_;subst hq;simp[d2,Gk,v3,U,r5,w1];refine⟨a.length-(i+1),om,?_⟩;rw[hI];refine⟨i+1,y,R,rfl,?_,om,?_,rfl,rfl,rfl,rfl,by simp[r0],sp,sp⟩
      ·intro b F;rw[tk]at F;rcases aP.1 F with F|F
       ·exact o b F
       ·simp only[aQ]at F;rw[F,d2];omega
      ·intro F0;rw[tk,An,d2];have C3:=Kb (a.take i) o;have C4:(a.take i).length<=15:=(by rw[bR];omega);have C6:16^(a.take i).length<=16^15:=Nat.pow_le_pow_right om C4;have:=C om;have ht:((B:Int)).toNat=B:=om;rw[ht];omega
    ·have C5:i=a.length:=om;subst C5;rw[cF]at o C;obtain⟨u,hu⟩:∃u:Int,u=IntKind.wrap .i64 (v:Int):=⟨_,rfl⟩
     have e:¬((2+a.length:Nat):Int)<(s.length:Int):=om;have g:¬2+a.length<s.length:=om;generalize Au:2+a.length=k2 at*;by_cases b1:s.length<=18
     ·have p:(s.length:Int)<=18:=om;have V:=C om;by_cases b4:v<9223372036854775808
      ·have J:(v:Int)<9223372036854775808:=om;simp[r0,r4,r5,e,sK,<-hu,p,J];refine⟨u,true,rfl,λ_=>?_⟩;have hw:u=(v:Int):=(by rw[hu,wr om om]);rw[hw,V,P];exact Ms A2 o om om
      ·have J:¬(v:Int)<9223372036854775808:=om;simp[r0,r4,r5,e,sK,<-hu,p,J];exact⟨u,false,rfl,sp⟩
     ·have p:¬(s.length:Int)<=18:=om;simp[r0,r4,r5,e,sK,<-hu,p];exact⟨u,false,rfl,sp⟩
 ·have j:¬(2:Int)<(r.length:Int)+1:=by omega
  simp[f23,j];exact dec _ sp sp sp
theorem BU:∀(a:bu)(l c:Int)(b:UInt8),eR l c (a++[b])=if b=10 then((eR l c a).1+1,1)else((eR l c a).1,(eR l c a).2+1)
 |[],l,c,b=>by simp only[aX,eR]
 |x::a,l,c,b=>by
  simp only[aI,eR];split<;>exact BU a _ _ b
def Rx:Code->Code
 | .block _ b=>b
 |c=>c
def UJ:Code->Code
 | .loop b=>b
 |c=>c
noncomputable def Mw:Code:=Rx (vq (UJ (Rx (Ku (vq (vq (vq (vq (vq (vq (Ke f12)))))))))))
noncomputable def mq:Code:=vq (vq (vq (vq Mw)))
theorem Gm(s:bu)(p3 i n:Nat)(line a fr:Int)(av:AV)(h:ah)(F:bT->St->Prop)(hs:s.length<=65536)(hi:i+n<=s.length)(hl:0<=line/\line<=i+1)(hf:0<=fr/\fr<=i)(R:a=i-fr+1)
 (S:∀(rg:T AV)(b:Int),0<=b/\b<=i+n->(eR line a ((s.drop i).take n)).2=(i+n:Nat)-b+1->0<=(eR line a ((s.drop i).take n)).1/\(eR line a ((s.drop i).take n)).1<=i+n+1->rg.get 0=some (.str s)->rg.get 3=some (.P p3)->rg.get 5=some av->rg.get 6=some (.I (eR line a ((s.drop i).take n)).1)->rg.get 7=some (.I b)->rg.get 8=some (.I ((i+n:Nat):Int))->F .kj ⟨rg,244,h,[],false⟩)
 (rg:T AV) (r0:rg.get 0=some (.str s)) (r3:rg.get 3=some (.P p3)) (r5:rg.get 5=some av) (r6:rg.get 6=some (.I line)) (r7:rg.get 7=some (.I fr)) (r8:rg.get 8=some (.I i)) (j:rg.get 11=some (.I n)) (o:rg.get 16=some (.I i)):
 ct env (vq (Ku mq)) (kv (ct env (vq mq) F) F) ⟨rg,244,h,[],false⟩:=by
 simp only[mq,Mw,Ku,vq,Rx,UJ,Ke,f12,Hj];obtain⟨I,D⟩:∃I:Nat->St->Prop,I=(λm x=>∃(k:Nat)(b:Int),k<=n/\m=n-k/\(0<=b/\b<=i+k)/\(eR line a ((s.drop i).take k)).2=(i+k:Nat)-b+1/\(0<=(eR line a ((s.drop i).take k)).1/\(eR line a ((s.drop i).take k)).1<=i+k+1)/\x.n=244/\x.ds=[]/\x.bX=false/\x.h=h/\x.rg.get 0=some (.str s)/\x.rg.get 3=some (.P p3)/\x.rg.get 5=some av/\x.rg.get 6=some (.I (eR line a ((s.drop i).take k)).1)/\x.rg.get 7=some (.I b)/\x.rg.get 8=some (.I i)/\x.rg.get 11=some (.I n)/\x.rg.get 16=some (.I ((i+k:Nat):Int))):=⟨_,rfl⟩
 refine bz I n (by rw[D];exact⟨0,fr,om,rfl,om,by simp[eR,R],by simp[eR];omega,rfl,rfl,rfl,rfl,r0,r3,r5,by simpa[eR]using r6,r7,r8,j,U7 o⟩) ?_;clear r0 r3 r5 r6 r7 r8 j o rg;intro m st C;have u:=C;rw[D]at u;obtain⟨rg,n',H,ds,bX⟩:=st;obtain⟨k,b,hk,rfl,J,v,t,e1,e2,e3,O,r0,r3,r5,r6,r7,r8,j,o⟩:=u;clear C;dsimp only at e1 e2 e3 O r0 r3 r5 r6 r7 r8 j o;subst e1 e2 e3 O;have w0:IntKind.wrap .i64 ((i:Int)+(n:Int))=((i+n:Nat):Int):=wq
 by_cases U:k<n
 ·have w:((i+k:Nat):Int)<((i+n:Nat):Int):=by omega
  have p:i+k<s.length:=by omega
  obtain⟨ci,A⟩:∃ci,s[i+k]?=some ci:=⟨_,aj p⟩
  have y:s[i+k]=ci:=by rw[aj p]at A;injection A
  have tk:(s.drop i).take (k+1)=(s.drop i).take k++[ci]:=by
   rw[cy,eM,A];rfl
  have P:IntKind.wrap .i64 (((i+k:Nat):Int)+1)=((i+(k+1):Nat):Int):=wq
  have Q:IntKind.wrap .i64 ((eR line a ((s.drop i).take k)).1+1)=(eR line a ((s.drop i).take k)).1+1:=wr om om;have g:=BU ((s.drop i).take k) line a ci;rw[<-tk]at g;obtain⟨N,V⟩:∃N,N=eR line a ((s.drop i).take k):=⟨_,rfl⟩
  rw[<-V]at g v t r6 Q;generalize W:i+k=ik at*;generalize Z:((i+n:Nat):Int)=qp at*;by_cases B:ci=10
  ·subst B;rw[aY rfl]at g;simp[r0,r6,r8,j,o,w0,w,p,y,P,Q];refine⟨n-(k+1),om,?_⟩;rw[D];exact⟨k+1,((i+(k+1):Nat):Int),om,rfl,om,by rw[g];simp,by rw[g];simp;omega,rfl,rfl,rfl,rfl,by simp[r0],by simp[r3],by simp[r5],by rw[g];simp,sp,by simp[r8],by simp[j],sp⟩
  ·rw[ay B]at g;have q:((ci.toNat:Int)==10)=false:=by
    rw[az];intro e;apply B;apply cY;have:(10:UInt8).toNat=10:=rfl;omega
   simp[r0,r8,j,o,w0,w,p,y,P,q];refine⟨n-(k+1),om,?_⟩;rw[D];exact⟨k+1,b,om,rfl,om,by rw[g];simp;omega,by rw[g];simp;omega,rfl,rfl,rfl,rfl,by simp[r0],by simp[r3],by simp[r5],by rw[g];simp[r6],by simp[r7],by simp[r8],by simp[j],sp⟩
 ·have K:k=n:=by omega
  subst K;simp[r8,j,o,w0];exact S _ b J v t (by simp[r0]) (by simp[r3]) (by simp[r5]) (by simp[r6]) (by simp[r7]) sp
def nk(h:ah)(b:Nat)(ws:List Wo):Prop:=h.get b=some (.D 5 (eG ws))
structure Ul(s:List UInt8)(h:ah)(i:Nat)(bQ:List Wo)(line fr:Int)(b:Nat)(rg:T AV)(H:ah):Prop where
 hi:i<=s.length
 lex:∀dR,gZ line (i-fr+1) (s.drop i) dR->gZ 1 1 s (bQ++dR)
 l:0<=line/\line<=i+1
 f:0<=fr/\fr<=i
 n:bQ.length<=i
 aH:aJ h H
 c3:H.get h.nx=some (.C [.I 0,.I 0])
 arr:nk H b bQ
 lo:h.nx<b
 lt:b<H.nx
 r0:rg.get 0=some (.str s)
 r3:rg.get 3=some (.P h.nx)
 r5:rg.get 5=some (.S b bQ.length)
 r6:rg.get 6=some (.I line)
 r7:rg.get 7=some (.I fr)
 r8:rg.get 8=some (.I i)
theorem P0{E:Env}{P:T AV->Prop}{n:Nat}{h:ah}{G:Prop}(code:Code)(a:bT->St->Prop)(hm:(∀cC,P cC->ct E code a ⟨cC,n,h,[],false⟩)->G)(ht:∀cC,P cC->ct E code a ⟨cC,n,h,[],false⟩):G:=hm ht
def Um(s:List UInt8)(h:ah)(out:Out)(h':ah):Prop:=
 ∃a l c bad,out= .ret (.iO [a,.agg [.I l,.I c],.I bad])/\aJ h h'/\(bad=0->∃ws b,gZ 1 1 s ws/\a= .S b ws.length/\nk h' b ws/\h.nx<b/\b<h'.nx)
theorem Mx{h:ah}{X:cB}{st e:TypeId}{a es:Nat}{z:eu}(hu:env.nv st=some (.slice e))(o:env.siz e=some (es+1))(p:env.byt e=some a)(u:a<=100)(t:env.zer e=some z)(g:z.length=es+1){av:AV}{n:Nat}{cs:eu}(arr:cu X h av (es+1) n cs)(y:cs.length=n*(es+1))(A:(n+1)*(a+1)<=roomy)
 (src:Nat) (ec:eu) (v:ec.length=es+1) (i:ec.all AV.scalar=true) (f:h.get src=some (.D (es+1) ec)) (fr:bP h):
 ∃j,aK env h st av (.S src 1)=some (.S h.nx (n+1),j)/\j.nx=h.nx+1/\j.get h.nx=some (.D (es+1) (cs++ec))/\aR (aT av) h j:=by
 have w:¬roomy<(n+1)*(a+1):=by
  omega
 have r0:¬roomy<a+1:=by unfold roomy;omega
 have t0:ec.take (es+1)=ec:=cn om;have l0:es+1<=ec.length:=om
 rcases arr with⟨rfl,rfl,rfl⟩|⟨b,rfl,_,gb⟩
 ·refine⟨_,by simp[-me,-List.all_eq_true,hu,o,p,t,f,r0,g,t0,l0,i];rfl,rfl,sp,?_⟩;exact kX
 ·have m:=aw fr gb
  have hm:(n+1)*(es+1)=n*(es+1)+(es+1):=Nat.succ_mul ..;have g1:¬(n+1)*(es+1)<=cs.length:=by omega
  have g2:n*(es+1)<=cs.length:=by omega
  have tk:cs.take (n*(es+1))=cs:=cn om;refine⟨_,by simp[-me,-List.all_eq_true,hu,o,p,t,f,gb,w,g1,g2,tk,g,t0,l0,i];rfl,rfl,sp,?_⟩;simp[aT];refine aR.alloc _ (aR.set _ (aR.refl _ _) (.inl sp) m)
theorem HF(a b:dh):eG (a++b)=eG a++eG b:=by simp[eG]
theorem zK{H:ah}{b j:Nat}{ws:dh}{w:Wo}(ar:nk H b ws)(o:ws.length<=65536)(f:H.get j=some (.D 5 w.cells))(fr:bP H):
 ∃a,aK env H 51 (.S b ws.length) (.S j 1)=some (.S H.nx (ws.length+1),a)/\a.nx=H.nx+1/\nk a H.nx (ws++[w])/\aR [b] H a:=by
 obtain⟨a,g,h,i,m⟩:=Mx (X:=[]) (n:=ws.length) (st:=51) (e:=58) rfl ty58.1 ty58.2.1 dc ty58.2.2.2 rfl (.inr ⟨b,rfl,sp,ar⟩) (by rw[BP];omega) (by unfold roomy;omega) j w.cells rfl rfl f fr;refine⟨a,g,h,?_,m⟩;unfold nk;rw[i,HF];simp[eG]
theorem P1:∀(l:bu)(d:UInt8)(n:Nat),(∀k,k<n->l[k]?≠some d)->l[n]?=some d->Lib.indexByte l d=n
 |[],d,n,_,h=>by simp at h
 |b::l,d,0,_,h=>by simp at h;subst h;simp[Lib.indexByte]
 |b::l,d,n+1,a,h=>by
  have e:(b==d)=false:=by
   have:=a 0 om;simp at this;exact az.2 this
  have f:=P1 l d n (λk g=>by simpa using a (k+1) om) (U7 h);unfold Lib.indexByte;rw[f];have:((n:Int)== -1)=false:=by rw[az];omega
  simp[e,this]
theorem Th{l:bu}{d:UInt8}(h:∀k:Nat,l[k]?≠some d):¬0<=Lib.indexByte l d:=λe=>by
 rw[zJ]at e;obtain⟨k,he⟩:=List.mem_iff_getElem?.1 e;exact h k he
theorem P2:∀(l:bu)(q:Nat),(∀p,p<q->¬(l[p]?=some 42/\l[p+1]?=some 47))->l[q]?=some 42->l[q+1]?=some 47->js l=q
 |[],q,_,h,_=>by simp at h
 |b::l,0,_,h,h'=>by
  simp at h h';subst h;cases l with
  |nil=>simp at h'
  |cons d l=>simp at h';subst h';simp[js,Hm]
 |b::l,q+1,f,h,h'=>by
  have h0:=f 0 om;have a:Hm (b::l)=false:=by
   cases l with
   |nil=>unfold Hm;split<;>simp_all
   |cons d l=>
    simp at h0;unfold Hm;split
    ·rename_i e;injection e with e1 e2;injection e2 with e2 e3;exact absurd e2 (h0 e1)
    ·rfl
  have g:=P2 l q (λp i=>by simpa using f (p+1) om) (U7 h) (U7 h');have:¬((q:Int)<0):=by omega
  simp[js,a,g,this]
theorem IT(s:bu)(h:ah)(F5:bP h):ba env 12 [.str s] h (Um s h):=by
 refine wb fn12 rfl ?_;have rm:(0:Nat)<=roomy:=bJ _;simp[f12,mf,rm];by_cases hs:s.length<=65536
 ·have L0:¬(65536:Int)<(s.length:Int):=by omega
  simp[L0];obtain⟨I,hI⟩:∃I:Nat->St->Prop,I=(λm x=>∃i bQ line fr b,m=s.length-i/\x.n=244/\x.ds=[]/\x.bX=false/\Ul s h i bQ line fr b x.rg x.h):=⟨_,rfl⟩
  refine bz I s.length (by
   rw[hI];refine⟨0,[],1,0,h.nx+1,sp,rfl,rfl,rfl,⟨om,λdR g=>U7 g,sp,sp,sp,kT,sp,by simp[nk,eG],sp,sp,sp,sp,sp,sp,sp,sp⟩⟩) ?_
  intro m st u;have F:=u;rw[hI]at F;obtain⟨rg,n',H,ds,bX⟩:=st;obtain⟨i,bQ,line,fr,b,rfl,e1,e2,e3,W⟩:=F;clear u;dsimp only at e1 e2 e3 W;subst e1 e2 e3;obtain⟨hi,lex,hl,hf,hn,K,c3,ar,lo,lt,r0,r3,r5,r6,r7,r8⟩:=W;by_cases A4:i<s.length
  ·have C3:(i:Int)<(s.length:Int):=om;obtain⟨c,hc⟩:∃c,s[i]?=some c:=⟨_,aj A4⟩
   have C7:s[i]=c:=(by rw[aj A4]at hc;injection hc);obtain⟨r,hr⟩:∃r,s.drop i=c::r:=⟨s.drop (i+1),by rw[bs A4,C7]⟩
   have F6:r.length+1+i=s.length:=(by have:=nt List.length hr;rw[bK,ai]at this;omega);have w1:IntKind.wrap .i64 ((i:Int)-fr)=(i:Int)-fr:=wr om om;have w2:IntKind.wrap .i64 ((i:Int)-fr+1)=(i:Int)-fr+1:=wr om om;have fin:∀(QQ:bT->St->Prop),(∀cd,(∃j,j<s.length-i/\I j cd)->QQ .kj cd)->∀(n:Nat)(H':ah)(b':Nat)(CL:dh)(cC:T AV),0<n->i+n<=s.length->
    (∀dR,gZ (eR line (i-fr+1) ((s.drop i).take n)).1 (eR line (i-fr+1) ((s.drop i).take n)).2 ((s.drop i).drop n) dR->gZ line (i-fr+1) (s.drop i) (CL++dR))->CL.length<=n->aJ h H'->H'.get h.nx=some (.C [.I 0,.I 0])->nk H' b' (bQ++CL)->h.nx<b'->b'<H'.nx->
    cC.get 0=some (.str s)->cC.get 3=some (.P h.nx)->cC.get 5=some (.S b' (bQ++CL).length)->cC.get 6=some (.I line)->cC.get 7=some (.I fr)->cC.get 8=some (.I i)->cC.get 11=some (.I n)->cC.get 16=some (.I i)->
    ct env (vq (Ku mq)) (kv (ct env (vq mq) QQ) QQ) ⟨cC,244,H',[],false⟩:=by
    intro QQ C4 n H' b' CL cC F0 F7 M3 aD K' S2 S3 T0 T2 q0 q3 q5 q6 q7 q8 A1 C5;refine Gm s h.nx i n line (i-fr+1) fr _ H' QQ hs F7 hl hf rfl (λaE T4 aF C7 aG p0 p3 p5 p6 p7 p8=>?_) cC q0 q3 q5 q6 q7 q8 A1 C5;refine C4 _ ⟨s.length-(i+n),om,?_⟩;rw[hI];refine⟨i+n,bQ++CL,_,T4,b',rfl,rfl,rfl,rfl,⟨F7,λdR g=>?_,om,om,IN,K',S2,S3,T0,T2,p0,p3,p5,p6,p7,p8⟩⟩;rw[aU];refine lex _ (M3 dR ?_);rw[List.drop_drop];rw[C7];exact g
   have Kc:aJ h ((H.alloc (.C [.I 0,.I 0])).2.set H.nx (.C [.I line,.I ((i:Int)-fr+1)])):=kT;have nn:=K.nx;have F1:(((H.alloc (.C [.I 0,.I 0])).2.set H.nx (.C [.I line,.I ((i:Int)-fr+1)]))).get h.nx=some (.C [.I 0,.I 0]):=by
    rw[ah.aM,ay om,ah.cO,ay om];exact c3
   have FF:nk ((H.alloc (.C [.I 0,.I 0])).2.set H.nx (.C [.I line,.I ((i:Int)-fr+1)])) b bQ:=by
    unfold nk;rw[ah.aM,ay om,ah.cO,ay om];exact ar
   have FO:b<(((H.alloc (.C [.I 0,.I 0])).2.set H.nx (.C [.I line,.I ((i:Int)-fr+1)]))).nx:=by simp;omega
   have HZ:H.nx<(((H.alloc (.C [.I 0,.I 0])).2.set H.nx (.C [.I line,.I ((i:Int)-fr+1)]))).nx:=by simp
   have gp:(((H.alloc (.C [.I 0,.I 0])).2.set H.nx (.C [.I line,.I ((i:Int)-fr+1)]))).get H.nx=some (.C [.I line,.I ((i:Int)-fr+1)]):=sp;by_cases F2:c∈([32,9,13,10]:bu)
   ·have A5:fQ (c::r)=(1,true):=by
     simp only[fQ];rw[aY ((zJ _ _).2 F2)]
    have H3:∀(QQ:bT->St->Prop),(∀cd,(∃j,j<s.length-i/\I j cd)->QQ .kj cd)->∀cC,cC.get 0=some (.str s)->cC.get 3=some (.P h.nx)->cC.get 5=some (.S b bQ.length)->cC.get 6=some (.I line)->cC.get 7=some (.I fr)->cC.get 8=some (.I i)->cC.get 11=some (.I 1)->cC.get 16=some (.I i)->
     ct env (vq (Ku mq)) (kv (ct env (vq mq) QQ) QQ) ⟨cC,244,((H.alloc (.C [.I 0,.I 0])).2.set H.nx (.C [.I line,.I ((i:Int)-fr+1)])),[],false⟩:=λQQ C4 cC q0 q3 q5 q6 q7 q8 A1 C5=>
     fin QQ C4 1 _ b [] cC om om (λdR g=>by rw[hr]at g⊢;exact .blank (n:=1) sp A5 om sp g) sp Kc F1 (U7 FF) lo FO q0 q3 (U7 q5) q6 q7 q8 A1 C5
    simp only[ak,bm,cT]at F2;rcases F2 with rfl|rfl|rfl|rfl
    all_goals
     simp[r0,r6,r7,r8,A4,C3,C7,w1,w2];exact H3 _ (λ_ h=>h) _ (by simp[r0]) (by simp[r3]) (by simp[r5]) (by simp[r6]) (by simp[r7]) (by simp[r8]) sp sp
   ·have I0:¬0<=Lib.indexByte [32,9,13,10] c:=λe=>F2 ((zJ _ _).1 e);simp only[ak,bm,cT,iS]at F2;have ne:∀d:UInt8,c≠d->((c.toNat:Int)==(d.toNat:Int))=false:=λd hd=>by
     rw[az];intro e;exact hd (cY om)
    have HE:((c.toNat:Int)==32)=false:=ne 32 F2.1;have q9:((c.toNat:Int)==9)=false:=ne 9 F2.2.1;have HG:((c.toNat:Int)==13)=false:=ne 13 F2.2.2.1;have C8:((c.toNat:Int)==10)=false:=ne 10 F2.2.2.2;have TH:s[i]?=some c:=hc;have F3:∀j:Nat,s[i+j]?=(c::r)[j]?:=λj=>by rw[<-hr,eM]
    cases FP:((c.toNat:Int)==47)with
    |true=>
     have S:c=47:=cY (by have:=eq_of_beq FP;have:(47:UInt8).toNat=47:=rfl;omega);obtain⟨k1,V2⟩:∃k1,k1=i+1:=⟨_,rfl⟩
     have K7:IntKind.wrap .i64 ((i:Int)+1)=(k1:Int):=wq;cases r with
     |nil=>
      have FQ:eT (c.toNat:Int)=false:=(by subst S;decide);have FW:fy (c.toNat:Int)=false:=(by subst S;decide);have F4:¬k1<s.length:=(by simp at F6;omega);have M4:¬(k1:Int)<(s.length:Int):=om;have A5:fQ [c]=(0,true):=(by subst S;simp[fQ,I0,Lib.hasPrefix]);have u:eT (c.toNat:Int)=false:=FQ;have C1:fy (c.toNat:Int)=false:=FW;simp[r0,r6,r7,r8,A4,C3,C7,w1,w2,HE,q9,HG,C8,FP,K7,M4];generalize ((H.alloc (.C [.I 0,.I 0])).2.set H.nx (.C [.I line,.I ((i:Int)-fr+1)]))=Hc at*;refine(ot _ _).m1 λh2 U=>?_;subst U;simp[u];refine(jZ _ _).m1 λh3 U=>?_;subst U;have hle:(i:Int)<=(s.length:Int):=om;simp[C1,r0,r8,hle,hr];refine(Es c _ _ (by have:=F6;(try simp only[aW]at this⊢);omega)).m1 λh4 km=>?_;have G2:H.nx<h3.nx:=HZ;have G3:=(km.old H.nx G2).trans gp;have G4:=(km.old h.nx om).trans F1;have I1:nk h4 b bQ:=(km.old b FO).trans FF;have K4:=Kc.trans km;have n4:=km.nx;obtain⟨B,A2⟩:∃B,B=c::[]:=⟨_,rfl⟩
      have D:jG B=if 0<gK B then some ⟨4,B.take (gK B).toNat,0⟩else none:=by
       have H3:je (c.toNat:Int)=false:=(by simp[je,u,C1]);have F0:cM B=0:=(by rw[A2];simp[cM,H3]);rw[A2]at F0⊢;simp only[jG,u,F0];simp
      rw[<-A2]at A5 hr⊢;have M5:=vK B;have H4:B.length+i=s.length:=(by rw[A2];simp at F6⊢;omega);by_cases I2:0<gK B
      ·rw[aY I2]at D;obtain⟨tx,C⟩:∃tx,tx=B.take (gK B).toNat:=⟨_,rfl⟩
       rw[<-C]at D⊢;have V:(tx.length:Int)=gK B:=(by rw[C,bR];omega);have G5:(tx==[])=false:=by
        rw[az];intro e;rw[e]at V;simp at V;omega
       have H5:B.take tx.length=tx:=by
        rw[C,bR,qR om]
       simp[-aK,r5,G5,G3];have K5:aJ h4 (h4.alloc (.D 5 [.I 4,.str tx,.I 0,.I line,.I ((i:Int)-fr+1)])).2:=kT;obtain⟨h6,ha,n6,O,k6⟩:=zK (w:=⟨4,tx,0,line,(i:Int)-fr+1⟩) (j:=h4.nx) (show nk (h4.alloc (.D 5 [.I 4,.str tx,.I 0,.I line,.I ((i:Int)-fr+1)])).2 b bQ from(K5.old b om).trans I1) om (by simp[Wo.cells]) ((K4.trans K5).fresh F5);simp[-aK]at ha n6 O;simp[-aK,r8,ha];have K6:aJ h h6:=(aR.trans' (X:=[]) ((K4.trans K5).x []) k6 (by intro z hz A4;simp at hz;omega)).aH;have Au:=(k6.old h.nx IN IN).trans ((K5.old h.nx om).trans G4);exact fin _ (λ_ h=>h) tx.length h6 (h4.nx+1) [⟨4,tx,0,line,(i:Int)-fr+1⟩] _ om om (λdR g=>by
        rw[hr]at g⊢;rw[H5]at g;exact .word (by rw[A2];simp) A5 D g) IN K6 Au O om om (by simp[r0]) (by simp[r3]) sp (by simp[r6]) (by simp[r7]) (by simp[r8]) sp sp
      ·have I3:(gK B).toNat=0:=om;rw[I3]
       try simp
       refine Dd ?_;simp[r3,r5,G3,G4];refine dm ?_;exact⟨_,_,_,3,rfl,kT,sp⟩
     |cons d r2=>
      have M6:s[k1]?=some d:=(by rw[V2];exact F3 1);have H9:k1<s.length:=(by simp at F6;omega);have H6:(k1:Int)<(s.length:Int):=om;have L1:s[k1]=d:=(by rw[aj H9]at M6;injection M6);cases qd:((d.toNat:Int)==47)with
      |true=>
       have I4:d=47:=cY (by have:=eq_of_beq qd;have:(47:UInt8).toNat=47:=rfl;omega);simp[r0,r6,r7,r8,A4,C3,C7,w1,w2,HE,q9,HG,C8,FP,K7,H9,H6,L1,qd];generalize ((H.alloc (.C [.I 0,.I 0])).2.set H.nx (.C [.I line,.I ((i:Int)-fr+1)]))=Hc at*;obtain⟨J,hJ⟩:∃J:Nat->St->Prop,J=(λm x=>∃n,1<=n/\i+n<=s.length/\m=s.length-(i+n)/\(∀j,j<n->s[i+j]?≠some 10)/\x.n=244/\x.ds=[]/\x.bX=false/\x.h=Hc/\x.rg.get 0=some (.str s)/\x.rg.get 3=some (.P h.nx)/\x.rg.get 5=some (.S b bQ.length)/\x.rg.get 6=some (.I line)/\x.rg.get 7=some (.I fr)/\x.rg.get 8=some (.I i)/\x.rg.get 11=some (.I (n:Nat))):=⟨_,rfl⟩
       refine bz J (s.length-(i+1)) (by
        rw[hJ];refine⟨1,om,om,rfl,?_,rfl,rfl,rfl,rfl,by simp[r0],by simp[r3],by simp[r5],by simp[r6],by simp[r7],by simp[r8],sp⟩;intro j hj;have:j=0:=om;subst this;rw[mr,TH,S];decide) ?_
       clear r0 r3 r5 r6 r7 r8 rg;intro m st u;have F:=u;rw[hJ]at F;obtain⟨rg,n',H2,ds,bX⟩:=st;obtain⟨n,HP,F7,rfl,HU,e1,e2,e3,e4,r0,r3,r5,r6,r7,r8,a⟩:=F;clear u;dsimp only at e1 e2 e3 e4 r0 r3 r5 r6 r7 r8 a;subst e1 e2 e3 e4;obtain⟨A,GL⟩:∃A,A=i+n:=⟨_,rfl⟩
       have Q:IntKind.wrap .i64 ((i:Int)+(n:Int))=(A:Int):=wq;obtain⟨n1,I5⟩:∃n1,n1=n+1:=⟨_,rfl⟩
       have C2:IntKind.wrap .i64 ((n:Int)+1)=(n1:Int):=wq;have HA:(fQ (c::d::r2)=((n:Int),true))->∀(QQ:bT->St->Prop),(∀cd,(∃j,j<s.length-i/\I j cd)->QQ .kj cd)->∀cC,cC.get 0=some (.str s)->cC.get 3=some (.P h.nx)->cC.get 5=some (.S b bQ.length)->cC.get 6=some (.I line)->cC.get 7=some (.I fr)->cC.get 8=some (.I i)->cC.get 11=some (.I n)->cC.get 16=some (.I i)->
        ct env (vq (Ku mq)) (kv (ct env (vq mq) QQ) QQ) ⟨cC,244,H2,[],false⟩:=λA5 QQ C4 cC q0 q3 q5 q6 q7 q8 A1 C5=>
        fin QQ C4 n _ b [] cC om om (λdR g=>by rw[hr]at g⊢;exact .blank (n:=n) sp A5 om (by rw[<-hr,bK];omega) g) sp Kc F1 (U7 FF) lo FO q0 q3 (U7 q5) q6 q7 q8 A1 C5
       have I6:fQ (c::d::r2)=(if 0<=Lib.indexByte (c::d::r2) 10 then(Lib.indexByte (c::d::r2) 10,true)else(((c::d::r2).length:Int),true)):=by
        subst S I4;simp[fQ,I0,Lib.hasPrefix]
       have KF:(n=(c::d::r2).length\/s[i+n]?=some 10)->fQ (c::d::r2)=((n:Int),true):=by
        intro ho;rw[I6];by_cases M7:s[i+n]?=some 10
        ·have:=P1 (c::d::r2) 10 n (λk hk=>by rw[<-F3 k];exact HU k hk) (by rw[<-F3 n];exact M7);rw[this,aY om]
        ·have F4:n=(c::d::r2).length:=(by rcases ho with ho|ho;exact ho;exact absurd ho M7);rw[ay (Th λk=>by
          by_cases hk:k<n
          ·rw[<-F3 k];exact HU k hk
          ·rw[ej om];simp),F4]
       have M8:(c::d::r2).length=s.length-i:=(by rw[<-hr,bK]);by_cases t:A<s.length
       ·have o:(A:Int)<(s.length:Int):=om;obtain⟨x,g⟩:∃x,s[A]?=some x:=⟨_,aj t⟩
        have Z:s[A]=x:=(by rw[aj t]at g;injection g);by_cases IB:x=10
        ·subst IB;simp[r0,r8,a,Q,t,o,Z];exact HA (KF (.inr (by rw[<-GL];exact g))) _ (λ_ h=>h) _ (by simp[r0]) (by simp[r3]) (by simp[r5]) (by simp[r6]) (by simp[r7]) (by simp[r8]) (by simp[a]) sp
        ·have qx:((x.toNat:Int) !=10)=true:=by
          rw[bne_iff_ne];intro e;apply IB;apply cY;have:(10:UInt8).toNat=10:=rfl;omega
         simp[r0,r8,a,Q,t,o,Z,qx,C2];refine⟨s.length-(i+n1),om,?_⟩;rw[hJ];refine⟨n1,om,om,rfl,?_,rfl,rfl,rfl,rfl,by simp[r0],by simp[r3],by simp[r5],by simp[r6],by simp[r7],by simp[r8],sp⟩;intro j hj;by_cases V5:j<n
         ·exact HU j V5
         ·have:i+j=A:=om;rw[this,g];intro e;injection e with e;exact IB e
       ·have o:¬(A:Int)<(s.length:Int):=om;simp[r0,r8,a,Q,o];exact HA (KF (.inl om)) _ (λ_ h=>h) _ (by simp[r0]) (by simp[r3]) (by simp[r5]) (by simp[r6]) (by simp[r7]) (by simp[r8]) (by simp[a]) sp
      |false=>
       have I4:d≠47:=λe=>by subst e;simp at qd
       cases qe:((d.toNat:Int)==42)with
       |true=>
        have IH:d=42:=cY (by have:=eq_of_beq qe;have:(42:UInt8).toNat=42:=rfl;omega);simp[r0,r6,r7,r8,A4,C3,C7,w1,w2,HE,q9,HG,C8,FP,K7,H9,H6,L1,qd,qe];generalize ((H.alloc (.C [.I 0,.I 0])).2.set H.nx (.C [.I line,.I ((i:Int)-fr+1)]))=Hc at*;obtain⟨J,hJ⟩:∃J:Nat->St->Prop,J=(λm x=>∃n,2<=n/\i+n<=s.length/\m=s.length-(i+n)/\(∀p,p+3<n->¬(r2[p]?=some 42/\r2[p+1]?=some 47))/\x.n=244/\x.ds=[]/\x.bX=false/\x.h=Hc/\x.rg.get 0=some (.str s)/\x.rg.get 3=some (.P h.nx)/\x.rg.get 5=some (.S b bQ.length)/\x.rg.get 6=some (.I line)/\x.rg.get 7=some (.I fr)/\x.rg.get 8=some (.I i)/\x.rg.get 9=some (.P H.nx)/\x.rg.get 11=some (.I (n:Nat))):=⟨_,rfl⟩
        refine bz J (s.length-(i+2)) (by
         rw[hJ];refine⟨2,om,om,rfl,om,rfl,rfl,rfl,rfl,by simp[r0],by simp[r3],by simp[r5],by simp[r6],by simp[r7],by simp[r8],sp,sp⟩) ?_
        clear r0 r3 r5 r6 r7 r8 rg;intro m st u;have F:=u;rw[hJ]at F;obtain⟨rg,n',H2,ds,bX⟩:=st;obtain⟨n,HP,F7,rfl,HU,e1,e2,e3,e4,r0,r3,r5,r6,r7,r8,r9,a⟩:=F;clear u;dsimp only at e1 e2 e3 e4 r0 r3 r5 r6 r7 r8 r9 a;subst e1 e2 e3 e4;obtain⟨A,GL⟩:∃A,A=i+n:=⟨_,rfl⟩
        obtain⟨km,aL⟩:∃km,km=i+n-1:=⟨_,rfl⟩
        have Q:IntKind.wrap .i64 ((i:Int)+(n:Int))=(A:Int):=wq;have M9:IntKind.wrap .i64 ((A:Int)-1)=(km:Int):=wq;obtain⟨n1,I5⟩:∃n1,n1=n+1:=⟨_,rfl⟩
        have C2:IntKind.wrap .i64 ((n:Int)+1)=(n1:Int):=wq;have I6:fQ (c::d::r2)=(js r2+4,decide (0<=js r2)):=by
         subst S IH;simp[fQ,I0,Lib.hasPrefix]
        have M8:(c::d::r2).length=s.length-i:=(by rw[<-hr,bK]);simp only[ai]at M8;have K8:∀p:Nat,s[i+(p+2)]?=r2[p]?:=λp=>by rw[F3 (p+2)];rfl
        have HA:r2[n-3]?=some 42/\r2[n-3+1]?=some 47->3<=n->A<s.length->∀(QQ:bT->St->Prop),(∀cd,(∃j,j<s.length-i/\I j cd)->QQ .kj cd)->∀cC,cC.get 0=some (.str s)->cC.get 3=some (.P h.nx)->cC.get 5=some (.S b bQ.length)->cC.get 6=some (.I line)->cC.get 7=some (.I fr)->cC.get 8=some (.I i)->cC.get 11=some (.I n1)->cC.get 16=some (.I i)->
         ct env (vq (Ku mq)) (kv (ct env (vq mq) QQ) QQ) ⟨cC,244,H2,[],false⟩:=λMB h3 t QQ C4 cC q0 q3 q5 q6 q7 q8 A1 C5=>by
         have MH:=P2 r2 (n-3) (λp hp=>HU p om) MB.1 MB.2;have A5:fQ (c::d::r2)=((n1:Int),true):=by
          rw[I6,MH];have:((n-3:Nat):Int)+4=(n1:Int):=om;rw[this];simp
         exact fin QQ C4 n1 _ b [] cC om om (λdR g=>by rw[hr]at g⊢;exact .blank (n:=n1) sp A5 om IN g) sp Kc F1 (U7 FF) lo FO q0 q3 (U7 q5) q6 q7 q8 A1 C5
        by_cases t:A<s.length
        ·have o:(A:Int)<(s.length:Int):=om;obtain⟨x,g⟩:∃x,s[A]?=some x:=⟨_,aj t⟩
         have Z:s[A]=x:=(by rw[aj t]at g;injection g);have H4:km<s.length:=om;obtain⟨y,hy⟩:∃y,s[km]?=some y:=⟨_,aj H4⟩
         have ML:s[km]=y:=(by rw[aj H4]at hy;injection hy);have again:¬(3<=n/\x=47/\y=42)->∀cC,cC.get 0=some (.str s)->cC.get 3=some (.P h.nx)->cC.get 5=some (.S b bQ.length)->cC.get 6=some (.I line)->cC.get 7=some (.I fr)->cC.get 8=some (.I i)->cC.get 9=some (.P H.nx)->cC.get 11=some (.I n1)->∃j,j<s.length-(i+n)/\J j ⟨cC,244,H2,[],false⟩:=by
          intro W1 cC q0 q3 q5 q6 q7 q8 q9 A1;refine⟨s.length-(i+n1),om,?_⟩;rw[hJ];refine⟨n1,om,om,rfl,?_,rfl,rfl,rfl,rfl,q0,q3,q5,q6,q7,q8,q9,A1⟩;intro p hp;by_cases W2:p+3<n
          ·exact HU p W2
          ·have:p+3=n:=by omega
           rintro⟨KA,KB⟩
           rw[<-K8,show i+(p+2)=km from om,hy]at KA;rw[<-K8,show i+(p+1+2)=A from om,g]at KB;injection KA with KA;injection KB with KB;exact W1 ⟨om,KB,KA⟩
         by_cases h3:3<=n
         ·have Ia:(3:Int)<=(n:Int):=om;by_cases HC:x=47
          ·by_cases Ik:y=42
           ·subst HC Ik;have F4:((A:Int)==(s.length:Int))=false:=(by rw[az];omega);simp[r0,r8,a,Q,M9,C2,t,o,H4,Z,ML,Ia,F4];refine HA ⟨?_,?_⟩ h3 t _ (λ_ h=>h) _ (by simp[r0]) (by simp[r3]) (by simp[r5]) (by simp[r6]) (by simp[r7]) (by simp[r8]) sp sp
            ·rw[<-K8,show i+(n-3+2)=km by omega];exact hy
            ·rw[<-K8,show i+(n-3+1+2)=A by omega];exact g
           ·have qy:((y.toNat:Int)==42)=false:=by
             rw[az];intro e;apply Ik;apply cY;have:(42:UInt8).toNat=42:=rfl;omega
            subst HC;simp[r0,r8,a,Q,M9,C2,t,o,H4,Z,ML,Ia,qy];exact again (λe=>Ik e.2.2) _ (by simp[r0]) (by simp[r3]) (by simp[r5]) (by simp[r6]) (by simp[r7]) (by simp[r8]) (by simp[r9]) sp
          ·have qx:((x.toNat:Int)==47)=false:=by
            rw[az];intro e;apply HC;apply cY;have:(47:UInt8).toNat=47:=rfl;omega
           simp[r0,r8,a,Q,C2,t,o,Z,Ia,qx];exact again (λe=>HC e.2.1) _ (by simp[r0]) (by simp[r3]) (by simp[r5]) (by simp[r6]) (by simp[r7]) (by simp[r8]) (by simp[r9]) sp
         ·have Ia:¬(3:Int)<=(n:Int):=om;simp[r0,r8,a,Q,C2,o,Ia];exact again (λe=>h3 e.1) _ (by simp[r0]) (by simp[r3]) (by simp[r5]) (by simp[r6]) (by simp[r7]) (by simp[r8]) (by simp[r9]) sp
        ·have o:¬(A:Int)<(s.length:Int):=om;have F4:((A:Int)==(s.length:Int))=true:=(by rw[ju];omega);simp[r0,r8,a,Q,o,F4];refine Dd ?_;simp[r3,r5,r9,gp,F1];refine dm ?_;exact⟨_,_,_,3,rfl,kT,sp⟩
       |false=>
        have IH:d≠42:=λe=>by subst e;simp at qe
        have FQ:eT (c.toNat:Int)=false:=(by subst S;decide);have FW:fy (c.toNat:Int)=false:=(by subst S;decide);have A5:fQ (c::d::r2)=(0,true):=by
         have e1:Lib.hasPrefix (c::d::r2) [47,47]=false:=(by simp[Lib.hasPrefix,List.isPrefixOf,S];exact λe=>I4 e.symm);have e2:Lib.hasPrefix (c::d::r2) [47,42]=false:=(by simp[Lib.hasPrefix,List.isPrefixOf,S];exact λe=>IH e.symm);simp only[fQ,e1,e2,ay I0];simp
        have u:eT (c.toNat:Int)=false:=FQ;have C1:fy (c.toNat:Int)=false:=FW;simp[r0,r6,r7,r8,A4,C3,C7,w1,w2,HE,q9,HG,C8,FP,K7,H9,H6,L1,qd,qe];generalize ((H.alloc (.C [.I 0,.I 0])).2.set H.nx (.C [.I line,.I ((i:Int)-fr+1)]))=Hc at*;refine(ot _ _).m1 λh2 U=>?_;subst U;simp[u];refine(jZ _ _).m1 λh3 U=>?_;subst U;have hle:(i:Int)<=(s.length:Int):=om;simp[C1,r0,r8,hle,hr];refine(Es c _ _ (by have:=F6;(try simp only[ai]at this⊢);omega)).m1 λh4 km=>?_;have G2:H.nx<h3.nx:=HZ;have G3:=(km.old H.nx G2).trans gp;have G4:=(km.old h.nx om).trans F1;have I1:nk h4 b bQ:=(km.old b FO).trans FF;have K4:=Kc.trans km;have n4:=km.nx;obtain⟨B,A2⟩:∃B,B=c::d::r2:=⟨_,rfl⟩
        have D:jG B=if 0<gK B then some ⟨4,B.take (gK B).toNat,0⟩else none:=by
         have H3:je (c.toNat:Int)=false:=(by simp[je,u,C1]);have F0:cM B=0:=(by rw[A2];simp[cM,H3]);rw[A2]at F0⊢;simp only[jG,u,F0];simp
        rw[<-A2]at A5 hr⊢;have M5:=vK B;have H4:B.length+i=s.length:=(by rw[A2];simp at F6⊢;omega);by_cases I2:0<gK B
        ·rw[aY I2]at D;obtain⟨tx,C⟩:∃tx,tx=B.take (gK B).toNat:=⟨_,rfl⟩
         rw[<-C]at D⊢;have V:(tx.length:Int)=gK B:=(by rw[C,bR];omega);have G5:(tx==[])=false:=by
          rw[az];intro e;rw[e]at V;simp at V;omega
         have H5:B.take tx.length=tx:=by
          rw[C,bR,qR om]
         simp[-aK,r5,G5,G3];have K5:aJ h4 (h4.alloc (.D 5 [.I 4,.str tx,.I 0,.I line,.I ((i:Int)-fr+1)])).2:=kT;obtain⟨h6,ha,n6,O,k6⟩:=zK (w:=⟨4,tx,0,line,(i:Int)-fr+1⟩) (j:=h4.nx) (show nk (h4.alloc (.D 5 [.I 4,.str tx,.I 0,.I line,.I ((i:Int)-fr+1)])).2 b bQ from(K5.old b om).trans I1) om (by simp[Wo.cells]) ((K4.trans K5).fresh F5);simp[-aK]at ha n6 O;simp[-aK,r8,ha];have K6:aJ h h6:=(aR.trans' (X:=[]) ((K4.trans K5).x []) k6 (by intro z hz A4;simp at hz;omega)).aH;have Au:=(k6.old h.nx IN IN).trans ((K5.old h.nx om).trans G4);exact fin _ (λ_ h=>h) tx.length h6 (h4.nx+1) [⟨4,tx,0,line,(i:Int)-fr+1⟩] _ om om (λdR g=>by
          rw[hr]at g⊢;rw[H5]at g;exact .word (by rw[A2];simp) A5 D g) IN K6 Au O om om (by simp[r0]) (by simp[r3]) sp (by simp[r6]) (by simp[r7]) (by simp[r8]) sp sp
        ·have I3:(gK B).toNat=0:=om;rw[I3]
         try simp
         refine Dd ?_;simp[r3,r5,G3,G4];refine dm ?_;exact⟨_,_,_,3,rfl,kT,sp⟩
    |false=>
     have S:c≠47:=λe=>by subst e;simp at FP
     have A5:fQ (c::r)=(0,true):=by
      have e1:Lib.hasPrefix (c::r) [47,47]=false:=(by simp[Lib.hasPrefix,List.isPrefixOf];intro e;exact absurd e.symm S);have e2:Lib.hasPrefix (c::r) [47,42]=false:=(by simp[Lib.hasPrefix,List.isPrefixOf];intro e;exact absurd e.symm S);simp only[fQ,e1,e2,ay I0];simp
     cases C9:je (c.toNat:Int)with
     |false=>
      have FQ:eT (c.toNat:Int)=false:=by
       unfold je at C9;rw[iy]at C9;exact C9.1
      have FW:fy (c.toNat:Int)=false:=by
       unfold je at C9;rw[iy]at C9;exact C9.2
      have u:eT (c.toNat:Int)=false:=FQ;have C1:fy (c.toNat:Int)=false:=FW;simp[r0,r6,r7,r8,A4,C3,C7,w1,w2,HE,q9,HG,C8,FP];generalize ((H.alloc (.C [.I 0,.I 0])).2.set H.nx (.C [.I line,.I ((i:Int)-fr+1)]))=Hc at*;refine(ot _ _).m1 λh2 U=>?_;subst U;simp[u];refine(jZ _ _).m1 λh3 U=>?_;subst U;have hle:(i:Int)<=(s.length:Int):=om;simp[C1,r0,r8,hle,hr];refine(Es c _ _ (by have:=F6;(try simp only[ai,aW]at this⊢);omega)).m1 λh4 km=>?_;have G2:H.nx<h3.nx:=HZ;have G3:=(km.old H.nx G2).trans gp;have G4:=(km.old h.nx om).trans F1;have I1:nk h4 b bQ:=(km.old b FO).trans FF;have K4:=Kc.trans km;have n4:=km.nx;obtain⟨B,A2⟩:∃B,B=c::r:=⟨_,rfl⟩
      have D:jG B=if 0<gK B then some ⟨4,B.take (gK B).toNat,0⟩else none:=by
       have H3:je (c.toNat:Int)=false:=(by simp[je,u,C1]);have F0:cM B=0:=(by rw[A2];simp[cM,H3]);rw[A2]at F0⊢;simp only[jG,u,F0];simp
      rw[<-A2]at A5 hr⊢;have M5:=vK B;have H4:B.length+i=s.length:=(by rw[A2];simp at F6⊢;omega);by_cases I2:0<gK B
      ·rw[aY I2]at D;obtain⟨tx,C⟩:∃tx,tx=B.take (gK B).toNat:=⟨_,rfl⟩
       rw[<-C]at D⊢;have V:(tx.length:Int)=gK B:=(by rw[C,bR];omega);have G5:(tx==[])=false:=by
        rw[az];intro e;rw[e]at V;simp at V;omega
       have H5:B.take tx.length=tx:=by
        rw[C,bR,qR om]
       simp[-aK,r5,G5,G3];have K5:aJ h4 (h4.alloc (.D 5 [.I 4,.str tx,.I 0,.I line,.I ((i:Int)-fr+1)])).2:=kT;obtain⟨h6,ha,n6,O,k6⟩:=zK (w:=⟨4,tx,0,line,(i:Int)-fr+1⟩) (j:=h4.nx) (show nk (h4.alloc (.D 5 [.I 4,.str tx,.I 0,.I line,.I ((i:Int)-fr+1)])).2 b bQ from(K5.old b om).trans I1) om (by simp[Wo.cells]) ((K4.trans K5).fresh F5);simp[-aK]at ha n6 O;simp[-aK,r8,ha];have K6:aJ h h6:=(aR.trans' (X:=[]) ((K4.trans K5).x []) k6 (by intro z hz A4;simp at hz;omega)).aH;have Au:=(k6.old h.nx IN IN).trans ((K5.old h.nx om).trans G4);exact fin _ (λ_ h=>h) tx.length h6 (h4.nx+1) [⟨4,tx,0,line,(i:Int)-fr+1⟩] _ om om (λdR g=>by
        rw[hr]at g⊢;rw[H5]at g;exact .word (by rw[A2];simp) A5 D g) IN K6 Au O om om (by simp[r0]) (by simp[r3]) sp (by simp[r6]) (by simp[r7]) (by simp[r8]) sp sp
      ·have I3:(gK B).toNat=0:=om;rw[I3]
       try simp
       refine Dd ?_;simp[r3,r5,G3,G4];refine dm ?_;exact⟨_,_,_,3,rfl,kT,sp⟩
     |true=>
      simp[r0,r6,r7,r8,A4,C3,C7,w1,w2,HE,q9,HG,C8,FP];generalize ((H.alloc (.C [.I 0,.I 0])).2.set H.nx (.C [.I line,.I ((i:Int)-fr+1)]))=Hc at*;have HP:1<=cM (c::r):=(by simp[cM,C9]);have F4:=Bz (c::r);cases u:eT (c.toNat:Int)with
      |true=>
       refine(ot _ _).m1 λh2 U=>?_;subst U;simp[u];obtain⟨J,hJ⟩:∃J:Nat->St->Prop,J=(λm x=>∃n,1<=n/\n<=cM (c::r)/\m=cM (c::r)-n/\x.n=244/\x.ds=[]/\x.bX=false/\x.h=h2/\x.rg.get 0=some (.str s)/\x.rg.get 3=some (.P h.nx)/\x.rg.get 5=some (.S b bQ.length)/\x.rg.get 6=some (.I line)/\x.rg.get 7=some (.I fr)/\x.rg.get 8=some (.I i)/\x.rg.get 9=some (.P H.nx)/\x.rg.get 10=some (.int .u8 c.toNat)/\x.rg.get 11=some (.I (n:Nat))):=⟨_,rfl⟩
       refine bz J (cM (c::r)-1) (by
        rw[hJ];exact⟨1,om,HP,rfl,rfl,rfl,rfl,rfl,by simp[r0],by simp[r3],by simp[r5],by simp[r6],by simp[r7],by simp[r8],sp,sp,sp⟩) ?_
       clear r0 r3 r5 r6 r7 r8 rg;intro m st Gq;have F:=Gq;rw[hJ]at F;obtain⟨rg,n',H2,ds,bX⟩:=st;obtain⟨n,MN,F7,rfl,e1,e2,e3,e4,r0,r3,r5,r6,r7,r8,r9,A3,a⟩:=F;clear Gq;dsimp only at e1 e2 e3 e4 r0 r3 r5 r6 r7 r8 r9 A3 a;subst e1 e2 e3 e4;have Li:(c::r).length=s.length-i:=(by rw[<-hr,bK]);obtain⟨A,GL⟩:∃A,A=i+n:=⟨_,rfl⟩
       have Q:IntKind.wrap .i64 ((i:Int)+(n:Int))=(A:Int):=wq;obtain⟨n1,I5⟩:∃n1,n1=n+1:=⟨_,rfl⟩
       have C2:IntKind.wrap .i64 ((n:Int)+1)=(n1:Int):=wq;apply P0 (E:=env) (n:=244) (h:=H2) (P:=λcC:T AV=>cC.get 0=some (.str s)/\cC.get 3=some (.P h.nx)/\cC.get 5=some (.S b bQ.length)/\cC.get 6=some (.I line)/\cC.get 7=some (.I fr)/\cC.get 8=some (.I i)/\cC.get 9=some (.P H.nx)/\cC.get 10=some (.int .u8 c.toNat)/\cC.get 11=some (.I (cM (c::r):Nat)))
       case hm=>
        intro tail;rcases xF F7 with⟨J2,ho⟩|⟨MY,x,g,R⟩
        ·rcases ho with ho|⟨x,g,R⟩
         ·have Y2:¬A<s.length:=om;have J3:¬(A:Int)<(s.length:Int):=om;simp[r0,r8,a,Q,J3];exact tail _ ⟨by simp[r0],by simp[r3],by simp[r5],by simp[r6],by simp[r7],by simp[r8],by simp[r9],by simp[A3],by rw[<-J2];simp[a]⟩
         ·rw[<-F3 n,<-GL]at g;have t:A<s.length:=by
           rcases dJ A s.length with h1|h1
           ·exact h1
           ·rw[ej h1]at g;cases g
          have o:(A:Int)<(s.length:Int):=om;have Z:s[A]=x:=(by rw[aj t]at g;injection g);have H7:eT (x.toNat:Int)=false:=(by unfold je at R;rw[iy]at R;exact R.1);have H8:fy (x.toNat:Int)=false:=(by unfold je at R;rw[iy]at R;exact R.2);simp[r0,r8,a,Q,t,o,Z];refine(ot _ _).m1 λh7 U=>?_;subst U;simp[H7,r0,r8,a,Q,t,Z];refine(jZ _ _).m1 λh8 U=>?_;subst U;simp[H8];exact tail _ ⟨by simp[r0],by simp[r3],by simp[r5],by simp[r6],by simp[r7],by simp[r8],by simp[r9],by simp[A3],by rw[<-J2];simp[a]⟩
        ·rw[<-F3 n,<-GL]at g;have t:A<s.length:=by
          rcases dJ A s.length with h1|h1
          ·exact h1
          ·rw[ej h1]at g;cases g
         have o:(A:Int)<(s.length:Int):=om;have Z:s[A]=x:=(by rw[aj t]at g;injection g);have again:∀cC,cC.get 0=some (.str s)->cC.get 3=some (.P h.nx)->cC.get 5=some (.S b bQ.length)->cC.get 6=some (.I line)->cC.get 7=some (.I fr)->cC.get 8=some (.I i)->cC.get 9=some (.P H.nx)->cC.get 10=some (.int .u8 c.toNat)->cC.get 11=some (.I n1)->∃j,j<cM (c::r)-n/\J j ⟨cC,244,H2,[],false⟩:=by
          intro cC q0 q3 q5 q6 q7 q8 q9 C8 A1;refine⟨cM (c::r)-n1,om,?_⟩;rw[hJ];exact⟨n1,om,om,rfl,rfl,rfl,rfl,rfl,q0,q3,q5,q6,q7,q8,q9,C8,A1⟩
         simp[r0,r8,a,Q,t,o,Z];refine(ot _ _).m1 λh7 U=>?_;subst U;cases H7:eT (x.toNat:Int)with
         |true=>
          simp[a,C2];exact again _ (by simp[r0]) (by simp[r3]) (by simp[r5]) (by simp[r6]) (by simp[r7]) (by simp[r8]) (by simp[r9]) (by simp[A3]) sp
         |false=>
          have H8:fy (x.toNat:Int)=true:=(by unfold je at R;rw[H7]at R;simpa using R);simp[r0,r8,a,Q,t,Z];refine(jZ _ _).m1 λh8 U=>?_;subst U;simp[H8,a,C2];exact again _ (by simp[r0]) (by simp[r3]) (by simp[r5]) (by simp[r6]) (by simp[r7]) (by simp[r8]) (by simp[r9]) (by simp[A3]) sp
       case ht=>
        intro cC hP;clear r0 r3 r5 r6 r7 r8 r9 A3 a;obtain⟨r0,r3,r5,r6,r7,r8,r9,A3,a⟩:=hP;obtain⟨N,hN⟩:∃N,N=cM (c::r):=⟨_,rfl⟩
        rw[<-hN]at a F4 HP;obtain⟨kN,Y5⟩:∃kN,kN=i+N:=⟨_,rfl⟩
        have Lj:IntKind.wrap .i64 ((i:Int)+(N:Int))=(kN:Int):=wq;have Li:(c::r).length=s.length-i:=(by rw[<-hr,bK]);have b1:(kN:Int)<=(s.length:Int):=om;have b2:(i:Int)<=(kN:Int):=om;obtain⟨tx,C⟩:∃tx,tx=(c::r).take N:=⟨_,rfl⟩
        have Lk:(s.take kN).drop i=tx:=(by rw[C,<-hr,List.drop_take];congr 1;omega);have V:tx.length=N:=(by rw[C,bR];omega);have G5:tx≠[]:=(by intro e;rw[e]at V;simp at V;omega);have H5:(c::r).take tx.length=tx:=(by rw[V,C]);refine Dd ?_;have fA:=Kc.fresh F5 (H2.nx+8) om;simp[r0,r8,r9,A3,a,Lj,b1,b2,Lk,gp,fA];refine dm ?_;obtain⟨hT,C6⟩:∃hT,hT=(((H2.bump 10).set (H2.nx+8) (.C [.I 0,.str [],.I 0,.I 0,.I 0])).set (H2.nx+8) (.C [.I 1,.str tx,.I 0,.I line,.I ((i:Int)-fr+1)])):=⟨_,rfl⟩
        rw[<-C6];have kT:aJ H2 hT:=(by rw[C6];exact kT);have gW:hT.get (H2.nx+8)=some (.C [.I 1,.str tx,.I 0,.I line,.I ((i:Int)-fr+1)]):=(by rw[C6];simp);have nT:H2.nx+8<hT.nx:=(by rw[C6];simp);clear C6;have Lp:=(kT.old H.nx HZ).trans gp;have K0:=(kT.old h.nx om).trans F1;have Lq:nk hT b bQ:=(kT.old b FO).trans FF;have KT:=Kc.trans kT;have a6:H.nx<H2.nx+8:=om;have a7:h.nx<H2.nx+8:=om;have a8:b<H2.nx+8:=om;have KH:b<hT.nx:=om;generalize H2.nx+8=jw at*;clear kT;have KC:∀(QQ:bT->St->Prop),(∀cd,(∃j,j<s.length-i/\I j cd)->QQ .kj cd)->∀(k v:Int)(h6:ah)(b':Nat)(cC:T AV),jG (c::r)=some ⟨k,tx,v⟩->aJ h h6->h6.get h.nx=some (.C [.I 0,.I 0])->nk h6 b' (bQ++[⟨k,tx,v,line,(i:Int)-fr+1⟩])->h.nx<b'->b'<h6.nx->
         cC.get 0=some (.str s)->cC.get 3=some (.P h.nx)->cC.get 5=some (.S b' (bQ.length+1))->cC.get 6=some (.I line)->cC.get 7=some (.I fr)->cC.get 8=some (.I i)->cC.get 11=some (.I N)->cC.get 16=some (.I i)->
         ct env (vq (Ku mq)) (kv (ct env (vq mq) QQ) QQ) ⟨cC,244,h6,[],false⟩:=by
         intro QQ C4 k v h6 b' cC D K6 Au O Lt M1 q0 q3 q5 q6 q7 q8 A1 C5;refine fin QQ C4 N h6 b' [⟨k,tx,v,line,(i:Int)-fr+1⟩] cC om om (λdR g=>?_) IN K6 Au O Lt M1 q0 q3 (U7 q5) q6 q7 q8 A1 C5;rw[hr]at g⊢;rw[<-C,<-V]at g;exact .word sp A5 D g
        clear fin;refine(jZ _ _).m1 λh9 U=>?_;subst U;have C1:fy (c.toNat:Int)=false:=by
         revert u;simp only[eT,fy];by_cases u1:(48:Int)<=(c.toNat:Int)<;>by_cases u2:(c.toNat:Int)<=57<;>simp[u1,u2]<;>omega
        by_cases aA:N<=40
        ·have K1:¬(40:Int)<(N:Int):=om;simp[C1,a,K1,gW];refine(Tf _ _).m1 λhK kK=>?_;have OL:=(kK.old jw nT).trans gW;have Q2:=(kK.old h.nx om).trans K0;have S0:nk hK b bQ:=(kK.old b KH).trans Lq;have KK:=KT.trans kK;have nK:=kK.nx;have D:jG (c::r)=some ⟨if keys.contains tx=true then 3 else 1,tx,0⟩:=by
          simp only[jG,u,kh,<-hN,<-C,aY aA]
         cases KL:keys.contains tx with
         |true=>
          rw[KL]at D;simp[-aK,OL,r5];have KX:aJ h (hK.set jw (.C [.I 3,.str tx,.I 0,.I line,.I ((i:Int)-fr+1)])):=kT;have K2:nk (hK.set jw (.C [.I 3,.str tx,.I 0,.I line,.I ((i:Int)-fr+1)])) b bQ:=by
           unfold nk;rw[ah.aM,ay om];exact S0
          have K3:(hK.set jw (.C [.I 3,.str tx,.I 0,.I line,.I ((i:Int)-fr+1)])).get h.nx=some (.C [.I 0,.I 0]):=by
           rw[ah.aM,ay om];exact Q2
          have K5:aJ (hK.set jw (.C [.I 3,.str tx,.I 0,.I line,.I ((i:Int)-fr+1)])) ((hK.set jw (.C [.I 3,.str tx,.I 0,.I line,.I ((i:Int)-fr+1)])).alloc (.D 5 [.I 3,.str tx,.I 0,.I line,.I ((i:Int)-fr+1)])).2:=(aJ.refl _).alloc _;obtain⟨h6,ha,n6,O,k6⟩:=zK (w:=⟨3,tx,0,line,(i:Int)-fr+1⟩) (j:=(hK.set jw (.C [.I 3,.str tx,.I 0,.I line,.I ((i:Int)-fr+1)])).nx) (show nk ((hK.set jw (.C [.I 3,.str tx,.I 0,.I line,.I ((i:Int)-fr+1)])).alloc (.D 5 [.I 3,.str tx,.I 0,.I line,.I ((i:Int)-fr+1)])).2 b bQ from(K5.old b (by first|omega|(simp;omega))).trans K2) om (by simp[Wo.cells]) ((KX.trans K5).fresh F5);simp[-aK]at ha n6 O;simp[-aK,r8,ha];have K6:aJ h h6:=(aR.trans' (X:=[]) ((KX.trans K5).x []) k6 (by intro z hz A4;simp at hz;omega)).aH;have Au:=(k6.old h.nx (by first|omega|(simp;omega)) (by first|omega|(simp;omega))).trans ((K5.old h.nx (by first|omega|(simp;omega))).trans K3);exact KC _ (λ_ h=>h) 3 0 h6 (hK.nx+1) _ (U7 D) K6 Au O om om (by simp[r0]) (by simp[r3]) sp (by simp[r6]) (by simp[r7]) (by simp[r8]) (by simp[a]) sp
         |false=>
          rw[KL]at D;simp[-aK,OL,r5];have KX:aJ h (hK):=kT;have K2:nk (hK) b bQ:=by
           unfold nk;exact S0
          have K3:(hK).get h.nx=some (.C [.I 0,.I 0]):=by
           exact Q2
          have K5:aJ (hK) ((hK).alloc (.D 5 [.I 1,.str tx,.I 0,.I line,.I ((i:Int)-fr+1)])).2:=(aJ.refl _).alloc _;obtain⟨h6,ha,n6,O,k6⟩:=zK (w:=⟨1,tx,0,line,(i:Int)-fr+1⟩) (j:=(hK).nx) (show nk ((hK).alloc (.D 5 [.I 1,.str tx,.I 0,.I line,.I ((i:Int)-fr+1)])).2 b bQ from(K5.old b (by first|omega|(simp;omega))).trans K2) om (by simp[Wo.cells]) ((KX.trans K5).fresh F5);simp[-aK]at ha n6 O;simp[-aK,r8,ha];have K6:aJ h h6:=(aR.trans' (X:=[]) ((KX.trans K5).x []) k6 (by intro z hz A4;simp at hz;omega)).aH;have Au:=(k6.old h.nx (by first|omega|(simp;omega)) (by first|omega|(simp;omega))).trans ((K5.old h.nx (by first|omega|(simp;omega))).trans K3);exact KC _ (λ_ h=>h) 1 0 h6 (hK.nx+1) _ (U7 D) K6 Au O om om (by simp[r0]) (by simp[r3]) sp (by simp[r6]) (by simp[r7]) (by simp[r8]) (by simp[a]) sp
        ·have K1:(40:Int)<(N:Int):=om;simp[C1,a,K1];refine Dd ?_;simp[r3,r5,r9,Lp,K0];refine dm ?_;exact⟨_,_,_,3,rfl,kT,sp⟩
      |false=>
       have C1:fy (c.toNat:Int)=true:=by
        unfold je at C9;rw[u]at C9;simpa using C9
       refine(ot _ _).m1 λh2 U=>?_;subst U;simp[u];refine(jZ _ _).m1 λh3 U=>?_;subst U;simp[C1];obtain⟨J,hJ⟩:∃J:Nat->St->Prop,J=(λm x=>∃n,1<=n/\n<=cM (c::r)/\m=cM (c::r)-n/\x.n=244/\x.ds=[]/\x.bX=false/\x.h=h3/\x.rg.get 0=some (.str s)/\x.rg.get 3=some (.P h.nx)/\x.rg.get 5=some (.S b bQ.length)/\x.rg.get 6=some (.I line)/\x.rg.get 7=some (.I fr)/\x.rg.get 8=some (.I i)/\x.rg.get 9=some (.P H.nx)/\x.rg.get 10=some (.int .u8 c.toNat)/\x.rg.get 11=some (.I (n:Nat))):=⟨_,rfl⟩
       refine bz J (cM (c::r)-1) (by
        rw[hJ];exact⟨1,om,HP,rfl,rfl,rfl,rfl,rfl,by simp[r0],by simp[r3],by simp[r5],by simp[r6],by simp[r7],by simp[r8],sp,sp,sp⟩) ?_
       clear r0 r3 r5 r6 r7 r8 rg;intro m st Gq;have F:=Gq;rw[hJ]at F;obtain⟨rg,n',H2,ds,bX⟩:=st;obtain⟨n,MN,F7,rfl,e1,e2,e3,e4,r0,r3,r5,r6,r7,r8,r9,A3,a⟩:=F;clear Gq;dsimp only at e1 e2 e3 e4 r0 r3 r5 r6 r7 r8 r9 A3 a;subst e1 e2 e3 e4;have Li:(c::r).length=s.length-i:=(by rw[<-hr,bK]);obtain⟨A,GL⟩:∃A,A=i+n:=⟨_,rfl⟩
       have Q:IntKind.wrap .i64 ((i:Int)+(n:Int))=(A:Int):=wq;obtain⟨n1,I5⟩:∃n1,n1=n+1:=⟨_,rfl⟩
       have C2:IntKind.wrap .i64 ((n:Int)+1)=(n1:Int):=wq;apply P0 (E:=env) (n:=244) (h:=H2) (P:=λcC:T AV=>cC.get 0=some (.str s)/\cC.get 3=some (.P h.nx)/\cC.get 5=some (.S b bQ.length)/\cC.get 6=some (.I line)/\cC.get 7=some (.I fr)/\cC.get 8=some (.I i)/\cC.get 9=some (.P H.nx)/\cC.get 10=some (.int .u8 c.toNat)/\cC.get 11=some (.I (cM (c::r):Nat)))
       case hm=>
        intro tail;rcases xF F7 with⟨J2,ho⟩|⟨MY,x,g,R⟩
        ·rcases ho with ho|⟨x,g,R⟩
         ·have Y2:¬A<s.length:=om;have J3:¬(A:Int)<(s.length:Int):=om;simp[r0,r8,a,Q,J3];exact tail _ ⟨by simp[r0],by simp[r3],by simp[r5],by simp[r6],by simp[r7],by simp[r8],by simp[r9],by simp[A3],by rw[<-J2];simp[a]⟩
         ·rw[<-F3 n,<-GL]at g;have t:A<s.length:=by
           rcases dJ A s.length with h1|h1
           ·exact h1
           ·rw[ej h1]at g;cases g
          have o:(A:Int)<(s.length:Int):=om;have Z:s[A]=x:=(by rw[aj t]at g;injection g);have H7:eT (x.toNat:Int)=false:=(by unfold je at R;rw[iy]at R;exact R.1);have H8:fy (x.toNat:Int)=false:=(by unfold je at R;rw[iy]at R;exact R.2);simp[r0,r8,a,Q,t,o,Z];refine(ot _ _).m1 λh7 U=>?_;subst U;simp[H7,r0,r8,a,Q,t,Z];refine(jZ _ _).m1 λh8 U=>?_;subst U;simp[H8];exact tail _ ⟨by simp[r0],by simp[r3],by simp[r5],by simp[r6],by simp[r7],by simp[r8],by simp[r9],by simp[A3],by rw[<-J2];simp[a]⟩
        ·rw[<-F3 n,<-GL]at g;have t:A<s.length:=by
          rcases dJ A s.length with h1|h1
          ·exact h1
          ·rw[ej h1]at g;cases g
         have o:(A:Int)<(s.length:Int):=om;have Z:s[A]=x:=(by rw[aj t]at g;injection g);have again:∀cC,cC.get 0=some (.str s)->cC.get 3=some (.P h.nx)->cC.get 5=some (.S b bQ.length)->cC.get 6=some (.I line)->cC.get 7=some (.I fr)->cC.get 8=some (.I i)->cC.get 9=some (.P H.nx)->cC.get 10=some (.int .u8 c.toNat)->cC.get 11=some (.I n1)->∃j,j<cM (c::r)-n/\J j ⟨cC,244,H2,[],false⟩:=by
          intro cC q0 q3 q5 q6 q7 q8 q9 C8 A1;refine⟨cM (c::r)-n1,om,?_⟩;rw[hJ];exact⟨n1,om,om,rfl,rfl,rfl,rfl,rfl,q0,q3,q5,q6,q7,q8,q9,C8,A1⟩
         simp[r0,r8,a,Q,t,o,Z];refine(ot _ _).m1 λh7 U=>?_;subst U;cases H7:eT (x.toNat:Int)with
         |true=>
          simp[a,C2];exact again _ (by simp[r0]) (by simp[r3]) (by simp[r5]) (by simp[r6]) (by simp[r7]) (by simp[r8]) (by simp[r9]) (by simp[A3]) sp
         |false=>
          have H8:fy (x.toNat:Int)=true:=(by unfold je at R;rw[H7]at R;simpa using R);simp[r0,r8,a,Q,t,Z];refine(jZ _ _).m1 λh8 U=>?_;subst U;simp[H8,a,C2];exact again _ (by simp[r0]) (by simp[r3]) (by simp[r5]) (by simp[r6]) (by simp[r7]) (by simp[r8]) (by simp[r9]) (by simp[A3]) sp
       case ht=>
        intro cC hP;clear r0 r3 r5 r6 r7 r8 r9 A3 a;obtain⟨r0,r3,r5,r6,r7,r8,r9,A3,a⟩:=hP;obtain⟨N,hN⟩:∃N,N=cM (c::r):=⟨_,rfl⟩
        rw[<-hN]at a F4 HP;obtain⟨kN,Y5⟩:∃kN,kN=i+N:=⟨_,rfl⟩
        have Lj:IntKind.wrap .i64 ((i:Int)+(N:Int))=(kN:Int):=wq;have Li:(c::r).length=s.length-i:=(by rw[<-hr,bK]);have b1:(kN:Int)<=(s.length:Int):=om;have b2:(i:Int)<=(kN:Int):=om;obtain⟨tx,C⟩:∃tx,tx=(c::r).take N:=⟨_,rfl⟩
        have Lk:(s.take kN).drop i=tx:=(by rw[C,<-hr,List.drop_take];congr 1;omega);have V:tx.length=N:=(by rw[C,bR];omega);have G5:tx≠[]:=(by intro e;rw[e]at V;simp at V;omega);have H5:(c::r).take tx.length=tx:=(by rw[V,C]);refine Dd ?_;have fA:=Kc.fresh F5 (H2.nx+8) om;simp[r0,r8,r9,A3,a,Lj,b1,b2,Lk,gp,fA];refine dm ?_;obtain⟨hT,C6⟩:∃hT,hT=(((H2.bump 10).set (H2.nx+8) (.C [.I 0,.str [],.I 0,.I 0,.I 0])).set (H2.nx+8) (.C [.I 1,.str tx,.I 0,.I line,.I ((i:Int)-fr+1)])):=⟨_,rfl⟩
        rw[<-C6];have kT:aJ H2 hT:=(by rw[C6];exact kT);have gW:hT.get (H2.nx+8)=some (.C [.I 1,.str tx,.I 0,.I line,.I ((i:Int)-fr+1)]):=(by rw[C6];simp);have nT:H2.nx+8<hT.nx:=(by rw[C6];simp);clear C6;have Lp:=(kT.old H.nx HZ).trans gp;have K0:=(kT.old h.nx om).trans F1;have Lq:nk hT b bQ:=(kT.old b FO).trans FF;have KT:=Kc.trans kT;have a6:H.nx<H2.nx+8:=om;have a7:h.nx<H2.nx+8:=om;have a8:b<H2.nx+8:=om;have KH:b<hT.nx:=om;generalize H2.nx+8=jw at*;clear kT;have KC:∀(QQ:bT->St->Prop),(∀cd,(∃j,j<s.length-i/\I j cd)->QQ .kj cd)->∀(k v:Int)(h6:ah)(b':Nat)(cC:T AV),jG (c::r)=some ⟨k,tx,v⟩->aJ h h6->h6.get h.nx=some (.C [.I 0,.I 0])->nk h6 b' (bQ++[⟨k,tx,v,line,(i:Int)-fr+1⟩])->h.nx<b'->b'<h6.nx->
         cC.get 0=some (.str s)->cC.get 3=some (.P h.nx)->cC.get 5=some (.S b' (bQ.length+1))->cC.get 6=some (.I line)->cC.get 7=some (.I fr)->cC.get 8=some (.I i)->cC.get 11=some (.I N)->cC.get 16=some (.I i)->
         ct env (vq (Ku mq)) (kv (ct env (vq mq) QQ) QQ) ⟨cC,244,h6,[],false⟩:=by
         intro QQ C4 k v h6 b' cC D K6 Au O Lt M1 q0 q3 q5 q6 q7 q8 A1 C5;refine fin QQ C4 N h6 b' [⟨k,tx,v,line,(i:Int)-fr+1⟩] cC om om (λdR g=>?_) IN K6 Au O Lt M1 q0 q3 (U7 q5) q6 q7 q8 A1 C5;rw[hr]at g⊢;rw[<-C,<-V]at g;exact .word sp A5 D g
        clear fin;refine(jZ _ _).m1 λh9 U=>?_;subst U;simp[C1,gW];refine(Mu tx _ G5 om).mono λout h7 U=>?_;obtain⟨⟨v,ok,rfl,aB⟩,rfl⟩:=U;cases ok with
        |false=>
         simp;refine Dd ?_;simp[r3,r5,r9,Lp,K0];refine dm ?_;exact⟨_,_,_,3,rfl,kT,sp⟩
        |true=>
         have S1:=aB rfl;have D:jG (c::r)=some ⟨2,tx,v⟩:=by
          simp only[jG,u,<-hN,<-C,S1];simp;omega
         simp[-aK,gW,r5];have KX:aJ h ((h7.set jw (.C [.I 2,.str tx,.I 0,.I line,.I ((i:Int)-fr+1)])).set jw (.C [.I 2,.str tx,.I v,.I line,.I ((i:Int)-fr+1)])):=kT;have K2:nk ((h7.set jw (.C [.I 2,.str tx,.I 0,.I line,.I ((i:Int)-fr+1)])).set jw (.C [.I 2,.str tx,.I v,.I line,.I ((i:Int)-fr+1)])) b bQ:=by
          unfold nk;rw[ah.aM,ay om,ah.aM,ay om];exact Lq
         have K3:((h7.set jw (.C [.I 2,.str tx,.I 0,.I line,.I ((i:Int)-fr+1)])).set jw (.C [.I 2,.str tx,.I v,.I line,.I ((i:Int)-fr+1)])).get h.nx=some (.C [.I 0,.I 0]):=by
          rw[ah.aM,ay om,ah.aM,ay om];exact K0
         have K5:aJ ((h7.set jw (.C [.I 2,.str tx,.I 0,.I line,.I ((i:Int)-fr+1)])).set jw (.C [.I 2,.str tx,.I v,.I line,.I ((i:Int)-fr+1)])) (((h7.set jw (.C [.I 2,.str tx,.I 0,.I line,.I ((i:Int)-fr+1)])).set jw (.C [.I 2,.str tx,.I v,.I line,.I ((i:Int)-fr+1)])).alloc (.D 5 [.I 2,.str tx,.I v,.I line,.I ((i:Int)-fr+1)])).2:=(aJ.refl _).alloc _;obtain⟨h6,ha,n6,O,k6⟩:=zK (w:=⟨2,tx,v,line,(i:Int)-fr+1⟩) (j:=((h7.set jw (.C [.I 2,.str tx,.I 0,.I line,.I ((i:Int)-fr+1)])).set jw (.C [.I 2,.str tx,.I v,.I line,.I ((i:Int)-fr+1)])).nx) (show nk (((h7.set jw (.C [.I 2,.str tx,.I 0,.I line,.I ((i:Int)-fr+1)])).set jw (.C [.I 2,.str tx,.I v,.I line,.I ((i:Int)-fr+1)])).alloc (.D 5 [.I 2,.str tx,.I v,.I line,.I ((i:Int)-fr+1)])).2 b bQ from(K5.old b (by first|omega|(simp;omega))).trans K2) om (by simp[Wo.cells]) ((KX.trans K5).fresh F5);simp[-aK]at ha n6 O;simp[-aK,r8,ha];have K6:aJ h h6:=(aR.trans' (X:=[]) ((KX.trans K5).x []) k6 (by intro z hz A4;simp at hz;omega)).aH;have Au:=(k6.old h.nx (by first|omega|(simp;omega)) (by first|omega|(simp;omega))).trans ((K5.old h.nx (by first|omega|(simp;omega))).trans K3);exact KC _ (λ_ h=>h) 2 v h6 (h7.nx+1) _ (U7 D) K6 Au O om om (by simp[r0]) (by simp[r3]) sp (by simp[r6]) (by simp[r7]) (by simp[r8]) (by simp[a]) sp
  ·have aC:i=s.length:=om;subst aC;have g:=lex [] (by rw[dV];exact .nil _ _);rw[fi]at g;simp[r0,r3,r5,r8,c3];have nn:=K.nx;refine⟨_,_,_,0,rfl,kT,λ_=>⟨bQ,b,g,rfl,?_,lo,lt⟩⟩;unfold nk;rw[ah.aM,ay om];exact ar
 ·have L0:(65536:Int)<(s.length:Int):=by omega
  simp[L0];exact⟨_,_,_,2,rfl,kT,sp⟩
end Go.Proofs.YtaekaifihehgdaaGreatDoor
