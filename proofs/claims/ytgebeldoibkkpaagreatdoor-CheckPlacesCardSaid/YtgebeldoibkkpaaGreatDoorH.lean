/- Lemmas for CheckPlaces; each states its own conditions. -/
import Derived.Test.YtgebeldoibkkpaaGreatDoorF
set_option maxRecDepth 100000
set_option maxHeartbeats 0
set_option linter.unusedVariables false
set_option linter.unusedSimpArgs false
set_option linter.unusedSectionVars false
namespace Go.Proofs.YtgebeldoibkkpaaGreatDoor
open Go.Am Tryz
theorem TG{k:IntKind}{t:TypeId}{a b:Int}:cn (Go.binOp .add t (.int k a) (.int k b))=some (.int k (IntKind.wrap k (a+b))):=by cases k<;>simp[Go.binOp,Op.intArith,cn,iM,pure,Sem.pure]
theorem Ax{k:IntKind}{t:TypeId}{a b:Int}:cn (Go.binOp .sub t (.int k a) (.int k b))=some (.int k (IntKind.wrap k (a-b))):=by cases k<;>simp[Go.binOp,Op.intArith,cn,iM,pure,Sem.pure]
theorem TI{k:IntKind}{t:TypeId}{a b:Int}:cn (Go.binOp .mul t (.int k a) (.int k b))=some (.int k (IntKind.wrap k (a*b))):=by cases k<;>simp[Go.binOp,Op.intArith,cn,iM,pure,Sem.pure]
theorem TJ{k:IntKind}{t:TypeId}{a:Nat}:cn (Go.binOp .shl t (.int .u64 a) (.int k 4))=some (.int .u64 ((a*16%18446744073709551616:Nat):Int)):=by
 simp[Go.binOp,Op.shift,cn,iM,pure,Sem.pure,IntKind.bits,IntKind.wrap_u64]
theorem TK{t:TypeId}{a d:Nat}(h:a<18446744073709551616)(hd:d<16)(h16:a%16=0):cn (Go.binOp .or t (.int .u64 a) (.int .u64 d))=some (.int .u64 ((a+d:Nat):Int)):=by
 have e:(a|||d)=a+d:=by
  have:=Nat.two_pow_add_eq_or_of_lt (i:=4) (b:=d) om (a/16);rw[show 2^4*(a/16)=a by omega]at this;exact this.symm
 have hb:IntKind.u64.bits=64:=rfl;have h1:a%2^64=a:=Nat.mod_eq_of_lt h;have h2:d%2^64=d:=Nat.mod_eq_of_lt om;have h3:a+d<18446744073709551616:=om
 simp[Go.binOp,Op.intBits,cn,iM,pure,Sem.pure];rw[hb,h1,h2,e,IntKind.wrap_u64];omega
theorem pI(c:Int)(h:ah):aV env 21 [.int .u8 c] h (fun out h'=>out= .ret (.bool (iU c))/\h'=h):=by
 refine wb fn21 rfl ?_;by_cases h1:97<=c<;>by_cases h2:c<=122<;>by_cases h3:65<=c<;>by_cases h4:c<=90<;>simp[f21,iU,h1,h2,h3,h4]
theorem lR(c:Int)(h:ah):aV env 22 [.int .u8 c] h (fun out h'=>out= .ret (.bool (gk c))/\h'=h):=by
 refine wb fn22 rfl ?_;by_cases h1:48<=c<;>by_cases h2:c<=57<;>simp[f22,gk,h1,h2]
theorem wrap_u8{a:Int}(h0:0<=a)(h1:a<256):IntKind.wrap .u8 a=a:=by rw[IntKind.wrap_u8];omega
theorem HJ{u:Int}:cn (pure (Value.int .i64 u))=some (.I u):=by simp[cn,iM,pure,Sem.pure]
def xE(c:UInt8):Int:=match yd c with
 |some v=>v
 |none=>-1
theorem Y9(c:UInt8)(h:ah):aV env 38 [.int .u8 c.toNat] h (fun out h'=>out= .ret (.I (xE c))/\h'=h):=by
 refine wb fn38 rfl ?_;have hc:=c.toNat_lt;simp[f38];refine(lR _ _).mono fun out h2 hq=>?_;obtain⟨rfl,rfl⟩:=hq;unfold xE yd;generalize c.toNat=n at*;by_cases d1:48<=n/\n<=57
 ·have e1:(48:Int)<=n:=by omega
  have e2:(n:Int)<=57:=by omega
  have w1:IntKind.wrap .u8 ((n:Int)-48)=(n:Int)-48:=wrap_u8 om om;have w2:IntKind.wrap .i64 ((n:Int)-48)=(n:Int)-48:=wr om om;have d2:((n-48:Nat):Int)=(n:Int)-48:=by omega
  simp[gk,e1,e2,Ax,w1,w2,HJ,d1,d2]
 ·have dd:gk (n:Int)=false:=by
   unfold gk;by_cases e1:(48:Int)<=n<;>simp[e1];omega
  by_cases d3:97<=n/\n<=102
  ·have e1:(97:Int)<=n:=om;have e2:(n:Int)<=102:=om;have w1:IntKind.wrap .u8 ((n:Int)-97)=(n:Int)-97:=wrap_u8 om om;have w2:IntKind.wrap .i64 ((n:Int)-97)=(n:Int)-97:=wr om om;have w3:IntKind.wrap .i64 ((n:Int)-97+10)=(n:Int)-97+10:=wr om om;have d2:((n-87:Nat):Int)=(n:Int)-97+10:=om;simp[dd,e1,e2,Ax,w1,w2,w3,HJ,d1,d3,d2]
  ·by_cases d4:65<=n/\n<=70
   ·have e1:(65:Int)<=n:=om;have e2:(n:Int)<=70:=om;have e3:¬(97:Int)<=n:=om;have w1:IntKind.wrap .u8 ((n:Int)-65)=(n:Int)-65:=wrap_u8 om om;have w2:IntKind.wrap .i64 ((n:Int)-65)=(n:Int)-65:=wr om om;have w3:IntKind.wrap .i64 ((n:Int)-65+10)=(n:Int)-65+10:=wr om om;have d2:((n-55:Nat):Int)=(n:Int)-65+10:=om;simp[dd,e1,e2,e3,Ax,w1,w2,w3,HJ,d1,d3,d4,d2]
   ·by_cases f1:(97:Int)<=n<;>by_cases f2:(65:Int)<=n
    ·have f3:¬(n:Int)<=102:=om;have f4:¬(n:Int)<=70:=om;simp[dd,f1,f2,f3,f4,d1,d3,d4]
    ·omega
    ·have f4:¬(n:Int)<=70:=om;simp[dd,f1,f2,f4,d1,d3,d4]
    ·simp[dd,f1,f2,d1,d3,d4]
theorem ur{α:Type}[BEq α][LawfulBEq α]{l:List α}{i:Nat}{x:α}(hi:i<l.length)(h:(l.take i).contains x=false)(hx:(l[i]==x)=false):(l.take (i+1)).contains x=false:=by
 rw[dG,aj hi];rw[j0]at h⊢;intro hc;rw[lN,aP]at hc;rcases hc with hc|hc
 ·exact h (lN.2 hc)
 ·simp at hc;rw[hc]at hx;simp at hx
theorem ae9(s:List UInt8)(h:ah):aV env 24 [.str s] h (fun out h'=>out= .ret (.bool (keys.contains s))/\aS h h'):=by
 refine wb fn24 rfl ?_;simp[f24];have g:((h.alloc (.cells true 1 (keys.map AV.str))).2).get h.next=some (.cells true 1 (keys.map AV.str)):=sp
 have K:aS h (h.alloc (.cells true 1 (keys.map AV.str))).2:=kT;obtain⟨KL,Za⟩:∃KL,KL=keys.map AV.str:=⟨_,rfl⟩
 rw[<-Za]at g K;obtain⟨h1,hh1⟩:∃h1,h1=(h.alloc (.cells true 1 KL)).2:=⟨_,rfl⟩
 rw[<-hh1]at g K;have Q8:=hh1;rw[Za]at Q8;simp only[keys,cY,oz]at Q8;rw[<-Q8];clear Q8 hh1;refine bW (fun m x=>∃i,i<=keys.length/\m=keys.length-i/\(keys.take i).contains s=false/\x.n=18/\x.ds=[]/\x.bI=false/\x.h=h1/\x.rg.get 0=some (.str s)/\x.rg.get 3=some (.S h.next 15)/\x.rg.get 4=some (.I i)) keys.length ?_ ?_
 ·exact⟨0,om,rfl,sp,rfl,rfl,rfl,rfl,sp,sp,sp⟩
 rintro m ⟨rg,n,H,ds,bI⟩ ⟨i,hi,rfl,hn,e1,e2,e3,e4,r0,r3,r4⟩
 dsimp only at e1 e2 e3 e4 r0 r3 r4;subst e1 e2 e3 e4;have hl:keys.length=15:=rfl;by_cases cX:i<keys.length
 ·have xx:(i:Int)<15:=by omega
  have EY:i<15:=by omega
  have hx:KL[i]?=some (.str keys[i]):=by rw[Za,bQ,aj cX];rfl
  have w1:IntKind.wrap .i64 ((i:Int)+1)=((i+1:Nat):Int):=by
   rw[wr om om];simp
  simp[r0,r3,r4,xx,EY,g,hx];cases hs:(keys[i]==s)with
  |true=>
   have:keys.contains s=true:=(by rw[<-eq_of_beq hs];exact lN.2 (bK _));simp[hs];exact⟨by simpa using this,K⟩
  |false=>
   have Ca:=ur cX hn hs;simp[hs,r0,r3,r4,w1];exact⟨_,om,i+1,om,rfl,by simpa using Ca,rfl⟩
 ·have np:i=keys.length:=by omega
  subst np;rw[dH]at hn;simp[r3,r4,hl];exact⟨by simpa using hn,K⟩
theorem Bn:∀(l:List UInt8)(c:UInt8),0<=Lib.indexByte l c↔c∈l
 |[],c=>by simp[Lib.indexByte]
 |b::l,c=>by
  have ih:=Bn l c;have hg:=Lib.indexByte_ge l c;unfold Lib.indexByte;by_cases hb:b=c
  ·simp[hb]
  ·have ub:(b==c)=false:=aH.2 hb;have jJ:¬c=b:=fun e=>hb e.symm;simp only[ub,gR,iW,aq,jJ,false_or];rw[<-ih];split
   ·rename_i h1;have:=eq_of_beq h1;omega
   ·rename_i h1;have:Lib.indexByte l c≠-1:=fun e=>h1 (by rw[e];rfl);omega
theorem HK(c0:UInt8)(s:List UInt8)(h:ah)(hl:s.length<=65536):aV env 25 [.str (c0::s)] h (fun out h'=>out= .ret (.str ((c0::s).take (jc (c0::s)).toNat))/\aS h h'):=by
 refine wb fn25 rfl ?_;simp[f25];have g:((h.alloc (.cells true 1 (qq.map AV.str))).2).get h.next=some (.cells true 1 (qq.map AV.str)):=sp
 have K:aS h (h.alloc (.cells true 1 (qq.map AV.str))).2:=kT;obtain⟨KL,Za⟩:∃KL,KL=qq.map AV.str:=⟨_,rfl⟩
 rw[<-Za]at g K;obtain⟨h1,hh1⟩:∃h1,h1=(h.alloc (.cells true 1 KL)).2:=⟨_,rfl⟩
 rw[<-hh1]at g K;have Q8:=hh1;rw[Za]at Q8;simp only[qq,cY,oz]at Q8;rw[<-Q8];clear Q8 hh1;obtain⟨I,hI⟩:∃I:Nat->St->Prop,I=(fun m x=>∃i,i<=qq.length/\m=qq.length-i/\(2<=s.length+1->(qq.take i).contains ((c0::s).take 2)=false)/\x.n=44/\x.ds=[]/\x.bI=false/\aS h x.h/\x.h.get h.next=some (.cells true 1 KL)/\x.rg.get 0=some (.str (c0::s))/\x.rg.get 3=some (.S h.next 9)/\x.rg.get 4=some (.I i)):=⟨_,rfl⟩
 refine bW I qq.length (by rw[hI];exact⟨0,om,rfl,sp,rfl,rfl,rfl,K,g,sp,sp,sp⟩) ?_;clear K g;intro m st fI;have lQ:=fI;rw[hI]at lQ;obtain⟨rg,n,H,ds,bI⟩:=st;obtain⟨i,hi,rfl,hn,e1,e2,e3,K,g,r0,r3,r4⟩:=lQ;clear fI;dsimp only at e1 e2 e3 K g r0 r3 r4;subst e1 e2 e3;have hl9:qq.length=9:=rfl;by_cases cX:i<qq.length
 ·have xx:(i:Int)<9:=by omega
  have EY:i<9:=by omega
  have hx:KL[i]?=some (.str qq[i]):=by rw[Za,bQ,aj cX];rfl
  have w1:IntKind.wrap .i64 ((i:Int)+1)=((i+1:Nat):Int):=by
   rw[wr om om];simp
  have go:((2<=s.length+1->(qq.take (i+1)).contains ((c0::s).take 2)=false))->∀da,da.get 0=some (.str (c0::s))->da.get 3=some (.S h.next 9)->da.get 4=some (.I ((i+1:Nat):Int))->∃j,j<qq.length-i/\I j ⟨da,44,H.bump 12,[],false⟩:=by
   intro Ca da q0 q3 q4;refine⟨qq.length-(i+1),om,?_⟩;rw[hI];exact⟨i+1,cX,rfl,Ca,rfl,rfl,rfl,K.bump 12,g,q0,q3,q4⟩
  by_cases h2:2<=s.length+1
  ·have UI:(2:Int)<=(s.length:Int)+1:=om;cases hs:(qq[i]==(c0::s).take 2)with
   |true=>
    have he:=eq_of_beq hs;have hm:jc (c0::s)=2:=by
     unfold jc;rw[aW ⟨by simp;omega,by rw[<-he];exact bK _⟩]
    simp[r0,r3,r4,xx,EY];refine Dd ?_;rw[hm];have AM:((c0::s).take 2==qq[i])=true:=(by rw[he];simp);simp at he AM hs;simp[r0,r3,r4,xx,EY,g,hx,UI,h2,AM,<-he];exact K.bump 12
   |false=>
    have Ca:(qq.take (i+1)).contains ((c0::s).take 2)=false:=ur cX (hn h2) hs;have AM:(c0::s.take 1==qq[i])=false:=by
     have:(c0::s).take 2=c0::s.take 1:=rfl;rw[this]at hs;rw[aH]at hs⊢;exact fun e=>hs e.symm
    simp[r0,r3,r4,xx,EY];refine Dd ?_;simp[r0,r3,r4,xx,EY,g,hx,UI,h2,AM,w1];exact go (fun _=>Ca) _ (by simp[r0]) (by simp[r3]) sp
  ·have UI:¬(2:Int)<=(s.length:Int)+1:=om;simp[r0,r3,r4,xx,EY];refine Dd ?_;simp[r0,r3,r4,xx,EY,g,hx,UI,h2,w1];exact go (fun e=>absurd e h2) _ (by simp[r0]) (by simp[r3]) sp
 ·have np:i=qq.length:=by omega
  subst np;rw[dH]at hn;simp[r3,r4,hl9];have tf:¬(2<=(c0::s).length/\(c0::s).take 2∈qq):=fun e=>by
   have:=hn (by simpa using e.1);rw[lN.2 e.2]at this;cases this
  obtain⟨OL,hOL⟩:∃OL,OL=Jr:=⟨_,rfl⟩
  have hol:OL.length=22:=by rw[hOL];rfl
  have e1:([40,41,123,125,91,93,59,44,46,61,60,62,43,45,42,47,37,38,124,94,126,33]:List UInt8)=OL:=by rw[hOL];rfl
  try rw[e1]
  clear r3 r4 g Za hI I hn cX hi;have YI:=r0;clear r0;refine bW (fun m x=>∃i,i<=22/\m=22-i/\(OL.take i).contains c0=false/\x.n=44/\x.ds=[]/\x.bI=false/\aS h x.h/\x.rg.get 0=some (.str (c0::s))/\x.rg.get 5=some (.str OL)/\x.rg.get 6=some (.I i)) 22 ?_ ?_
  ·exact⟨0,om,rfl,sp,rfl,rfl,rfl,K,by simp[YI],by simp[e1],sp⟩
  clear K YI rg H
  rintro m ⟨rg,n,H,ds,bI⟩ ⟨i,hi,rfl,hn,e1,e2,e3,K,r0,r5,r6⟩
  dsimp only at e1 e2 e3 K r0 r5 r6;subst e1 e2 e3;have hm:jc (c0::s)=if 0<=Lib.indexByte Jr c0 then 1 else 0:=by unfold jc;rw[az tf]
  by_cases cX:i<22
  ·have xx:(i:Int)<22:=om;have hx:OL[i]?=some OL[i]:=aj om;have w1:IntKind.wrap .i64 ((i:Int)+1)=((i+1:Nat):Int):=by
    rw[wr om om];simp
   simp[r0,r5,r6,xx,cX,hol];refine Dd ?_;have Gv:(1:Int)<=(s.length:Int)+1:=om;have Xg:i<OL.length:=om;cases hs:(OL[i]==c0)with
   |true=>
    have he:=eq_of_beq hs;have h0:0<=Lib.indexByte Jr c0:=by
     rw[Bn,<-hOL,<-he];exact bK _
    have q:((c0.toNat:Int)==(OL[i].toNat:Int))=true:=(by rw[he];simp);simp[r0,r5,r6,xx,cX,hol,q,Gv,hm,h0];exact K.bump 6
   |false=>
    have Ca:=ur Xg hn hs;have q:((c0.toNat:Int)==(OL[i].toNat:Int))=false:=by
     rw[aH]at hs⊢;intro e;exact hs (eh om)
    simp[r0,r5,r6,xx,cX,hol,q,w1];exact⟨_,om,i+1,om,rfl,by simpa using Ca,K.bump 6,rfl⟩
  ·have np:i=22:=om;subst np;have Ca:Jr.contains c0=false:=(by rw[<-hOL,<-List.take_length (l:=OL),hol];exact hn);have h0:¬0<=Lib.indexByte Jr c0:=fun e=>by
    rw[Bn,<-List.contains_iff_mem,Ca]at e;cases e
   simp[r0,r5,r6,hol,hm,h0];exact K
theorem Ov{α:Type}{P:List α->Prop}(h0:P [])(h1:∀l c,P l->P (l++[c]))(l:List α):P l:=by
 have:∀m:List α,P m.reverse:=by
  intro m;induction m with
  |nil=>exact h0
  |cons c m ih=>rw[List.reverse_cons];exact h1 _ _ ih
 have:=this l.reverse;rwa[List.reverse_reverse]at this
def uu(l:List UInt8):Nat:=l.foldl (fun a c=>a*16+(xE c).toNat) 0
def rD(l:List UInt8):Nat:=l.foldl (fun a c=>a*10+(c.toNat-48)) 0
theorem BY(l:List UInt8)(c:UInt8):uu (l++[c])=uu l*16+(xE c).toNat:=by simp[uu]
theorem BZ(l:List UInt8)(c:UInt8):rD (l++[c])=rD l*10+(c.toNat-48):=by simp[rD]
theorem Xo{c:UInt8}{v:Nat}(h:yd c=some v):v<16:=by
 unfold yd at h;split at h
 ·injection h with h;omega
 ·split at h
  ·injection h with h;omega
  ·split at h
   ·injection h with h;omega
   ·cases h
theorem CF{c:UInt8}(h:0<=xE c):∃v,yd c=some v/\xE c=v/\v<16:=by
 unfold xE at*;cases hv:yd c with
 |none=>rw[hv]at h;simp at h
 |some v=>exact⟨v,rfl,sp,Xo hv⟩
theorem P0:∀(l:List UInt8),(∀c∈l,0<=xE c)->uu l<16^l.length:=by
 intro l;induction l using Ov with
 |h0=>intro _;simp[uu]
 |h1 l c ih=>
  intro h;obtain⟨v,h1,h2,h3⟩:=CF (h c sp);have:=ih fun x hx=>h x (by simp[hx]);rw[BY,bO,h2,List.length_singleton,Nat.pow_succ];omega
theorem P1:∀(l:List UInt8),(∀c∈l,gk c.toNat=true)->rD l<10^l.length:=by
 intro l;induction l using Ov with
 |h0=>intro _;simp[rD]
 |h1 l c ih=>
  intro h;have hc:=h c sp;simp[gk]at hc;have:=ih fun x hx=>h x (by simp[hx]);rw[BZ,bO,List.length_singleton,Nat.pow_succ];omega
theorem Ow:∀(l:List UInt8)(a:Nat),(∀c∈l,0<=xE c)->l.foldl (fun a c=>a*16+(xE c).toNat) a<9223372036854775808->yS a l=some (l.foldl (fun a c=>a*16+(xE c).toNat) a)
 |[],a,_,_=>rfl
 |c::l,a,h,hb=>by
  obtain⟨v,h1,h2,h3⟩:=CF (h c sp);have ht:(xE c).toNat=v:=by rw[h2];simp
  simp only[j5,ht]at hb⊢;have hle:a*16+v<=l.foldl (fun a c=>a*16+(xE c).toNat) (a*16+v):=by
   clear hb h;generalize a*16+v=x;induction l generalizing x with
   |nil=>simp
   |cons d l ih=>simp only[j5];exact bk om (ih _)
  simp only[yS,h1];rw[az om];exact Ow l _ (fun x hx=>h x (by simp[hx])) hb
theorem Kb:∀(l:List UInt8)(a:Nat),(∀c∈l,gk c.toNat=true)->l.foldl (fun a c=>a*10+(c.toNat-48)) a<9223372036854775808->Lib.parseUint10 a l= .ok (l.foldl (fun a c=>a*10+(c.toNat-48)) a)
 |[],a,_,_=>rfl
 |c::l,a,h,hb=>by
  have hc:=h c sp;simp[gk]at hc;simp only[j5]at hb⊢;have hle:a*10+(c.toNat-48)<=l.foldl (fun a c=>a*10+(c.toNat-48)) (a*10+(c.toNat-48)):=by
   clear hb h;generalize a*10+(c.toNat-48)=x;induction l generalizing x with
   |nil=>simp
   |cons d l ih=>simp only[j5];exact bk om (ih _)
  unfold Lib.parseUint10;rw[aW om,az om,az om];exact Kb l _ (fun x hx=>h x (by simp[hx])) hb
section
attribute [local simp] aI
theorem aea{l:List UInt8}(h:∀c∈l,0<=xE c):∀b∈l,O2.contains b=true:=fun b hb=>by
 obtain⟨v,h1,_,_⟩:=CF (h b hb);exact Js b (by rw[h1];rfl)
theorem TM{l:List UInt8}(h:∀c∈l,gk c.toNat=true):∀b∈l,VF.contains b=true:=fun b hb=>by
 have hc:=h b hb;have key:∀n:Fin 256,gk ((UInt8.ofNat n.1).toNat:Int)=true->VF.contains (UInt8.ofNat n.1)=true:=dc
 have:=key ⟨b.toNat,b.toNat_lt⟩;simp only[UInt8.ofNat_toNat]at this;exact this hc
theorem TN{s:List UInt8}(h0:s≠[])(hd:∀c∈s,gk c.toNat=true)(hz:s.length<=1\/s.head?≠some 48)(hb:rD s<9223372036854775808):yT s=some (rD s:Int):=by
 obtain⟨c,r,rfl⟩:∃c r,s=c::r:=by cases s with|nil=>exact(h0 rfl).elim|cons c r=>exact⟨c,r,rfl⟩
 have hx:Lib.hasPrefix (c::r) [48,120]=false:=by
  unfold Lib.hasPrefix;cases r with
  |nil=>rw[j0];intro e;rw[jh]at e;have:=e.length_le;simp at this
  |cons d r=>
   rw[j0];intro e;rw[jh]at e;obtain⟨t,ht⟩:=e;simp at ht;have:=hd d sp;rw[<-ht.2.1]at this;revert this;decide
 have hc:=hd c sp;simp[gk]at hc;have hp:Lib.parseUint10 0 (c::r)= .ok (rD (c::r)):=Kb (c::r) 0 hd hb;have ha:Lib.atoiAll (c::r)= .ok (rD (c::r):Int):=by
  have n1:¬c.toNat=43:=by omega
  have n2:¬c.toNat=45:=by omega
  have n3:¬9223372036854775808<=rD (c::r):=by omega
  unfold Lib.atoiAll Lib.parseMag;simp[n1,n2,hp,n3]
 unfold yT;rw[az (by rw[hx];simp),aW ⟨TM hd,hz⟩,ha]
theorem TO{s:List UInt8}(h0:s≠[])(hd:∀c∈s,0<=xE c)(hl:s.length<=16)(hb:uu s<9223372036854775808):yT (48::120::s)=some (uu s:Int):=by
 have hx:Lib.hasPrefix (48::120::s) [48,120]=true:=by
  unfold Lib.hasPrefix;rw[jh];exact⟨s,rfl⟩
 have hp:yS 0 s=some (uu s):=Ow s 0 hd hb;unfold yT;rw[aW hx];have e:(48::120::s).drop 2=s:=rfl;have n1:¬(s=[]\/16<s.length):=by rintro(h|h);exact h0 h;omega
 rw[e,az n1,hp];rfl
theorem Kd{u:Int}:cn (pure (Value.int .u64 u))=some (.int .u64 u):=by simp[cn,iM,pure,Sem.pure]
theorem aeb{a:Int}(h0:0<=a)(h1:a<18446744073709551616):IntKind.wrap .u64 a=a:=by rw[IntKind.wrap_u64];omega
def TP(s:List UInt8)(out:Out):Prop:=∃v ok,out= .ret (.iX [.I v,.bool ok])/\(ok=true->yT s=some v)
def Qu:Code->Code
 | .seq a _=>a
 |c=>c
def wG:Code->Code
 | .seq _ b=>b
 |c=>c
def P2(f:Func):Code:=match f.body with
 |some c=>c
 |none=> .skip
theorem MD(s:List UInt8)(h:ah)(h0:s≠[])(hl:s.length<=65536)(Q:bt->St->Prop)(hQ:∀(rg:T AV)(v:Int)(ok:Bool),rg.get 2=some (.I v)->rg.get 3=some (.bool ok)->(ok=true->yT s=some v)->Q .ret ⟨rg,86,h,[],false⟩)(rg:T AV)(r0:rg.get 0=some (.str s))(r4:rg.get 4=some (.int .u64 0))(r6:rg.get 6=some (.I 0)):
 bR env (wG (Qu (wG (wG (wG (P2 f23)))))) (je (bR env (wG (wG (wG (wG (P2 f23))))) Q) Q) ⟨rg,86,h,[],false⟩:=by
 simp only[Qu,wG,P2,f23,LH];obtain⟨I,hI⟩:∃I:Nat->St->Prop,I=(fun m x=>∃i v,i<=s.length/\m=s.length-i/\(∀b∈s.take i,gk b.toNat=true)/\v<18446744073709551616/\(i<=19->v=rD (s.take i))/\x.n=86/\x.ds=[]/\x.bI=false/\x.h=h/\x.rg.get 0=some (.str s)/\x.rg.get 4=some (.int .u64 (v:Nat))/\x.rg.get 6=some (.I i)):=⟨_,rfl⟩
 refine bW I s.length (by rw[hI];exact⟨0,0,om,rfl,sp,om,fun _=>by simp[rD],rfl,rfl,rfl,rfl,r0,by simpa using r4,by simpa using r6⟩) ?_;clear r0 r4 r6 rg;intro m st fI;have lQ:=fI;rw[hI]at lQ;obtain⟨rg,n,H,ds,bI⟩:=st;obtain⟨i,v,hi,rfl,hd,hv,Zb,e1,e2,e3,e4,r0,r4,r6⟩:=lQ;clear fI;dsimp only at e1 e2 e3 e4 r0 r4 r6;subst e1 e2 e3 e4;by_cases cX:i<s.length
 ·have xx:(i:Int)<(s.length:Int):=by omega
  have hx:s[i]?=some s[i]:=aj cX;have w1:IntKind.wrap .i64 ((i:Int)+1)=((i+1:Nat):Int):=by
   rw[wr om om];simp
  have tk:s.take (i+1)=s.take i++[s[i]]:=by rw[dG,hx];rfl
  simp[r0,r4,r6,cX,xx];refine(lR _ _).mono fun out h2 hq=>?_;obtain⟨rfl,rfl⟩:=hq;cases hg:gk (s[i].toNat:Int)with
  |false=>
   simp;exact hQ _ 0 false sp sp sp
  |true=>
   have hg':=hg;simp[gk]at hg';have hc:=s[i].toNat_lt;generalize uG:s[i]=ci at*;obtain⟨x,x9⟩:∃x:Nat,x=v*10%18446744073709551616:=⟨_,rfl⟩
   obtain⟨d,hde⟩:∃d:Nat,d=ci.toNat-48:=⟨_,rfl⟩
   obtain⟨y,hye⟩:∃y:Nat,y=(x+d)%18446744073709551616:=⟨_,rfl⟩
   have v1:IntKind.wrap .u64 ((v:Int)*10)=(x:Int):=(by rw[IntKind.wrap_u64];omega);have v2:IntKind.wrap .u8 ((ci.toNat:Int)-48)=(d:Int):=(by rw[wrap_u8 om om];omega);have v3:IntKind.wrap .u64 (d:Int)=(d:Int):=aeb om om;have v4:IntKind.wrap .u64 ((x:Int)+(d:Int))=(y:Int):=(by rw[IntKind.wrap_u64];omega);simp[r0,r4,r6,cX,xx,w1,TI,Ax,TG,v1,v2,Kd,v3,v4,uG];refine⟨s.length-(i+1),om,?_⟩;rw[hI];refine⟨i+1,y,cX,rfl,?_,om,?_,rfl,rfl,rfl,rfl,by simp[r0],sp,sp⟩
   ·intro b hb;rw[tk]at hb;rcases aP.1 hb with hb|hb
    ·exact hd b hb
    ·simp only[aR]at hb;rw[hb];exact hg
   ·intro h19;rw[tk,BZ,<-hde];have agY:=P1 (s.take i) hd;have Xp:(s.take i).length<=18:=(by rw[cI];omega);have agy:10^(s.take i).length<=10^18:=Nat.pow_le_pow_right om Xp;have h18:(10:Nat)^18=1000000000000000000:=dc;have:=Zb om;omega
 ·have np:i=s.length:=by omega
  subst np;rw[dH]at hd Zb;obtain⟨c,r,rfl⟩:∃c r,s=c::r:=by cases s with|nil=>exact(h0 rfl).elim|cons c r=>exact⟨c,r,rfl⟩
  obtain⟨u,hu⟩:∃u:Int,u=IntKind.wrap .i64 (v:Int):=⟨_,rfl⟩
  simp only[ai]at r6 Zb hl;by_cases b1:r.length+1<=19
  ·have Ij:(r.length:Int)+1<=19:=om;have fin:((c.toNat:Int) !=48)=true\/((r.length:Int)+1==1)=true->v<9223372036854775808->yT (c::r)=some u:=by
    intro hz hv2;have abr:=Zb b1;have hw:u=(v:Int):=(by rw[hu,wr om om]);rw[hw,abr];refine TN sp hd ?_ om;rcases hz with hz|hz
    ·right;intro e;simp at e;subst e;revert hz;decide
    ·left;have:=eq_of_beq hz;simp only[ai];omega
   cases b2:((c.toNat:Int) !=48)with
   |true=>
    by_cases b4:v<9223372036854775808
    ·have TQ:(v:Int)<9223372036854775808:=om;simp[r0,r4,r6,uh,<-hu,Ij,b2,TQ];exact hQ _ u true sp sp (fun _=>fin (.inl b2) b4)
    ·have TQ:¬(v:Int)<9223372036854775808:=om;simp[r0,r4,r6,uh,<-hu,Ij,b2,TQ];exact hQ _ u false sp sp sp
   |false=>
    cases b3:((r.length:Int)+1==1)with
    |true=>
     by_cases b4:v<9223372036854775808
     ·have TQ:(v:Int)<9223372036854775808:=om;simp[r0,r4,r6,uh,<-hu,Ij,b2,b3,TQ];exact hQ _ u true sp sp (fun _=>fin (.inr b3) b4)
     ·have TQ:¬(v:Int)<9223372036854775808:=om;simp[r0,r4,r6,uh,<-hu,Ij,b2,b3,TQ];exact hQ _ u false sp sp sp
    |false=>
     simp[r0,r4,r6,uh,<-hu,Ij,b2,b3];exact hQ _ u false sp sp sp
  ·have Ij:¬(r.length:Int)+1<=19:=om;simp[r0,r4,r6,uh,<-hu,Ij];exact hQ _ u false sp sp sp
theorem TR(s:List UInt8)(h:ah)(h0:s≠[])(hl:s.length<=65536):aV env 23 [.str s] h (fun out h'=>TP s out/\h'=h):=by
 refine wb fn23 rfl ?_;have dec:=fun(rg:T AV) r0 r4 r6=>MD s h h0 hl (atEnd env f23 (fun out h'=>TP s out/\h'=h)) (fun rg v ok h2 h3 hk=>by
  rw[RM];refine⟨rfl,?_⟩;simp[f23,h2,h3];exact⟨v,ok,rfl,hk⟩) rg r0 r4 r6
 obtain⟨c,r,rfl⟩:∃c r,s=c::r:=by cases s with|nil=>exact(h0 rfl).elim|cons c r=>exact⟨c,r,rfl⟩
 simp only[Qu,wG,P2,f23]at dec;by_cases nJ:2<r.length+1
 ·have Xq:(2:Int)<(r.length:Int)+1:=by omega
  cases hc:((c.toNat:Int)==48)with
  |false=>
   simp[f23,Xq,hc];exact dec _ sp sp sp
  |true=>
   obtain⟨d,r',rfl⟩:∃d r',r=d::r':=(by cases r with|nil=>simp at nJ|cons d r'=>exact⟨d,r',rfl⟩);have EI:(1:Int)<(r'.length:Int)+1+1:=om;have UC:(0:Int)<(r'.length:Int)+1:=om;have YR:(2:Int)<(r'.length:Int)+1+1:=(by simp at Xq;omega);have hl6:(2:Int)<(r'.length:Int)+2:=om;cases hd:((d.toNat:Int)==120)with
   |false=>
    simp[f23,EI,UC,YR,hl6,hc,hd];exact dec _ sp sp sp
   |true=>
    simp[f23,EI,UC,YR,hl6,hc,hd];have Gz:c=48:=eh (by have:=eq_of_beq hc;have:(48:UInt8).toNat=48:=rfl;omega);have U2:d=120:=eh (by have:=eq_of_beq hd;have:(120:UInt8).toNat=120:=rfl;omega);subst Gz U2;clear dec hc hd;have hr0:r'≠[]:=(by rintro rfl;simp at nJ);simp only[ai]at hl;obtain⟨s,hs⟩:∃s:List UInt8,s=48::120::r':=⟨_,rfl⟩
    rw[<-hs];have Ug:s.length=r'.length+2:=(by rw[hs];rfl);have hsi:∀i,s[2+i]?=r'[i]?:=fun i=>by rw[hs,show 2+i=i+1+1 by omega];rfl
    obtain⟨I,hI⟩:∃I:Nat->St->Prop,I=(fun m x=>∃i v,i<=r'.length/\m=r'.length-i/\(∀b∈r'.take i,0<=xE b)/\v<18446744073709551616/\(i<=16->v=uu (r'.take i))/\x.n=86/\x.ds=[]/\x.bI=false/\x.h=h/\x.rg.get 0=some (.str s)/\x.rg.get 4=some (.int .u64 (v:Nat))/\x.rg.get 5=some (.I ((2+i:Nat):Int))):=⟨_,rfl⟩
    refine bW I r'.length (by rw[hI];exact⟨0,0,om,rfl,sp,om,fun _=>by simp[uu],rfl,rfl,rfl,rfl,by simp[hs],sp,sp⟩) ?_;intro m st fI;have lQ:=fI;rw[hI]at lQ;obtain⟨rg,n,H,ds,bI⟩:=st;obtain⟨i,v,hi,rfl,BX,hv,Zb,e1,e2,e3,e4,r0,r4,r5⟩:=lQ;clear fI;dsimp only at e1 e2 e3 e4 r0 r4 r5;subst e1 e2 e3 e4;by_cases cX:i<r'.length
    ·have fW:((2+i:Nat):Int)<(s.length:Int):=om;have Bo:2+i<s.length:=om;have hx:r'[i]?=some r'[i]:=aj cX;obtain⟨ci,PC⟩:∃ci,r'[i]=ci:=⟨_,rfl⟩
     rw[PC]at hx;have Jm:s[2+i]?=some ci:=(by rw[hsi,hx]);have aec:s[2+i]'Bo=ci:=by
      have:=aj Bo;rw[Jm]at this;injection this with this;exact this.symm
     have w1:IntKind.wrap .i64 (((2+i:Nat):Int)+1)=((2+(i+1):Nat):Int):=by
      rw[wr om om];omega
     have tk:r'.take (i+1)=r'.take i++[ci]:=(by rw[dG,hx];rfl);generalize Cj:2+i=k2 at*;simp[r0,r4,r5,fW,Bo,Jm,aec];refine(Y9 _ _).mono fun out h2 hq=>?_;obtain⟨rfl,rfl⟩:=hq;by_cases agz:xE ci<0
     ·simp[agz];exact⟨0,false,rfl,sp⟩
     ·obtain⟨dv,d1,d2,d3⟩:=CF (c:=ci) om;have aed:¬(dv:Int)<0:=om;obtain⟨x,x9⟩:∃x:Nat,x=v*16%18446744073709551616:=⟨_,rfl⟩
      have sh:∀t,cn (Go.binOp .shl t (.int .u64 v) (.int .u64 4))=some (.int .u64 (x:Int)):=fun t=>by rw[TJ,<-x9]
      have orr:∀t,cn (Go.binOp .or t (.int .u64 x) (.int .u64 dv))=some (.int .u64 ((x+dv:Nat):Int)):=fun t=>TK om d3 om;have v3:IntKind.wrap .u64 (dv:Int)=(dv:Int):=aeb om om;obtain⟨y,hye⟩:∃y:Nat,y=x+dv:=⟨_,rfl⟩
      rw[<-hye]at orr;simp[d2,aed,r0,r4,r5,fW,Bo,Jm,aec,sh];refine(Y9 _ _).mono fun out h3 hq=>?_;obtain⟨rfl,rfl⟩:=hq;simp[d2,Kd,v3,orr,r0,r4,r5,w1];refine⟨r'.length-(i+1),om,?_⟩;rw[hI];refine⟨i+1,y,cX,rfl,?_,om,?_,rfl,rfl,rfl,rfl,by simp[r0],sp,sp⟩
      ·intro b hb;rw[tk]at hb;rcases aP.1 hb with hb|hb
       ·exact BX b hb
       ·simp only[aR]at hb;rw[hb,d2];omega
      ·intro h16;rw[tk,BY,d2];have agZ:=P0 (r'.take i) BX;have Xp:(r'.take i).length<=15:=(by rw[cI];omega);have agy:16^(r'.take i).length<=16^15:=Nat.pow_le_pow_right om Xp;have h15:(16:Nat)^15=1152921504606846976:=dc;have:=Zb om;have ht:((dv:Int)).toNat=dv:=om;rw[ht];omega
    ·have np:i=r'.length:=om;subst np;rw[dH]at BX Zb;obtain⟨u,hu⟩:∃u:Int,u=IntKind.wrap .i64 (v:Int):=⟨_,rfl⟩
     have fW:¬((2+r'.length:Nat):Int)<(s.length:Int):=om;have Bo:¬2+r'.length<s.length:=om;generalize Cj:2+r'.length=k2 at*;by_cases b1:s.length<=18
     ·have Ij:(s.length:Int)<=18:=om;have abr:=Zb om;by_cases b4:v<9223372036854775808
      ·have TQ:(v:Int)<9223372036854775808:=om;simp[r0,r4,r5,fW,Bo,uh,<-hu,b1,Ij,b4,TQ];refine⟨u,true,rfl,fun _=>?_⟩;have hw:u=(v:Int):=(by rw[hu,wr om om]);rw[hw,abr,hs];exact TO hr0 BX om om
      ·have TQ:¬(v:Int)<9223372036854775808:=om;simp[r0,r4,r5,fW,Bo,uh,<-hu,b1,Ij,b4,TQ];exact⟨u,false,rfl,sp⟩
     ·have Ij:¬(s.length:Int)<=18:=om;simp[r0,r4,r5,fW,Bo,uh,<-hu,b1,Ij];exact⟨u,false,rfl,sp⟩
 ·have Xq:¬(2:Int)<(r.length:Int)+1:=by omega
  simp[f23,Xq];exact dec _ sp sp sp
end
section
attribute [local simp] aI
theorem D7:∀(a:List UInt8)(l c:Int)(b:UInt8),dy l c (a++[b])=if b=10 then((dy l c a).1+1,1)else((dy l c a).1,(dy l c a).2+1)
 |[],l,c,b=>by simp only[cd,dy]
 |x::a,l,c,b=>by
  simp only[bZ,dy];split<;>exact D7 a _ _ b
def abt:Code->Code
 | .block _ b=>b
 |c=>c
def lpC:Code->Code
 | .loop b=>b
 |c=>c
noncomputable def TT:Code:=abt (wG (lpC (abt (Qu (wG (wG (wG (wG (wG (wG (P2 f12)))))))))))
noncomputable def ou:Code:=wG (wG (wG (wG TT)))
theorem Ke(s:List UInt8)(p3 i n:Nat)(line P3 fr:Int)(av:AV)(h:ah)(QQ:bt->St->Prop)(hs:s.length<=65536)(hi:i+n<=s.length)(hl:0<=line/\line<=i+1)(hf:0<=fr/\fr<=i)(hc:P3=i-fr+1)
 (hQ:∀(rg:T AV)(Qv:Int),0<=Qv/\Qv<=i+n->(dy line P3 ((s.drop i).take n)).2=(i+n:Nat)-Qv+1->0<=(dy line P3 ((s.drop i).take n)).1/\(dy line P3 ((s.drop i).take n)).1<=i+n+1->rg.get 0=some (.str s)->rg.get 3=some (.P p3)->rg.get 5=some av->rg.get 6=some (.I (dy line P3 ((s.drop i).take n)).1)->rg.get 7=some (.I Qv)->rg.get 8=some (.I ((i+n:Nat):Int))->QQ .jL ⟨rg,244,h,[],false⟩)
 (rg:T AV) (r0:rg.get 0=some (.str s)) (r3:rg.get 3=some (.P p3)) (r5:rg.get 5=some av) (r6:rg.get 6=some (.I line)) (r7:rg.get 7=some (.I fr)) (r8:rg.get 8=some (.I i)) (jq:rg.get 11=some (.I n)) (zx:rg.get 16=some (.I i)):
 bR env (wG (Qu ou)) (je (bR env (wG ou) QQ) QQ) ⟨rg,244,h,[],false⟩:=by
 simp only[ou,TT,Qu,wG,abt,lpC,P2,f12,LH];obtain⟨I,hI⟩:∃I:Nat->St->Prop,I=(fun m x=>∃(k:Nat)(Qv:Int),k<=n/\m=n-k/\(0<=Qv/\Qv<=i+k)/\(dy line P3 ((s.drop i).take k)).2=(i+k:Nat)-Qv+1/\(0<=(dy line P3 ((s.drop i).take k)).1/\(dy line P3 ((s.drop i).take k)).1<=i+k+1)/\x.n=244/\x.ds=[]/\x.bI=false/\x.h=h/\x.rg.get 0=some (.str s)/\x.rg.get 3=some (.P p3)/\x.rg.get 5=some av/\x.rg.get 6=some (.I (dy line P3 ((s.drop i).take k)).1)/\x.rg.get 7=some (.I Qv)/\x.rg.get 8=some (.I i)/\x.rg.get 11=some (.I n)/\x.rg.get 16=some (.I ((i+k:Nat):Int))):=⟨_,rfl⟩
 refine bW I n (by rw[hI];exact⟨0,fr,om,rfl,om,by simp[dy,hc],by simp[dy];omega,rfl,rfl,rfl,rfl,r0,r3,r5,by simpa[dy]using r6,r7,r8,jq,by simpa using zx⟩) ?_;clear r0 r3 r5 r6 r7 r8 jq zx rg;intro m st fI;have lQ:=fI;rw[hI]at lQ;obtain⟨rg,n',H,ds,bI⟩:=st;obtain⟨k,Qv,hk,rfl,KV,aee,Zc,e1,e2,e3,e4,r0,r3,r5,r6,r7,r8,jq,zx⟩:=lQ;clear fI;dsimp only at e1 e2 e3 e4 r0 r3 r5 r6 r7 r8 jq zx;subst e1 e2 e3 e4;have w0:IntKind.wrap .i64 ((i:Int)+(n:Int))=((i+n:Nat):Int):=by rw[wr om om];omega
 by_cases cX:k<n
 ·have fW:((i+k:Nat):Int)<((i+n:Nat):Int):=by omega
  have Bo:i+k<s.length:=by omega
  have Zd:((i+k:Nat):Int)<(s.length:Int):=by omega
  obtain⟨ci,PC⟩:∃ci,s[i+k]?=some ci:=⟨_,aj Bo⟩
  have aef:s[i+k]=ci:=by rw[aj Bo]at PC;injection PC
  have tk:(s.drop i).take (k+1)=(s.drop i).take k++[ci]:=by
   rw[dG,gQ,PC];rfl
  have w1:IntKind.wrap .i64 (((i+k:Nat):Int)+1)=((i+(k+1):Nat):Int):=by rw[wr om om];omega
  have w2:IntKind.wrap .i64 ((dy line P3 ((s.drop i).take k)).1+1)=(dy line P3 ((s.drop i).take k)).1+1:=wr om om;have wa:=D7 ((s.drop i).take k) line P3 ci;rw[<-tk]at wa;obtain⟨N,hN⟩:∃N,N=dy line P3 ((s.drop i).take k):=⟨_,rfl⟩
  rw[<-hN]at wa aee Zc r6 w2;generalize hik:i+k=ik at*;generalize tA:((i+n:Nat):Int)=Cf at*;by_cases xU:ci=10
  ·subst xU;rw[aW rfl]at wa;simp[r0,r3,r5,r6,r7,r8,jq,zx,w0,fW,Bo,Zd,PC,aef,w1,w2];refine⟨n-(k+1),om,?_⟩;rw[hI];exact⟨k+1,((i+(k+1):Nat):Int),om,rfl,om,by rw[wa];simp,by rw[wa];simp;omega,rfl,rfl,rfl,rfl,by simp[r0],by simp[r3],by simp[r5],by rw[wa];simp,sp,by simp[r8],by simp[jq],sp⟩
  ·rw[az xU]at wa;have q:((ci.toNat:Int)==10)=false:=by
    rw[aH];intro e;apply xU;apply eh;have:(10:UInt8).toNat=10:=rfl;omega
   simp[r0,r3,r5,r6,r7,r8,jq,zx,w0,fW,Bo,Zd,PC,aef,w1,w2,q];refine⟨n-(k+1),om,?_⟩;rw[hI];exact⟨k+1,Qv,om,rfl,om,by rw[wa];simp;omega,by rw[wa];simp;omega,rfl,rfl,rfl,rfl,by simp[r0],by simp[r3],by simp[r5],by rw[wa];simp[r6],by simp[r7],by simp[r8],by simp[jq],sp⟩
 ·have Nn:k=n:=by omega
  subst Nn;simp[r0,r3,r5,r6,r7,r8,jq,zx,w0];exact hQ _ Qv KV aee Zc (by simp[r0]) (by simp[r3]) (by simp[r5]) (by simp[r6]) (by simp[r7]) sp
end
section
attribute [local simp] aI
def oR(h:ah)(b:Nat)(ws:List Wo):Prop:=h.get b=some (.cells true 5 (fN ws))
structure agA(s:List UInt8)(h:ah)(i:Nat)(cq:List Wo)(line fr:Int)(b:Nat)(rg:T AV)(H:ah):Prop where
 hi:i<=s.length
 lex:∀eK,jM line (i-fr+1) (s.drop i) eK->jM 1 1 s (cq++eK)
 l:0<=line/\line<=i+1
 f:0<=fr/\fr<=i
 n:cq.length<=i
 aJ:aS h H
 c3:H.get h.next=some (.C [.I 0,.I 0])
 arr:oR H b cq
 lo:h.next<b
 lt:b<H.next
 r0:rg.get 0=some (.str s)
 r3:rg.get 3=some (.P h.next)
 r5:rg.get 5=some (.S b cq.length)
 r6:rg.get 6=some (.I line)
 r7:rg.get 7=some (.I fr)
 r8:rg.get 8=some (.I i)
theorem Ze{E:Env}{P:T AV->Prop}{n:Nat}{h:ah}{G:Prop}(code:Code)(QQ:bt->St->Prop)(hm:(∀da,P da->bR E code QQ ⟨da,n,h,[],false⟩)->G)(ht:∀da,P da->bR E code QQ ⟨da,n,h,[],false⟩):G:=hm ht
def agB(s:List UInt8)(h:ah)(out:Out)(h':ah):Prop:=
 ∃sv l c bad,out= .ret (.iX [sv,.agg [.I l,.I c],.I bad])/\aS h h'/\(bad=0->∃ws b,jM 1 1 s ws/\sv= .S b ws.length/\oR h' b ws/\h.next<b/\b<h'.next)
theorem TU{h:ah}{X:List Nat}{st e:TypeId}{uB es:Nat}{z:List AV}(hu:env.kQ st=some (.slice e))(hs:env.siz e=some (es+1))(hb:env.byt e=some uB)(MW:uB<=100)(hz:env.zer e=some z)(wB:z.length=es+1){av:AV}{n:Nat}{cs:List AV}(arr:dW X h av (es+1) n cs)(hc:cs.length=n*(es+1))(hq:(n+1)*(uB+1)<=roomy)
 (src:Nat) (ec:List AV) (Em:ec.length=es+1) (xL:ec.all AV.scalar=true) (B6:h.get src=some (.cells true (es+1) ec)) (fr:cM h):
 ∃h2,aO env h st av (.S src 1)=some (.S h.next (n+1),h2)/\h2.next=h.next+1/\h2.get h.next=some (.cells true (es+1) (cs++ec))/\aQ (aK av) h h2:=by
 have r1:¬roomy<(n+1)*(uB+1):=by
  omega
 have r0:¬roomy<uB+1:=by unfold roomy;omega
 have t0:ec.take (es+1)=ec:=eX om;have l0:es+1<=ec.length:=om
 rcases arr with⟨rfl,rfl,rfl⟩|⟨b,rfl,_,gb⟩
 ·refine⟨_,by simp[-nQ,-List.all_eq_true,hu,hs,hb,hz,B6,r0,wB,t0,l0,xL];rfl,rfl,sp,?_⟩;exact kX
 ·have cX:=au fr gb;have ne:h.next≠b:=by omega
  have hm:(n+1)*(es+1)=n*(es+1)+(es+1):=Nat.succ_mul ..;have g1:¬(n+1)*(es+1)<=cs.length:=by omega
  have g2:n*(es+1)<=cs.length:=by omega
  have tk:cs.take (n*(es+1))=cs:=eX om;refine⟨_,by simp[-nQ,-List.all_eq_true,hu,hs,hb,hz,B6,gb,r1,g1,g2,tk,wB,t0,l0,xL];rfl,rfl,sp,?_⟩;simp[aK];refine aQ.alloc _ (aQ.set _ (aQ.refl _ _) (.inl sp) cX)
theorem ME(a b:List Wo):fN (a++b)=fN a++fN b:=by simp[fN]
theorem Bp{H:ah}{b j:Nat}{ws:List Wo}{w:Wo}(ar:oR H b ws)(hn:ws.length<=65536)(hj:H.get j=some (.cells true 5 w.cells))(fr:cM H):
 ∃H4,aO env H 43 (.S b ws.length) (.S j 1)=some (.S H.next (ws.length+1),H4)/\H4.next=H.next+1/\oR H4 H.next (ws++[w])/\aQ [b] H H4:=by
 obtain⟨H4,h1,h2,h3,h4⟩:=TU (X:=[]) (n:=ws.length) (st:=43) (e:=88) rfl ty88.1 ty88.2.1 dc ty88.2.2.2 rfl (.inr ⟨b,rfl,sp,ar⟩) (by rw[D1];omega) (by unfold roomy;omega) j w.cells rfl rfl hj fr;refine⟨H4,h1,h2,?_,h4⟩;unfold oR;rw[h3,ME];simp[fN]
theorem Zf:∀(l:List UInt8)(d:UInt8)(n:Nat),(∀k,k<n->l[k]?≠some d)->l[n]?=some d->Lib.indexByte l d=n
 |[],d,n,_,h=>by simp at h
 |b::l,d,0,_,h=>by simp at h;subst h;simp[Lib.indexByte]
 |b::l,d,n+1,hk,h=>by
  have hb:(b==d)=false:=by
   have:=hk 0 om;simp at this;exact aH.2 this
  have ih:=Zf l d n (fun k Ec=>by simpa using hk (k+1) om) (by simpa using h);unfold Lib.indexByte;rw[ih];have:((n:Int)== -1)=false:=by rw[aH];omega
  simp[hb,this]
theorem aeg{l:List UInt8}{d:UInt8}(h:∀k:Nat,l[k]?≠some d):¬0<=Lib.indexByte l d:=fun e=>by
 rw[Bn]at e;obtain⟨k,he⟩:=List.mem_iff_getElem?.1 e;exact h k he
theorem Zg:∀(l:List UInt8)(q:Nat),(∀p,p<q->¬(l[p]?=some 42/\l[p+1]?=some 47))->l[q]?=some 42->l[q+1]?=some 47->j3 l=q
 |[],q,_,h,_=>by simp at h
 |b::l,0,_,h,h'=>by
  simp at h h';subst h;cases l with
  |nil=>simp at h'
  |cons d l=>simp at h';subst h';simp[j3,LM]
 |b::l,q+1,hk,h,h'=>by
  have h0:=hk 0 om;have Uk:LM (b::l)=false:=by
   cases l with
   |nil=>unfold LM;split<;>simp_all
   |cons d l=>
    simp at h0;unfold LM;split
    ·rename_i e;injection e with e1 e2;injection e2 with e2 e3;exact absurd e2 (h0 e1)
    ·rfl
  have ih:=Zg l q (fun p hp=>by simpa using hk (p+1) om) (by simpa using h) (by simpa using h');have:¬((q:Int)<0):=by omega
  simp[j3,Uk,ih,this]
theorem Ou(s:List UInt8)(h:ah)(Zh:cM h):aV env 12 [.str s] h (agB s h):=by
 refine wb fn12 rfl ?_;have rm:(0:Nat)<=roomy:=bX _;simp[f12,bh,rm];by_cases hs:s.length<=65536
 ·have qU:¬(65536:Int)<(s.length:Int):=by omega
  simp[qU];obtain⟨I,hI⟩:∃I:Nat->St->Prop,I=(fun m x=>∃i cq line fr b,m=s.length-i/\x.n=244/\x.ds=[]/\x.bI=false/\agA s h i cq line fr b x.rg x.h):=⟨_,rfl⟩
  refine bW I s.length (by
   rw[hI];refine⟨0,[],1,0,h.next+1,sp,rfl,rfl,rfl,⟨om,fun eK hx=>by simpa using hx,sp,sp,sp,kT,sp,by simp[oR,fN],sp,sp,sp,sp,sp,sp,sp,sp⟩⟩) ?_
  intro m st fI;have lQ:=fI;rw[hI]at lQ;obtain⟨rg,n',H,ds,bI⟩:=st;obtain⟨i,cq,line,fr,b,rfl,e1,e2,e3,W⟩:=lQ;clear fI;dsimp only at e1 e2 e3 W;subst e1 e2 e3;obtain⟨hi,lex,hl,hf,hn,K,c3,ar,lo,lt,r0,r3,r5,r6,r7,r8⟩:=W;by_cases cX:i<s.length
  ·have fW:(i:Int)<(s.length:Int):=om;obtain⟨c,hc⟩:∃c,s[i]?=some c:=⟨_,aj cX⟩
   have zp:s[i]=c:=(by rw[aj cX]at hc;injection hc);obtain⟨r,hr⟩:∃r,s.drop i=c::r:=⟨s.drop (i+1),by rw[ca cX,zp]⟩
   have Ie:r.length+1+i=s.length:=(by have:=wz List.length hr;rw[bU,ai]at this;omega);have w1:IntKind.wrap .i64 ((i:Int)-fr)=(i:Int)-fr:=wr om om;have w2:IntKind.wrap .i64 ((i:Int)-fr+1)=(i:Int)-fr+1:=wr om om;have fin:∀(QQ:bt->St->Prop),(∀cg,(∃j,j<s.length-i/\I j cg)->QQ .jL cg)->∀(n:Nat)(H':ah)(b':Nat)(P4:List Wo)(da:T AV),0<n->i+n<=s.length->
    (∀eK,jM (dy line (i-fr+1) ((s.drop i).take n)).1 (dy line (i-fr+1) ((s.drop i).take n)).2 ((s.drop i).drop n) eK->jM line (i-fr+1) (s.drop i) (P4++eK))->P4.length<=n->aS h H'->H'.get h.next=some (.C [.I 0,.I 0])->oR H' b' (cq++P4)->h.next<b'->b'<H'.next->
    da.get 0=some (.str s)->da.get 3=some (.P h.next)->da.get 5=some (.S b' (cq++P4).length)->da.get 6=some (.I line)->da.get 7=some (.I fr)->da.get 8=some (.I i)->da.get 11=some (.I n)->da.get 16=some (.I i)->
    bR env (wG (Qu ou)) (je (bR env (wG ou) QQ) QQ) ⟨da,244,H',[],false⟩:=by
    intro QQ TV n H' b' P4 da B5 tA LK UU K' c3' ar' lo' lt' q0 q3 q5 q6 q7 q8 Bl TW;refine Ke s h.next i n line (i-fr+1) fr _ H' QQ hs tA hl hf rfl (fun rg2 fr2 hf2 zp nJ p0 p3 p5 p6 p7 p8=>?_) da q0 q3 q5 q6 q7 q8 Bl TW;refine TV _ ⟨s.length-(i+n),om,?_⟩;rw[hI];refine⟨i+n,cq++P4,_,fr2,b',rfl,rfl,rfl,rfl,⟨tA,fun eK hx=>?_,om,om,by simp;omega,K',c3',ar',lo',lt',p0,p3,p5,p6,p7,p8⟩⟩;rw[cj];refine lex _ (LK eK ?_);rw[List.drop_drop];rw[zp];exact hx
   have Kc:aS h ((H.alloc (.C [.I 0,.I 0])).2.set H.next (.C [.I line,.I ((i:Int)-fr+1)])):=kT;have nn:=K.next;have Xr:(((H.alloc (.C [.I 0,.I 0])).2.set H.next (.C [.I line,.I ((i:Int)-fr+1)]))).get h.next=some (.C [.I 0,.I 0]):=by
    rw[ah.aM,az om,ah.dz,az om];exact c3
   have Zi:oR ((H.alloc (.C [.I 0,.I 0])).2.set H.next (.C [.I line,.I ((i:Int)-fr+1)])) b cq:=by
    unfold oR;rw[ah.aM,az om,ah.dz,az om];exact ar
   have Zj:b<(((H.alloc (.C [.I 0,.I 0])).2.set H.next (.C [.I line,.I ((i:Int)-fr+1)]))).next:=by simp;omega
   have ltp:H.next<(((H.alloc (.C [.I 0,.I 0])).2.set H.next (.C [.I line,.I ((i:Int)-fr+1)]))).next:=by simp
   have gp:(((H.alloc (.C [.I 0,.I 0])).2.set H.next (.C [.I line,.I ((i:Int)-fr+1)]))).get H.next=some (.C [.I line,.I ((i:Int)-fr+1)]):=sp;by_cases HQ:c∈([32,9,13,10]:List UInt8)
   ·have KO:jD (c::r)=(1,true):=by
     simp only[jD];rw[aW ((Bn _ _).2 HQ)]
    have yJ:∀(QQ:bt->St->Prop),(∀cg,(∃j,j<s.length-i/\I j cg)->QQ .jL cg)->∀da,da.get 0=some (.str s)->da.get 3=some (.P h.next)->da.get 5=some (.S b cq.length)->da.get 6=some (.I line)->da.get 7=some (.I fr)->da.get 8=some (.I i)->da.get 11=some (.I 1)->da.get 16=some (.I i)->
     bR env (wG (Qu ou)) (je (bR env (wG ou) QQ) QQ) ⟨da,244,((H.alloc (.C [.I 0,.I 0])).2.set H.next (.C [.I line,.I ((i:Int)-fr+1)])),[],false⟩:=fun QQ TV da q0 q3 q5 q6 q7 q8 Bl TW=>
     fin QQ TV 1 _ b [] da om om (fun eK hx=>by rw[hr]at hx⊢;exact .blank (n:=1) sp KO om sp hx) sp Kc Xr (by simpa using Zi) lo Zj q0 q3 (by simpa using q5) q6 q7 q8 Bl TW
    simp only[aq,bd,cT]at HQ;rcases HQ with rfl|rfl|rfl|rfl
    all_goals
     simp[r0,r3,r5,r6,r7,r8,cX,fW,hc,zp,w1,w2];exact yJ _ (fun _ h=>h) _ (by simp[r0]) (by simp[r3]) (by simp[r5]) (by simp[r6]) (by simp[r7]) (by simp[r8]) sp sp
   ·have ZC:¬0<=Lib.indexByte [32,9,13,10] c:=fun e=>HQ ((Bn _ _).1 e);simp only[aq,bd,cT,fO]at HQ;have ne:∀d:UInt8,c≠d->((c.toNat:Int)==(d.toNat:Int))=false:=fun d hd=>by
     rw[aH];intro e;exact hd (eh om)
    have q32:((c.toNat:Int)==32)=false:=ne 32 HQ.1;have q9:((c.toNat:Int)==9)=false:=ne 9 HQ.2.1;have q13:((c.toNat:Int)==13)=false:=ne 13 HQ.2.2.1;have UJ:((c.toNat:Int)==10)=false:=ne 10 HQ.2.2.2;have PC:s[i]?=some c:=hc;have Xs:∀j:Nat,s[i+j]?=(c::r)[j]?:=fun j=>by rw[<-hr,gQ]
    cases Zk:((c.toNat:Int)==47)with
    |true=>
     have Bq:c=47:=eh (by have:=eq_of_beq Zk;have:(47:UInt8).toNat=47:=rfl;omega);obtain⟨k1,Bv⟩:∃k1,k1=i+1:=⟨_,rfl⟩
     have wi1:IntKind.wrap .i64 ((i:Int)+1)=(k1:Int):=(by rw[wr om om];omega);cases r with
     |nil=>
      have TY:iU (c.toNat:Int)=false:=(by subst Bq;decide);have TZ:gk (c.toNat:Int)=false:=(by subst Bq;decide);have By:¬k1<s.length:=(by simp at Ie;omega);have agC:¬(k1:Int)<(s.length:Int):=om;have KO:jD [c]=(0,true):=(by subst Bq;simp[jD,ZC,Lib.hasPrefix]);have fI:iU (c.toNat:Int)=false:=TY;have BX:gk (c.toNat:Int)=false:=TZ;simp[r0,r3,r5,r6,r7,r8,cX,fW,hc,zp,w1,w2,q32,q9,q13,UJ,Zk,wi1,By,agC];generalize ((H.alloc (.C [.I 0,.I 0])).2.set H.next (.C [.I line,.I ((i:Int)-fr+1)]))=Hc at*;refine(pI _ _).mono fun out h2 hq=>?_;obtain⟨rfl,rfl⟩:=hq;simp[fI];refine(lR _ _).mono fun out h3 hq=>?_;obtain⟨rfl,rfl⟩:=hq;have hle:(i:Int)<=(s.length:Int):=om;simp[BX,r0,r3,r5,r6,r7,r8,hle,hi,hr];refine(HK c _ _ (by have:=Ie;(try simp only[ai,bz]at this⊢);omega)).mono fun out h4 hq=>?_;obtain⟨rfl,km⟩:=hq;have T3:H.next<h3.next:=ltp;have JE:=(km.old H.next T3).trans gp;have Zl:=(km.old h.next om).trans Xr;have ar4:oR h4 b cq:=(km.old b Zj).trans Zi;have K4:=Kc.trans km;have n4:=km.next;obtain⟨cr,Gf⟩:∃cr,cr=c::[]:=⟨_,rfl⟩
      have En:pc cr=if 0<jc cr then some ⟨4,cr.take (jc cr).toNat,0⟩else none:=by
       have yJ:lY (c.toNat:Int)=false:=(by simp[lY,fI,BX]);have B5:eG cr=0:=(by rw[Gf];simp[eG,yJ]);rw[Gf]at B5⊢;simp only[pc,fI,B5];simp
      rw[<-Gf]at KO hr⊢;have UF:=xd cr;have PY:cr.length+i=s.length:=(by rw[Gf];simp at Ie⊢;omega);by_cases Xl:0<jc cr
      ·rw[aW Xl]at En;obtain⟨tx,B8⟩:∃tx,tx=cr.take (jc cr).toNat:=⟨_,rfl⟩
       rw[<-B8]at En⊢;have Aj:(tx.length:Int)=jc cr:=(by rw[B8,cI];omega);have jX:(tx==[])=false:=by
        rw[aH];intro e;rw[e]at Aj;simp at Aj;omega
       have yh:cr.take tx.length=tx:=by
        rw[B8,cI,j4 om]
       simp[-aO,r0,r3,r5,r6,r7,r8,jX,JE];have K5:aS h4 (h4.alloc (.cells true 5 [.I 4,.str tx,.I 0,.I line,.I ((i:Int)-fr+1)])).2:=kT;obtain⟨h6,ha,n6,EZ,k6⟩:=Bp (w:=⟨4,tx,0,line,(i:Int)-fr+1⟩) (j:=h4.next) (show oR (h4.alloc (.cells true 5 [.I 4,.str tx,.I 0,.I line,.I ((i:Int)-fr+1)])).2 b cq from(K5.old b om).trans ar4) om (by simp[Wo.cells]) ((K4.trans K5).fresh Zh);simp[-aO]at ha n6 EZ;simp[-aO,r0,r3,r5,r6,r7,r8,ha];have k6n:=k6.next;have K6:aS h h6:=(aQ.trans' (X:=[]) ((K4.trans K5).x []) k6 (by intro z hz cX;simp at hz;omega)).aJ;have MF:=(k6.old h.next (by simp;omega) (by simp;omega)).trans ((K5.old h.next om).trans Zl);exact fin _ (fun _ h=>h) tx.length h6 (h4.next+1) [⟨4,tx,0,line,(i:Int)-fr+1⟩] _ om om (fun eK hx=>by
        rw[hr]at hx⊢;rw[yh]at hx;exact .word (by rw[Gf];simp) KO En hx) (by simp;omega) K6 MF EZ om om (by simp[r0]) (by simp[r3]) sp (by simp[r6]) (by simp[r7]) (by simp[r8]) sp sp
      ·have HS:(jc cr).toNat=0:=om;rw[HS]
       try simp[r0,r3,r5,r6,r7,r8]
       refine Dd ?_;simp[r3,r5,JE,Zl];refine dm ?_;exact⟨_,_,_,3,rfl,kT,sp⟩
     |cons d r2=>
      have HY:s[k1]?=some d:=(by rw[Bv];exact Xs 1);have ID:k1<s.length:=(by simp at Ie;omega);have T5:(k1:Int)<(s.length:Int):=om;have NV:s[k1]=d:=(by rw[aj ID]at HY;injection HY);cases qd:((d.toNat:Int)==47)with
      |true=>
       have abu:d=47:=eh (by have:=eq_of_beq qd;have:(47:UInt8).toNat=47:=rfl;omega);simp[r0,r3,r5,r6,r7,r8,cX,fW,hc,zp,w1,w2,q32,q9,q13,UJ,Zk,wi1,ID,T5,HY,NV,qd];generalize ((H.alloc (.C [.I 0,.I 0])).2.set H.next (.C [.I line,.I ((i:Int)-fr+1)]))=Hc at*;obtain⟨J,hJ⟩:∃J:Nat->St->Prop,J=(fun m x=>∃n,1<=n/\i+n<=s.length/\m=s.length-(i+n)/\(∀j,j<n->s[i+j]?≠some 10)/\x.n=244/\x.ds=[]/\x.bI=false/\x.h=Hc/\x.rg.get 0=some (.str s)/\x.rg.get 3=some (.P h.next)/\x.rg.get 5=some (.S b cq.length)/\x.rg.get 6=some (.I line)/\x.rg.get 7=some (.I fr)/\x.rg.get 8=some (.I i)/\x.rg.get 11=some (.I (n:Nat))):=⟨_,rfl⟩
       refine bW J (s.length-(i+1)) (by
        rw[hJ];refine⟨1,om,om,rfl,?_,rfl,rfl,rfl,rfl,by simp[r0],by simp[r3],by simp[r5],by simp[r6],by simp[r7],by simp[r8],sp⟩;intro j hj;have:j=0:=om;subst this;rw[qR,PC,Bq];decide) ?_
       clear r0 r3 r5 r6 r7 r8 rg;intro m st fI;have lQ:=fI;rw[hJ]at lQ;obtain⟨rg,n',H2,ds,bI⟩:=st;obtain⟨n,Lg,tA,rfl,tf,e1,e2,e3,e4,r0,r3,r5,r6,r7,r8,jq⟩:=lQ;clear fI;dsimp only at e1 e2 e3 e4 r0 r3 r5 r6 r7 r8 jq;subst e1 e2 e3 e4;obtain⟨kn,Nn⟩:∃kn,kn=i+n:=⟨_,rfl⟩
       have E0:IntKind.wrap .i64 ((i:Int)+(n:Int))=(kn:Int):=(by rw[wr om om];omega);obtain⟨n1,abv⟩:∃n1,n1=n+1:=⟨_,rfl⟩
       have Qw:IntKind.wrap .i64 ((n:Int)+1)=(n1:Int):=(by rw[wr om om];omega);have Xt:(jD (c::d::r2)=((n:Int),true))->∀(QQ:bt->St->Prop),(∀cg,(∃j,j<s.length-i/\I j cg)->QQ .jL cg)->∀da,da.get 0=some (.str s)->da.get 3=some (.P h.next)->da.get 5=some (.S b cq.length)->da.get 6=some (.I line)->da.get 7=some (.I fr)->da.get 8=some (.I i)->da.get 11=some (.I n)->da.get 16=some (.I i)->
        bR env (wG (Qu ou)) (je (bR env (wG ou) QQ) QQ) ⟨da,244,H2,[],false⟩:=fun KO QQ TV da q0 q3 q5 q6 q7 q8 Bl TW=>
        fin QQ TV n _ b [] da om om (fun eK hx=>by rw[hr]at hx⊢;exact .blank (n:=n) sp KO om (by rw[<-hr,bU];omega) hx) sp Kc Xr (by simpa using Zi) lo Zj q0 q3 (by simpa using q5) q6 q7 q8 Bl TW
       have abw:jD (c::d::r2)=(if 0<=Lib.indexByte (c::d::r2) 10 then(Lib.indexByte (c::d::r2) 10,true)else(((c::d::r2).length:Int),true)):=by
        subst Bq abu;simp[jD,ZC,Lib.hasPrefix]
       have My:(n=(c::d::r2).length\/s[i+n]?=some 10)->jD (c::d::r2)=((n:Int),true):=by
        intro ho;rw[abw];by_cases xU:s[i+n]?=some 10
        ·have:=Zf (c::d::r2) 10 n (fun k hk=>by rw[<-Xs k];exact tf k hk) (by rw[<-Xs n];exact xU);rw[this,aW om]
        ·have By:n=(c::d::r2).length:=(by rcases ho with ho|ho;exact ho;exact absurd ho xU);rw[az (aeg fun k=>by
          by_cases hk:k<n
          ·rw[<-Xs k];exact tf k hk
          ·rw[fu om];simp),By]
       have hdl:(c::d::r2).length=s.length-i:=(by rw[<-hr,bU]);by_cases yD:kn<s.length
       ·have td:(kn:Int)<(s.length:Int):=om;obtain⟨x,hx⟩:∃x,s[kn]?=some x:=⟨_,aj yD⟩
        have uG:s[kn]=x:=(by rw[aj yD]at hx;injection hx);by_cases Jq:x=10
        ·subst Jq;simp[r0,r3,r5,r6,r7,r8,jq,E0,yD,td,hx,uG];exact Xt (My (.inr (by rw[<-Nn];exact hx))) _ (fun _ h=>h) _ (by simp[r0]) (by simp[r3]) (by simp[r5]) (by simp[r6]) (by simp[r7]) (by simp[r8]) (by simp[jq]) sp
        ·have qx:((x.toNat:Int) !=10)=true:=by
          rw[bne_iff_ne];intro e;apply Jq;apply eh;have:(10:UInt8).toNat=10:=rfl;omega
         simp[r0,r3,r5,r6,r7,r8,jq,E0,yD,td,hx,uG,qx,Qw];refine⟨s.length-(i+n1),om,?_⟩;rw[hJ];refine⟨n1,om,om,rfl,?_,rfl,rfl,rfl,rfl,by simp[r0],by simp[r3],by simp[r5],by simp[r6],by simp[r7],by simp[r8],sp⟩;intro j hj;by_cases Zz:j<n
         ·exact tf j Zz
         ·have:i+j=kn:=om;rw[this,hx];intro e;injection e with e;exact Jq e
       ·have td:¬(kn:Int)<(s.length:Int):=om;simp[r0,r3,r5,r6,r7,r8,jq,E0,yD,td];exact Xt (My (.inl om)) _ (fun _ h=>h) _ (by simp[r0]) (by simp[r3]) (by simp[r5]) (by simp[r6]) (by simp[r7]) (by simp[r8]) (by simp[jq]) sp
      |false=>
       have abu:d≠47:=fun e=>by subst e;simp at qd
       cases qe:((d.toNat:Int)==42)with
       |true=>
        have abx:d=42:=eh (by have:=eq_of_beq qe;have:(42:UInt8).toNat=42:=rfl;omega);simp[r0,r3,r5,r6,r7,r8,cX,fW,hc,zp,w1,w2,q32,q9,q13,UJ,Zk,wi1,ID,T5,HY,NV,qd,qe];generalize ((H.alloc (.C [.I 0,.I 0])).2.set H.next (.C [.I line,.I ((i:Int)-fr+1)]))=Hc at*;obtain⟨J,hJ⟩:∃J:Nat->St->Prop,J=(fun m x=>∃n,2<=n/\i+n<=s.length/\m=s.length-(i+n)/\(∀p,p+3<n->¬(r2[p]?=some 42/\r2[p+1]?=some 47))/\x.n=244/\x.ds=[]/\x.bI=false/\x.h=Hc/\x.rg.get 0=some (.str s)/\x.rg.get 3=some (.P h.next)/\x.rg.get 5=some (.S b cq.length)/\x.rg.get 6=some (.I line)/\x.rg.get 7=some (.I fr)/\x.rg.get 8=some (.I i)/\x.rg.get 9=some (.P H.next)/\x.rg.get 11=some (.I (n:Nat))):=⟨_,rfl⟩
        refine bW J (s.length-(i+2)) (by
         rw[hJ];refine⟨2,om,om,rfl,om,rfl,rfl,rfl,rfl,by simp[r0],by simp[r3],by simp[r5],by simp[r6],by simp[r7],by simp[r8],sp,sp⟩) ?_
        clear r0 r3 r5 r6 r7 r8 rg;intro m st fI;have lQ:=fI;rw[hJ]at lQ;obtain⟨rg,n',H2,ds,bI⟩:=st;obtain⟨n,Lg,tA,rfl,tf,e1,e2,e3,e4,r0,r3,r5,r6,r7,r8,r9,jq⟩:=lQ;clear fI;dsimp only at e1 e2 e3 e4 r0 r3 r5 r6 r7 r8 r9 jq;subst e1 e2 e3 e4;obtain⟨kn,Nn⟩:∃kn,kn=i+n:=⟨_,rfl⟩
        obtain⟨km,Eg⟩:∃km,km=i+n-1:=⟨_,rfl⟩
        have E0:IntKind.wrap .i64 ((i:Int)+(n:Int))=(kn:Int):=(by rw[wr om om];omega);have wkm:IntKind.wrap .i64 ((kn:Int)-1)=(km:Int):=(by rw[wr om om];omega);obtain⟨n1,abv⟩:∃n1,n1=n+1:=⟨_,rfl⟩
        have Qw:IntKind.wrap .i64 ((n:Int)+1)=(n1:Int):=(by rw[wr om om];omega);have abw:jD (c::d::r2)=(j3 r2+4,decide (0<=j3 r2)):=by
         subst Bq abx;simp[jD,ZC,Lib.hasPrefix]
        have hdl:(c::d::r2).length=s.length-i:=(by rw[<-hr,bU]);simp only[ai]at hdl;have HT:∀p:Nat,s[i+(p+2)]?=r2[p]?:=fun p=>by rw[Xs (p+2)];rfl
        have Xt:r2[n-3]?=some 42/\r2[n-3+1]?=some 47->3<=n->kn<s.length->∀(QQ:bt->St->Prop),(∀cg,(∃j,j<s.length-i/\I j cg)->QQ .jL cg)->∀da,da.get 0=some (.str s)->da.get 3=some (.P h.next)->da.get 5=some (.S b cq.length)->da.get 6=some (.I line)->da.get 7=some (.I fr)->da.get 8=some (.I i)->da.get 11=some (.I n1)->da.get 16=some (.I i)->
         bR env (wG (Qu ou)) (je (bR env (wG ou) QQ) QQ) ⟨da,244,H2,[],false⟩:=fun Uk h3 yD QQ TV da q0 q3 q5 q6 q7 q8 Bl TW=>by
         have agD:=Zg r2 (n-3) (fun p hp=>tf p om) Uk.1 Uk.2;have KO:jD (c::d::r2)=((n1:Int),true):=by
          rw[abw,agD];have:((n-3:Nat):Int)+4=(n1:Int):=om;rw[this];simp
         exact fin QQ TV n1 _ b [] da om om (fun eK hx=>by rw[hr]at hx⊢;exact .blank (n:=n1) sp KO om (by simp;omega) hx) sp Kc Xr (by simpa using Zi) lo Zj q0 q3 (by simpa using q5) q6 q7 q8 Bl TW
        by_cases yD:kn<s.length
        ·have td:(kn:Int)<(s.length:Int):=om;obtain⟨x,hx⟩:∃x,s[kn]?=some x:=⟨_,aj yD⟩
         have uG:s[kn]=x:=(by rw[aj yD]at hx;injection hx);have PY:km<s.length:=om;have Xu:(km:Int)<(s.length:Int):=om;obtain⟨y,hy⟩:∃y,s[km]?=some y:=⟨_,aj PY⟩
         have hy2:s[km]=y:=(by rw[aj PY]at hy;injection hy);have again:¬(3<=n/\x=47/\y=42)->∀da,da.get 0=some (.str s)->da.get 3=some (.P h.next)->da.get 5=some (.S b cq.length)->da.get 6=some (.I line)->da.get 7=some (.I fr)->da.get 8=some (.I i)->da.get 9=some (.P H.next)->da.get 11=some (.I n1)->∃j,j<s.length-(i+n)/\J j ⟨da,244,H2,[],false⟩:=by
          intro hnc da q0 q3 q5 q6 q7 q8 q9 Bl;refine⟨s.length-(i+n1),om,?_⟩;rw[hJ];refine⟨n1,om,om,rfl,?_,rfl,rfl,rfl,rfl,q0,q3,q5,q6,q7,q8,q9,Bl⟩;intro p hp;by_cases hpn:p+3<n
          ·exact tf p hpn
          ·have:p+3=n:=by omega
           rintro⟨h42,h47⟩
           rw[<-HT,show i+(p+2)=km from om,hy]at h42;rw[<-HT,show i+(p+1+2)=kn from om,hx]at h47;injection h42 with h42;injection h47 with h47;exact hnc ⟨om,h47,h42⟩
         by_cases h3:3<=n
         ·have h3I:(3:Int)<=(n:Int):=om;by_cases Xv:x=47
          ·by_cases aby:y=42
           ·subst Xv aby;have By:((kn:Int)==(s.length:Int))=false:=(by rw[aH];omega);simp[r0,r3,r5,r6,r7,r8,r9,jq,E0,wkm,Qw,yD,td,PY,Xu,hx,uG,hy,hy2,h3,h3I,By];refine Xt ⟨?_,?_⟩ h3 yD _ (fun _ h=>h) _ (by simp[r0]) (by simp[r3]) (by simp[r5]) (by simp[r6]) (by simp[r7]) (by simp[r8]) (by simp[jq]) sp
            ·rw[<-HT,show i+(n-3+2)=km by omega];exact hy
            ·rw[<-HT,show i+(n-3+1+2)=kn by omega];exact hx
           ·have qy:((y.toNat:Int)==42)=false:=by
             rw[aH];intro e;apply aby;apply eh;have:(42:UInt8).toNat=42:=rfl;omega
            subst Xv;simp[r0,r3,r5,r6,r7,r8,r9,jq,E0,wkm,Qw,yD,td,PY,Xu,hx,uG,hy,hy2,h3,h3I,qy];exact again (fun e=>aby e.2.2) _ (by simp[r0]) (by simp[r3]) (by simp[r5]) (by simp[r6]) (by simp[r7]) (by simp[r8]) (by simp[r9]) sp
          ·have qx:((x.toNat:Int)==47)=false:=by
            rw[aH];intro e;apply Xv;apply eh;have:(47:UInt8).toNat=47:=rfl;omega
           simp[r0,r3,r5,r6,r7,r8,r9,jq,E0,wkm,Qw,yD,td,PY,Xu,hx,uG,hy,hy2,h3,h3I,qx];exact again (fun e=>Xv e.2.1) _ (by simp[r0]) (by simp[r3]) (by simp[r5]) (by simp[r6]) (by simp[r7]) (by simp[r8]) (by simp[r9]) sp
         ·have h3I:¬(3:Int)<=(n:Int):=om;simp[r0,r3,r5,r6,r7,r8,r9,jq,E0,wkm,Qw,yD,td,PY,Xu,hx,uG,hy,hy2,h3,h3I];exact again (fun e=>h3 e.1) _ (by simp[r0]) (by simp[r3]) (by simp[r5]) (by simp[r6]) (by simp[r7]) (by simp[r8]) (by simp[r9]) sp
        ·have td:¬(kn:Int)<(s.length:Int):=om;have By:((kn:Int)==(s.length:Int))=true:=(by rw[qC];omega);simp[r0,r3,r5,r6,r7,r8,r9,jq,E0,yD,td,By];refine Dd ?_;simp[r3,r5,r9,gp,Xr];refine dm ?_;exact⟨_,_,_,3,rfl,kT,sp⟩
       |false=>
        have abx:d≠42:=fun e=>by subst e;simp at qe
        have TY:iU (c.toNat:Int)=false:=(by subst Bq;decide);have TZ:gk (c.toNat:Int)=false:=(by subst Bq;decide);have KO:jD (c::d::r2)=(0,true):=by
         have e1:Lib.hasPrefix (c::d::r2) [47,47]=false:=(by simp[Lib.hasPrefix,List.isPrefixOf,Bq];exact fun e=>abu e.symm);have e2:Lib.hasPrefix (c::d::r2) [47,42]=false:=(by simp[Lib.hasPrefix,List.isPrefixOf,Bq];exact fun e=>abx e.symm);simp only[jD,e1,e2,az ZC];simp
        have fI:iU (c.toNat:Int)=false:=TY;have BX:gk (c.toNat:Int)=false:=TZ;simp[r0,r3,r5,r6,r7,r8,cX,fW,hc,zp,w1,w2,q32,q9,q13,UJ,Zk,wi1,ID,T5,HY,NV,qd,qe];generalize ((H.alloc (.C [.I 0,.I 0])).2.set H.next (.C [.I line,.I ((i:Int)-fr+1)]))=Hc at*;refine(pI _ _).mono fun out h2 hq=>?_;obtain⟨rfl,rfl⟩:=hq;simp[fI];refine(lR _ _).mono fun out h3 hq=>?_;obtain⟨rfl,rfl⟩:=hq;have hle:(i:Int)<=(s.length:Int):=om;simp[BX,r0,r3,r5,r6,r7,r8,hle,hi,hr];refine(HK c _ _ (by have:=Ie;(try simp only[ai,bz]at this⊢);omega)).mono fun out h4 hq=>?_;obtain⟨rfl,km⟩:=hq;have T3:H.next<h3.next:=ltp;have JE:=(km.old H.next T3).trans gp;have Zl:=(km.old h.next om).trans Xr;have ar4:oR h4 b cq:=(km.old b Zj).trans Zi;have K4:=Kc.trans km;have n4:=km.next;obtain⟨cr,Gf⟩:∃cr,cr=c::d::r2:=⟨_,rfl⟩
        have En:pc cr=if 0<jc cr then some ⟨4,cr.take (jc cr).toNat,0⟩else none:=by
         have yJ:lY (c.toNat:Int)=false:=(by simp[lY,fI,BX]);have B5:eG cr=0:=(by rw[Gf];simp[eG,yJ]);rw[Gf]at B5⊢;simp only[pc,fI,B5];simp
        rw[<-Gf]at KO hr⊢;have UF:=xd cr;have PY:cr.length+i=s.length:=(by rw[Gf];simp at Ie⊢;omega);by_cases Xl:0<jc cr
        ·rw[aW Xl]at En;obtain⟨tx,B8⟩:∃tx,tx=cr.take (jc cr).toNat:=⟨_,rfl⟩
         rw[<-B8]at En⊢;have Aj:(tx.length:Int)=jc cr:=(by rw[B8,cI];omega);have jX:(tx==[])=false:=by
          rw[aH];intro e;rw[e]at Aj;simp at Aj;omega
         have yh:cr.take tx.length=tx:=by
          rw[B8,cI,j4 om]
         simp[-aO,r0,r3,r5,r6,r7,r8,jX,JE];have K5:aS h4 (h4.alloc (.cells true 5 [.I 4,.str tx,.I 0,.I line,.I ((i:Int)-fr+1)])).2:=kT;obtain⟨h6,ha,n6,EZ,k6⟩:=Bp (w:=⟨4,tx,0,line,(i:Int)-fr+1⟩) (j:=h4.next) (show oR (h4.alloc (.cells true 5 [.I 4,.str tx,.I 0,.I line,.I ((i:Int)-fr+1)])).2 b cq from(K5.old b om).trans ar4) om (by simp[Wo.cells]) ((K4.trans K5).fresh Zh);simp[-aO]at ha n6 EZ;simp[-aO,r0,r3,r5,r6,r7,r8,ha];have k6n:=k6.next;have K6:aS h h6:=(aQ.trans' (X:=[]) ((K4.trans K5).x []) k6 (by intro z hz cX;simp at hz;omega)).aJ;have MF:=(k6.old h.next (by simp;omega) (by simp;omega)).trans ((K5.old h.next om).trans Zl);exact fin _ (fun _ h=>h) tx.length h6 (h4.next+1) [⟨4,tx,0,line,(i:Int)-fr+1⟩] _ om om (fun eK hx=>by
          rw[hr]at hx⊢;rw[yh]at hx;exact .word (by rw[Gf];simp) KO En hx) (by simp;omega) K6 MF EZ om om (by simp[r0]) (by simp[r3]) sp (by simp[r6]) (by simp[r7]) (by simp[r8]) sp sp
        ·have HS:(jc cr).toNat=0:=om;rw[HS]
         try simp[r0,r3,r5,r6,r7,r8]
         refine Dd ?_;simp[r3,r5,JE,Zl];refine dm ?_;exact⟨_,_,_,3,rfl,kT,sp⟩
    |false=>
     have Bq:c≠47:=fun e=>by subst e;simp at Zk
     have KO:jD (c::r)=(0,true):=by
      have e1:Lib.hasPrefix (c::r) [47,47]=false:=(by simp[Lib.hasPrefix,List.isPrefixOf];intro e;exact absurd e.symm Bq);have e2:Lib.hasPrefix (c::r) [47,42]=false:=(by simp[Lib.hasPrefix,List.isPrefixOf];intro e;exact absurd e.symm Bq);simp only[jD,e1,e2,az ZC];simp
     cases UK:lY (c.toNat:Int)with
     |false=>
      have TY:iU (c.toNat:Int)=false:=by
       unfold lY at UK;rw[gV]at UK;exact UK.1
      have TZ:gk (c.toNat:Int)=false:=by
       unfold lY at UK;rw[gV]at UK;exact UK.2
      have fI:iU (c.toNat:Int)=false:=TY;have BX:gk (c.toNat:Int)=false:=TZ;simp[r0,r3,r5,r6,r7,r8,cX,fW,hc,zp,w1,w2,q32,q9,q13,UJ,Zk];generalize ((H.alloc (.C [.I 0,.I 0])).2.set H.next (.C [.I line,.I ((i:Int)-fr+1)]))=Hc at*;refine(pI _ _).mono fun out h2 hq=>?_;obtain⟨rfl,rfl⟩:=hq;simp[fI];refine(lR _ _).mono fun out h3 hq=>?_;obtain⟨rfl,rfl⟩:=hq;have hle:(i:Int)<=(s.length:Int):=om;simp[BX,r0,r3,r5,r6,r7,r8,hle,hi,hr];refine(HK c _ _ (by have:=Ie;(try simp only[ai,bz]at this⊢);omega)).mono fun out h4 hq=>?_;obtain⟨rfl,km⟩:=hq;have T3:H.next<h3.next:=ltp;have JE:=(km.old H.next T3).trans gp;have Zl:=(km.old h.next om).trans Xr;have ar4:oR h4 b cq:=(km.old b Zj).trans Zi;have K4:=Kc.trans km;have n4:=km.next;obtain⟨cr,Gf⟩:∃cr,cr=c::r:=⟨_,rfl⟩
      have En:pc cr=if 0<jc cr then some ⟨4,cr.take (jc cr).toNat,0⟩else none:=by
       have yJ:lY (c.toNat:Int)=false:=(by simp[lY,fI,BX]);have B5:eG cr=0:=(by rw[Gf];simp[eG,yJ]);rw[Gf]at B5⊢;simp only[pc,fI,B5];simp
      rw[<-Gf]at KO hr⊢;have UF:=xd cr;have PY:cr.length+i=s.length:=(by rw[Gf];simp at Ie⊢;omega);by_cases Xl:0<jc cr
      ·rw[aW Xl]at En;obtain⟨tx,B8⟩:∃tx,tx=cr.take (jc cr).toNat:=⟨_,rfl⟩
       rw[<-B8]at En⊢;have Aj:(tx.length:Int)=jc cr:=(by rw[B8,cI];omega);have jX:(tx==[])=false:=by
        rw[aH];intro e;rw[e]at Aj;simp at Aj;omega
       have yh:cr.take tx.length=tx:=by
        rw[B8,cI,j4 om]
       simp[-aO,r0,r3,r5,r6,r7,r8,jX,JE];have K5:aS h4 (h4.alloc (.cells true 5 [.I 4,.str tx,.I 0,.I line,.I ((i:Int)-fr+1)])).2:=kT;obtain⟨h6,ha,n6,EZ,k6⟩:=Bp (w:=⟨4,tx,0,line,(i:Int)-fr+1⟩) (j:=h4.next) (show oR (h4.alloc (.cells true 5 [.I 4,.str tx,.I 0,.I line,.I ((i:Int)-fr+1)])).2 b cq from(K5.old b om).trans ar4) om (by simp[Wo.cells]) ((K4.trans K5).fresh Zh);simp[-aO]at ha n6 EZ;simp[-aO,r0,r3,r5,r6,r7,r8,ha];have k6n:=k6.next;have K6:aS h h6:=(aQ.trans' (X:=[]) ((K4.trans K5).x []) k6 (by intro z hz cX;simp at hz;omega)).aJ;have MF:=(k6.old h.next (by simp;omega) (by simp;omega)).trans ((K5.old h.next om).trans Zl);exact fin _ (fun _ h=>h) tx.length h6 (h4.next+1) [⟨4,tx,0,line,(i:Int)-fr+1⟩] _ om om (fun eK hx=>by
        rw[hr]at hx⊢;rw[yh]at hx;exact .word (by rw[Gf];simp) KO En hx) (by simp;omega) K6 MF EZ om om (by simp[r0]) (by simp[r3]) sp (by simp[r6]) (by simp[r7]) (by simp[r8]) sp sp
      ·have HS:(jc cr).toNat=0:=om;rw[HS]
       try simp[r0,r3,r5,r6,r7,r8]
       refine Dd ?_;simp[r3,r5,JE,Zl];refine dm ?_;exact⟨_,_,_,3,rfl,kT,sp⟩
     |true=>
      simp[r0,r3,r5,r6,r7,r8,cX,fW,hc,zp,w1,w2,q32,q9,q13,UJ,Zk];generalize ((H.alloc (.C [.I 0,.I 0])).2.set H.next (.C [.I line,.I ((i:Int)-fr+1)]))=Hc at*;have Lg:1<=eG (c::r):=(by simp[eG,UK]);have By:=Dy (c::r);cases fI:iU (c.toNat:Int)with
      |true=>
       refine(pI _ _).mono fun out h2 hq=>?_;obtain⟨rfl,rfl⟩:=hq;simp[fI];obtain⟨J,hJ⟩:∃J:Nat->St->Prop,J=(fun m x=>∃n,1<=n/\n<=eG (c::r)/\m=eG (c::r)-n/\x.n=244/\x.ds=[]/\x.bI=false/\x.h=h2/\x.rg.get 0=some (.str s)/\x.rg.get 3=some (.P h.next)/\x.rg.get 5=some (.S b cq.length)/\x.rg.get 6=some (.I line)/\x.rg.get 7=some (.I fr)/\x.rg.get 8=some (.I i)/\x.rg.get 9=some (.P H.next)/\x.rg.get 10=some (.int .u8 c.toNat)/\x.rg.get 11=some (.I (n:Nat))):=⟨_,rfl⟩
       refine bW J (eG (c::r)-1) (by
        rw[hJ];exact⟨1,om,Lg,rfl,rfl,rfl,rfl,rfl,by simp[r0],by simp[r3],by simp[r5],by simp[r6],by simp[r7],by simp[r8],sp,sp,sp⟩) ?_
       clear r0 r3 r5 r6 r7 r8 rg;intro m st rC;have lQ:=rC;rw[hJ]at lQ;obtain⟨rg,n',H2,ds,bI⟩:=st;obtain⟨n,agE,tA,rfl,e1,e2,e3,e4,r0,r3,r5,r6,r7,r8,r9,qp,jq⟩:=lQ;clear rC;dsimp only at e1 e2 e3 e4 r0 r3 r5 r6 r7 r8 r9 qp jq;subst e1 e2 e3 e4;have zo:(c::r).length=s.length-i:=(by rw[<-hr,bU]);obtain⟨kn,Nn⟩:∃kn,kn=i+n:=⟨_,rfl⟩
       have E0:IntKind.wrap .i64 ((i:Int)+(n:Int))=(kn:Int):=(by rw[wr om om];omega);obtain⟨n1,abv⟩:∃n1,n1=n+1:=⟨_,rfl⟩
       have Qw:IntKind.wrap .i64 ((n:Int)+1)=(n1:Int):=(by rw[wr om om];omega);apply Ze (E:=env) (n:=244) (h:=H2) (P:=fun da:T AV=>da.get 0=some (.str s)/\da.get 3=some (.P h.next)/\da.get 5=some (.S b cq.length)/\da.get 6=some (.I line)/\da.get 7=some (.I fr)/\da.get 8=some (.I i)/\da.get 9=some (.P H.next)/\da.get 10=some (.int .u8 c.toNat)/\da.get 11=some (.I (eG (c::r):Nat)))
       case hm=>
        intro tail;rcases yR tA with⟨OF,ho⟩|⟨EY,x,hx,E1⟩
        ·rcases ho with ho|⟨x,hx,E1⟩
         ·have XG:¬kn<s.length:=om;have abz:¬(kn:Int)<(s.length:Int):=om;simp[r0,r3,r5,r6,r7,r8,r9,qp,jq,E0,XG,abz];exact tail _ ⟨by simp[r0],by simp[r3],by simp[r5],by simp[r6],by simp[r7],by simp[r8],by simp[r9],by simp[qp],by rw[<-OF];simp[jq]⟩
         ·rw[<-Xs n,<-Nn]at hx;have yD:kn<s.length:=by
           rcases eW kn s.length with h1|h1
           ·exact h1
           ·rw[fu h1]at hx;cases hx
          have td:(kn:Int)<(s.length:Int):=om;have uG:s[kn]=x:=(by rw[aj yD]at hx;injection hx);have Jm:iU (x.toNat:Int)=false:=(by unfold lY at E1;rw[gV]at E1;exact E1.1);have hdx:gk (x.toNat:Int)=false:=(by unfold lY at E1;rw[gV]at E1;exact E1.2);simp[r0,r3,r5,r6,r7,r8,r9,qp,jq,E0,yD,td,hx,uG];refine(pI _ _).mono fun out h7 hq=>?_;obtain⟨rfl,rfl⟩:=hq;simp[Jm,r0,r3,r5,r6,r7,r8,r9,qp,jq,E0,yD,td,hx,uG];refine(lR _ _).mono fun out h8 hq=>?_;obtain⟨rfl,rfl⟩:=hq;simp[hdx];exact tail _ ⟨by simp[r0],by simp[r3],by simp[r5],by simp[r6],by simp[r7],by simp[r8],by simp[r9],by simp[qp],by rw[<-OF];simp[jq]⟩
        ·rw[<-Xs n,<-Nn]at hx;have yD:kn<s.length:=by
          rcases eW kn s.length with h1|h1
          ·exact h1
          ·rw[fu h1]at hx;cases hx
         have td:(kn:Int)<(s.length:Int):=om;have uG:s[kn]=x:=(by rw[aj yD]at hx;injection hx);have again:∀da,da.get 0=some (.str s)->da.get 3=some (.P h.next)->da.get 5=some (.S b cq.length)->da.get 6=some (.I line)->da.get 7=some (.I fr)->da.get 8=some (.I i)->da.get 9=some (.P H.next)->da.get 10=some (.int .u8 c.toNat)->da.get 11=some (.I n1)->∃j,j<eG (c::r)-n/\J j ⟨da,244,H2,[],false⟩:=by
          intro da q0 q3 q5 q6 q7 q8 q9 UJ Bl;refine⟨eG (c::r)-n1,om,?_⟩;rw[hJ];exact⟨n1,om,om,rfl,rfl,rfl,rfl,rfl,q0,q3,q5,q6,q7,q8,q9,UJ,Bl⟩
         simp[r0,r3,r5,r6,r7,r8,r9,qp,jq,E0,yD,td,hx,uG];refine(pI _ _).mono fun out h7 hq=>?_;obtain⟨rfl,rfl⟩:=hq;cases Jm:iU (x.toNat:Int)with
         |true=>
          simp[Jm,r0,r3,r5,r6,r7,r8,r9,qp,jq,Qw];exact again _ (by simp[r0]) (by simp[r3]) (by simp[r5]) (by simp[r6]) (by simp[r7]) (by simp[r8]) (by simp[r9]) (by simp[qp]) sp
         |false=>
          have hdx:gk (x.toNat:Int)=true:=(by unfold lY at E1;rw[Jm]at E1;simpa using E1);simp[Jm,r0,r3,r5,r6,r7,r8,r9,qp,jq,E0,yD,td,hx,uG];refine(lR _ _).mono fun out h8 hq=>?_;obtain⟨rfl,rfl⟩:=hq;simp[hdx,r0,r3,r5,r6,r7,r8,r9,qp,jq,Qw];exact again _ (by simp[r0]) (by simp[r3]) (by simp[r5]) (by simp[r6]) (by simp[r7]) (by simp[r8]) (by simp[r9]) (by simp[qp]) sp
       case ht=>
        intro da hP;clear r0 r3 r5 r6 r7 r8 r9 qp jq;obtain⟨r0,r3,r5,r6,r7,r8,r9,qp,jq⟩:=hP;obtain⟨N,hN⟩:∃N,N=eG (c::r):=⟨_,rfl⟩
        rw[<-hN]at jq By Lg;obtain⟨kN,hkN⟩:∃kN,kN=i+N:=⟨_,rfl⟩
        have wkN:IntKind.wrap .i64 ((i:Int)+(N:Int))=(kN:Int):=(by rw[wr om om];omega);have zo:(c::r).length=s.length-i:=(by rw[<-hr,bU]);have b1:(kN:Int)<=(s.length:Int):=om;have Ij:kN<=s.length:=om;have b2:(i:Int)<=(kN:Int):=om;have b2':i<=kN:=om;obtain⟨tx,B8⟩:∃tx,tx=(c::r).take N:=⟨_,rfl⟩
        have Ug:(s.take kN).drop i=tx:=(by rw[B8,<-hr,List.drop_take];congr 1;omega);have Aj:tx.length=N:=(by rw[B8,cI];omega);have jX:tx≠[]:=(by intro e;rw[e]at Aj;simp at Aj;omega);have yh:(c::r).take tx.length=tx:=(by rw[Aj,B8]);refine Dd ?_;have fA:=Kc.fresh Zh (H2.next+8) om;simp[r0,r3,r5,r6,r7,r8,r9,qp,jq,wkN,b1,Ij,b2,b2',Ug,gp,fA];refine dm ?_;obtain⟨hT,T6⟩:∃hT,hT=(((H2.bump 10).set (H2.next+8) (.C [.I 0,.str [],.I 0,.I 0,.I 0])).set (H2.next+8) (.C [.I 1,.str tx,.I 0,.I line,.I ((i:Int)-fr+1)])):=⟨_,rfl⟩
        rw[<-T6];have kT:aS H2 hT:=(by rw[T6];exact kT);have gW:hT.get (H2.next+8)=some (.C [.I 1,.str tx,.I 0,.I line,.I ((i:Int)-fr+1)]):=(by rw[T6];simp);have nT:H2.next+8<hT.next:=(by rw[T6];simp);clear T6;have gpT:=(kT.old H.next ltp).trans gp;have c3T:=(kT.old h.next om).trans Xr;have arT:oR hT b cq:=(kT.old b Zj).trans Zi;have KT:=Kc.trans kT;have ljw:H.next<H2.next+8:=om;have ljh:h.next<H2.next+8:=om;have ljb:b<H2.next+8:=om;have aeh:b<hT.next:=om;generalize H2.next+8=jw at*;clear kT;have Hl:∀(QQ:bt->St->Prop),(∀cg,(∃j,j<s.length-i/\I j cg)->QQ .jL cg)->∀(k v:Int)(h6:ah)(b':Nat)(da:T AV),pc (c::r)=some ⟨k,tx,v⟩->aS h h6->h6.get h.next=some (.C [.I 0,.I 0])->oR h6 b' (cq++[⟨k,tx,v,line,(i:Int)-fr+1⟩])->h.next<b'->b'<h6.next->
         da.get 0=some (.str s)->da.get 3=some (.P h.next)->da.get 5=some (.S b' (cq.length+1))->da.get 6=some (.I line)->da.get 7=some (.I fr)->da.get 8=some (.I i)->da.get 11=some (.I N)->da.get 16=some (.I i)->
         bR env (wG (Qu ou)) (je (bR env (wG ou) QQ) QQ) ⟨da,244,h6,[],false⟩:=by
         intro QQ TV k v h6 b' da En K6 MF EZ lo6 lt6 q0 q3 q5 q6 q7 q8 Bl TW;refine fin QQ TV N h6 b' [⟨k,tx,v,line,(i:Int)-fr+1⟩] da om om (fun eK hx=>?_) (by simp;omega) K6 MF EZ lo6 lt6 q0 q3 (by simpa using q5) q6 q7 q8 Bl TW;rw[hr]at hx⊢;rw[<-B8,<-Aj]at hx;exact .word sp KO En hx
        clear fin;refine(lR _ _).mono fun out h9 hq=>?_;obtain⟨rfl,rfl⟩:=hq;have BX:gk (c.toNat:Int)=false:=by
         revert fI;simp only[iU,gk];by_cases u1:(48:Int)<=(c.toNat:Int)<;>by_cases u2:(c.toNat:Int)<=57<;>simp[u1,u2]<;>omega
        by_cases h40:N<=40
        ·have O3:¬(40:Int)<(N:Int):=om;have MG:¬40<N:=om;simp[BX,jq,O3,MG,gW];refine(ae9 _ _).mono fun out hK hq=>?_;obtain⟨rfl,kK⟩:=hq;have gWK:=(kK.old jw nT).trans gW;have c3K:=(kK.old h.next om).trans c3T;have arK:oR hK b cq:=(kK.old b aeh).trans arT;have KK:=KT.trans kK;have nK:=kK.next;have En:pc (c::r)=some ⟨if keys.contains tx=true then 3 else 1,tx,0⟩:=by
          simp only[pc,fI,lM,<-hN,<-B8,aW h40]
         cases US:keys.contains tx with
         |true=>
          rw[US]at En;simp[-aO,gWK,r5,jq];have KX:aS h (hK.set jw (.C [.I 3,.str tx,.I 0,.I line,.I ((i:Int)-fr+1)])):=kT;have arX:oR (hK.set jw (.C [.I 3,.str tx,.I 0,.I line,.I ((i:Int)-fr+1)])) b cq:=by
           unfold oR;rw[ah.aM,az om];exact arK
          have c3X:(hK.set jw (.C [.I 3,.str tx,.I 0,.I line,.I ((i:Int)-fr+1)])).get h.next=some (.C [.I 0,.I 0]):=by
           rw[ah.aM,az om];exact c3K
          have K5:aS (hK.set jw (.C [.I 3,.str tx,.I 0,.I line,.I ((i:Int)-fr+1)])) ((hK.set jw (.C [.I 3,.str tx,.I 0,.I line,.I ((i:Int)-fr+1)])).alloc (.cells true 5 [.I 3,.str tx,.I 0,.I line,.I ((i:Int)-fr+1)])).2:=(aS.refl _).alloc _;obtain⟨h6,ha,n6,EZ,k6⟩:=Bp (w:=⟨3,tx,0,line,(i:Int)-fr+1⟩) (j:=(hK.set jw (.C [.I 3,.str tx,.I 0,.I line,.I ((i:Int)-fr+1)])).next) (show oR ((hK.set jw (.C [.I 3,.str tx,.I 0,.I line,.I ((i:Int)-fr+1)])).alloc (.cells true 5 [.I 3,.str tx,.I 0,.I line,.I ((i:Int)-fr+1)])).2 b cq from(K5.old b (by first|omega|(simp;omega))).trans arX) om (by simp[Wo.cells]) ((KX.trans K5).fresh Zh);simp[-aO]at ha n6 EZ;simp[-aO,r0,r3,r5,r6,r7,r8,ha];have k6n:=k6.next;have K6:aS h h6:=(aQ.trans' (X:=[]) ((KX.trans K5).x []) k6 (by intro z hz cX;simp at hz;omega)).aJ;have MF:=(k6.old h.next (by first|omega|(simp;omega)) (by first|omega|(simp;omega))).trans ((K5.old h.next (by first|omega|(simp;omega))).trans c3X);exact Hl _ (fun _ h=>h) 3 0 h6 (hK.next+1) _ (by simpa using En) K6 MF EZ om om (by simp[r0]) (by simp[r3]) sp (by simp[r6]) (by simp[r7]) (by simp[r8]) (by simp[jq]) sp
         |false=>
          rw[US]at En;simp[-aO,gWK,r5,jq];have KX:aS h (hK):=kT;have arX:oR (hK) b cq:=by
           unfold oR;exact arK
          have c3X:(hK).get h.next=some (.C [.I 0,.I 0]):=by
           exact c3K
          have K5:aS (hK) ((hK).alloc (.cells true 5 [.I 1,.str tx,.I 0,.I line,.I ((i:Int)-fr+1)])).2:=(aS.refl _).alloc _;obtain⟨h6,ha,n6,EZ,k6⟩:=Bp (w:=⟨1,tx,0,line,(i:Int)-fr+1⟩) (j:=(hK).next) (show oR ((hK).alloc (.cells true 5 [.I 1,.str tx,.I 0,.I line,.I ((i:Int)-fr+1)])).2 b cq from(K5.old b (by first|omega|(simp;omega))).trans arX) om (by simp[Wo.cells]) ((KX.trans K5).fresh Zh);simp[-aO]at ha n6 EZ;simp[-aO,r0,r3,r5,r6,r7,r8,ha];have k6n:=k6.next;have K6:aS h h6:=(aQ.trans' (X:=[]) ((KX.trans K5).x []) k6 (by intro z hz cX;simp at hz;omega)).aJ;have MF:=(k6.old h.next (by first|omega|(simp;omega)) (by first|omega|(simp;omega))).trans ((K5.old h.next (by first|omega|(simp;omega))).trans c3X);exact Hl _ (fun _ h=>h) 1 0 h6 (hK.next+1) _ (by simpa using En) K6 MF EZ om om (by simp[r0]) (by simp[r3]) sp (by simp[r6]) (by simp[r7]) (by simp[r8]) (by simp[jq]) sp
        ·have O3:(40:Int)<(N:Int):=om;have MG:40<N:=om;simp[BX,jq,O3,MG];refine Dd ?_;simp[r3,r5,r9,gpT,c3T];refine dm ?_;exact⟨_,_,_,3,rfl,kT,sp⟩
      |false=>
       have BX:gk (c.toNat:Int)=true:=by
        unfold lY at UK;rw[fI]at UK;simpa using UK
       refine(pI _ _).mono fun out h2 hq=>?_;obtain⟨rfl,rfl⟩:=hq;simp[fI];refine(lR _ _).mono fun out h3 hq=>?_;obtain⟨rfl,rfl⟩:=hq;simp[BX];obtain⟨J,hJ⟩:∃J:Nat->St->Prop,J=(fun m x=>∃n,1<=n/\n<=eG (c::r)/\m=eG (c::r)-n/\x.n=244/\x.ds=[]/\x.bI=false/\x.h=h3/\x.rg.get 0=some (.str s)/\x.rg.get 3=some (.P h.next)/\x.rg.get 5=some (.S b cq.length)/\x.rg.get 6=some (.I line)/\x.rg.get 7=some (.I fr)/\x.rg.get 8=some (.I i)/\x.rg.get 9=some (.P H.next)/\x.rg.get 10=some (.int .u8 c.toNat)/\x.rg.get 11=some (.I (n:Nat))):=⟨_,rfl⟩
       refine bW J (eG (c::r)-1) (by
        rw[hJ];exact⟨1,om,Lg,rfl,rfl,rfl,rfl,rfl,by simp[r0],by simp[r3],by simp[r5],by simp[r6],by simp[r7],by simp[r8],sp,sp,sp⟩) ?_
       clear r0 r3 r5 r6 r7 r8 rg;intro m st rC;have lQ:=rC;rw[hJ]at lQ;obtain⟨rg,n',H2,ds,bI⟩:=st;obtain⟨n,agE,tA,rfl,e1,e2,e3,e4,r0,r3,r5,r6,r7,r8,r9,qp,jq⟩:=lQ;clear rC;dsimp only at e1 e2 e3 e4 r0 r3 r5 r6 r7 r8 r9 qp jq;subst e1 e2 e3 e4;have zo:(c::r).length=s.length-i:=(by rw[<-hr,bU]);obtain⟨kn,Nn⟩:∃kn,kn=i+n:=⟨_,rfl⟩
       have E0:IntKind.wrap .i64 ((i:Int)+(n:Int))=(kn:Int):=(by rw[wr om om];omega);obtain⟨n1,abv⟩:∃n1,n1=n+1:=⟨_,rfl⟩
       have Qw:IntKind.wrap .i64 ((n:Int)+1)=(n1:Int):=(by rw[wr om om];omega);apply Ze (E:=env) (n:=244) (h:=H2) (P:=fun da:T AV=>da.get 0=some (.str s)/\da.get 3=some (.P h.next)/\da.get 5=some (.S b cq.length)/\da.get 6=some (.I line)/\da.get 7=some (.I fr)/\da.get 8=some (.I i)/\da.get 9=some (.P H.next)/\da.get 10=some (.int .u8 c.toNat)/\da.get 11=some (.I (eG (c::r):Nat)))
       case hm=>
        intro tail;rcases yR tA with⟨OF,ho⟩|⟨EY,x,hx,E1⟩
        ·rcases ho with ho|⟨x,hx,E1⟩
         ·have XG:¬kn<s.length:=om;have abz:¬(kn:Int)<(s.length:Int):=om;simp[r0,r3,r5,r6,r7,r8,r9,qp,jq,E0,XG,abz];exact tail _ ⟨by simp[r0],by simp[r3],by simp[r5],by simp[r6],by simp[r7],by simp[r8],by simp[r9],by simp[qp],by rw[<-OF];simp[jq]⟩
         ·rw[<-Xs n,<-Nn]at hx;have yD:kn<s.length:=by
           rcases eW kn s.length with h1|h1
           ·exact h1
           ·rw[fu h1]at hx;cases hx
          have td:(kn:Int)<(s.length:Int):=om;have uG:s[kn]=x:=(by rw[aj yD]at hx;injection hx);have Jm:iU (x.toNat:Int)=false:=(by unfold lY at E1;rw[gV]at E1;exact E1.1);have hdx:gk (x.toNat:Int)=false:=(by unfold lY at E1;rw[gV]at E1;exact E1.2);simp[r0,r3,r5,r6,r7,r8,r9,qp,jq,E0,yD,td,hx,uG];refine(pI _ _).mono fun out h7 hq=>?_;obtain⟨rfl,rfl⟩:=hq;simp[Jm,r0,r3,r5,r6,r7,r8,r9,qp,jq,E0,yD,td,hx,uG];refine(lR _ _).mono fun out h8 hq=>?_;obtain⟨rfl,rfl⟩:=hq;simp[hdx];exact tail _ ⟨by simp[r0],by simp[r3],by simp[r5],by simp[r6],by simp[r7],by simp[r8],by simp[r9],by simp[qp],by rw[<-OF];simp[jq]⟩
        ·rw[<-Xs n,<-Nn]at hx;have yD:kn<s.length:=by
          rcases eW kn s.length with h1|h1
          ·exact h1
          ·rw[fu h1]at hx;cases hx
         have td:(kn:Int)<(s.length:Int):=om;have uG:s[kn]=x:=(by rw[aj yD]at hx;injection hx);have again:∀da,da.get 0=some (.str s)->da.get 3=some (.P h.next)->da.get 5=some (.S b cq.length)->da.get 6=some (.I line)->da.get 7=some (.I fr)->da.get 8=some (.I i)->da.get 9=some (.P H.next)->da.get 10=some (.int .u8 c.toNat)->da.get 11=some (.I n1)->∃j,j<eG (c::r)-n/\J j ⟨da,244,H2,[],false⟩:=by
          intro da q0 q3 q5 q6 q7 q8 q9 UJ Bl;refine⟨eG (c::r)-n1,om,?_⟩;rw[hJ];exact⟨n1,om,om,rfl,rfl,rfl,rfl,rfl,q0,q3,q5,q6,q7,q8,q9,UJ,Bl⟩
         simp[r0,r3,r5,r6,r7,r8,r9,qp,jq,E0,yD,td,hx,uG];refine(pI _ _).mono fun out h7 hq=>?_;obtain⟨rfl,rfl⟩:=hq;cases Jm:iU (x.toNat:Int)with
         |true=>
          simp[Jm,r0,r3,r5,r6,r7,r8,r9,qp,jq,Qw];exact again _ (by simp[r0]) (by simp[r3]) (by simp[r5]) (by simp[r6]) (by simp[r7]) (by simp[r8]) (by simp[r9]) (by simp[qp]) sp
         |false=>
          have hdx:gk (x.toNat:Int)=true:=(by unfold lY at E1;rw[Jm]at E1;simpa using E1);simp[Jm,r0,r3,r5,r6,r7,r8,r9,qp,jq,E0,yD,td,hx,uG];refine(lR _ _).mono fun out h8 hq=>?_;obtain⟨rfl,rfl⟩:=hq;simp[hdx,r0,r3,r5,r6,r7,r8,r9,qp,jq,Qw];exact again _ (by simp[r0]) (by simp[r3]) (by simp[r5]) (by simp[r6]) (by simp[r7]) (by simp[r8]) (by simp[r9]) (by simp[qp]) sp
       case ht=>
        intro da hP;clear r0 r3 r5 r6 r7 r8 r9 qp jq;obtain⟨r0,r3,r5,r6,r7,r8,r9,qp,jq⟩:=hP;obtain⟨N,hN⟩:∃N,N=eG (c::r):=⟨_,rfl⟩
        rw[<-hN]at jq By Lg;obtain⟨kN,hkN⟩:∃kN,kN=i+N:=⟨_,rfl⟩
        have wkN:IntKind.wrap .i64 ((i:Int)+(N:Int))=(kN:Int):=(by rw[wr om om];omega);have zo:(c::r).length=s.length-i:=(by rw[<-hr,bU]);have b1:(kN:Int)<=(s.length:Int):=om;have Ij:kN<=s.length:=om;have b2:(i:Int)<=(kN:Int):=om;have b2':i<=kN:=om;obtain⟨tx,B8⟩:∃tx,tx=(c::r).take N:=⟨_,rfl⟩
        have Ug:(s.take kN).drop i=tx:=(by rw[B8,<-hr,List.drop_take];congr 1;omega);have Aj:tx.length=N:=(by rw[B8,cI];omega);have jX:tx≠[]:=(by intro e;rw[e]at Aj;simp at Aj;omega);have yh:(c::r).take tx.length=tx:=(by rw[Aj,B8]);refine Dd ?_;have fA:=Kc.fresh Zh (H2.next+8) om;simp[r0,r3,r5,r6,r7,r8,r9,qp,jq,wkN,b1,Ij,b2,b2',Ug,gp,fA];refine dm ?_;obtain⟨hT,T6⟩:∃hT,hT=(((H2.bump 10).set (H2.next+8) (.C [.I 0,.str [],.I 0,.I 0,.I 0])).set (H2.next+8) (.C [.I 1,.str tx,.I 0,.I line,.I ((i:Int)-fr+1)])):=⟨_,rfl⟩
        rw[<-T6];have kT:aS H2 hT:=(by rw[T6];exact kT);have gW:hT.get (H2.next+8)=some (.C [.I 1,.str tx,.I 0,.I line,.I ((i:Int)-fr+1)]):=(by rw[T6];simp);have nT:H2.next+8<hT.next:=(by rw[T6];simp);clear T6;have gpT:=(kT.old H.next ltp).trans gp;have c3T:=(kT.old h.next om).trans Xr;have arT:oR hT b cq:=(kT.old b Zj).trans Zi;have KT:=Kc.trans kT;have ljw:H.next<H2.next+8:=om;have ljh:h.next<H2.next+8:=om;have ljb:b<H2.next+8:=om;have aeh:b<hT.next:=om;generalize H2.next+8=jw at*;clear kT;have Hl:∀(QQ:bt->St->Prop),(∀cg,(∃j,j<s.length-i/\I j cg)->QQ .jL cg)->∀(k v:Int)(h6:ah)(b':Nat)(da:T AV),pc (c::r)=some ⟨k,tx,v⟩->aS h h6->h6.get h.next=some (.C [.I 0,.I 0])->oR h6 b' (cq++[⟨k,tx,v,line,(i:Int)-fr+1⟩])->h.next<b'->b'<h6.next->
         da.get 0=some (.str s)->da.get 3=some (.P h.next)->da.get 5=some (.S b' (cq.length+1))->da.get 6=some (.I line)->da.get 7=some (.I fr)->da.get 8=some (.I i)->da.get 11=some (.I N)->da.get 16=some (.I i)->
         bR env (wG (Qu ou)) (je (bR env (wG ou) QQ) QQ) ⟨da,244,h6,[],false⟩:=by
         intro QQ TV k v h6 b' da En K6 MF EZ lo6 lt6 q0 q3 q5 q6 q7 q8 Bl TW;refine fin QQ TV N h6 b' [⟨k,tx,v,line,(i:Int)-fr+1⟩] da om om (fun eK hx=>?_) (by simp;omega) K6 MF EZ lo6 lt6 q0 q3 (by simpa using q5) q6 q7 q8 Bl TW;rw[hr]at hx⊢;rw[<-B8,<-Aj]at hx;exact .word sp KO En hx
        clear fin;refine(lR _ _).mono fun out h9 hq=>?_;obtain⟨rfl,rfl⟩:=hq;simp[BX,gW];refine(TR tx _ jX om).mono fun out h7 hq=>?_;obtain⟨⟨v,ok,rfl,gJ⟩,rfl⟩:=hq;cases ok with
        |false=>
         simp;refine Dd ?_;simp[r3,r5,r9,gpT,c3T];refine dm ?_;exact⟨_,_,_,3,rfl,kT,sp⟩
        |true=>
         have abc:=gJ rfl;have En:pc (c::r)=some ⟨2,tx,v⟩:=by
          simp only[pc,fI,<-hN,<-B8,abc];simp;omega
         simp[-aO,gW,r5,jq];have KX:aS h ((h7.set jw (.C [.I 2,.str tx,.I 0,.I line,.I ((i:Int)-fr+1)])).set jw (.C [.I 2,.str tx,.I v,.I line,.I ((i:Int)-fr+1)])):=kT;have arX:oR ((h7.set jw (.C [.I 2,.str tx,.I 0,.I line,.I ((i:Int)-fr+1)])).set jw (.C [.I 2,.str tx,.I v,.I line,.I ((i:Int)-fr+1)])) b cq:=by
          unfold oR;rw[ah.aM,az om,ah.aM,az om];exact arT
         have c3X:((h7.set jw (.C [.I 2,.str tx,.I 0,.I line,.I ((i:Int)-fr+1)])).set jw (.C [.I 2,.str tx,.I v,.I line,.I ((i:Int)-fr+1)])).get h.next=some (.C [.I 0,.I 0]):=by
          rw[ah.aM,az om,ah.aM,az om];exact c3T
         have K5:aS ((h7.set jw (.C [.I 2,.str tx,.I 0,.I line,.I ((i:Int)-fr+1)])).set jw (.C [.I 2,.str tx,.I v,.I line,.I ((i:Int)-fr+1)])) (((h7.set jw (.C [.I 2,.str tx,.I 0,.I line,.I ((i:Int)-fr+1)])).set jw (.C [.I 2,.str tx,.I v,.I line,.I ((i:Int)-fr+1)])).alloc (.cells true 5 [.I 2,.str tx,.I v,.I line,.I ((i:Int)-fr+1)])).2:=(aS.refl _).alloc _;obtain⟨h6,ha,n6,EZ,k6⟩:=Bp (w:=⟨2,tx,v,line,(i:Int)-fr+1⟩) (j:=((h7.set jw (.C [.I 2,.str tx,.I 0,.I line,.I ((i:Int)-fr+1)])).set jw (.C [.I 2,.str tx,.I v,.I line,.I ((i:Int)-fr+1)])).next) (show oR (((h7.set jw (.C [.I 2,.str tx,.I 0,.I line,.I ((i:Int)-fr+1)])).set jw (.C [.I 2,.str tx,.I v,.I line,.I ((i:Int)-fr+1)])).alloc (.cells true 5 [.I 2,.str tx,.I v,.I line,.I ((i:Int)-fr+1)])).2 b cq from(K5.old b (by first|omega|(simp;omega))).trans arX) om (by simp[Wo.cells]) ((KX.trans K5).fresh Zh);simp[-aO]at ha n6 EZ;simp[-aO,r0,r3,r5,r6,r7,r8,ha];have k6n:=k6.next;have K6:aS h h6:=(aQ.trans' (X:=[]) ((KX.trans K5).x []) k6 (by intro z hz cX;simp at hz;omega)).aJ;have MF:=(k6.old h.next (by first|omega|(simp;omega)) (by first|omega|(simp;omega))).trans ((K5.old h.next (by first|omega|(simp;omega))).trans c3X);exact Hl _ (fun _ h=>h) 2 v h6 (h7.next+1) _ (by simpa using En) K6 MF EZ om om (by simp[r0]) (by simp[r3]) sp (by simp[r6]) (by simp[r7]) (by simp[r8]) (by simp[jq]) sp
  ·have np:i=s.length:=om;subst np;have hx:=lex [] (by rw[eQ];exact .nil _ _);rw[gZ]at hx;simp[r0,r3,r5,r6,r7,r8,c3];have nn:=K.next;refine⟨_,_,_,0,rfl,kT,fun _=>⟨cq,b,hx,rfl,?_,lo,lt⟩⟩;unfold oR;rw[ah.aM,az om];exact ar
 ·have qU:(65536:Int)<(s.length:Int):=by omega
  simp[qU];exact⟨_,_,_,2,rfl,kT,sp⟩
end
end Go.Proofs.YtgebeldoibkkpaaGreatDoor
