/- Lemmas for CheckTurns; each states its own conditions. -/
import Derived.Test.YtaekaifihehgdaaGreatDoorF
set_option maxRecDepth 100000
set_option maxHeartbeats 0
set_option linter.unusedSimpArgs false
set_option linter.unusedVariables false
namespace Go.Proofs.YtaekaifihehgdaaGreatDoor
open Go.Am Tryz
theorem Un:env.fn 178=some f178:=kr
theorem Uo:env.ed 141=Option.none:=by unfold env;rfl
theorem Up:env.fn 141=some f141:=kr
theorem Uq:env.ed 143=Option.none:=by unfold env;rfl
theorem Ur:env.fn 143=some f143:=kr
theorem Us:env.ext 178=some iW:=by unfold env;rfl
theorem idx_eq(s:bu)(c:UInt8):JC c s 0=Lib.indexByte s c:=by
 rw[DQ];split
 ·rename_i e;rw[e]
 ·simp
theorem Kf(h:ah)(s:bu)(c:UInt8):ba env 141 [.str s,.int .u8 c.toNat] h (λout h'=>out= .ret (.I (Lib.indexByte s c))/\h'=h):=by
 refine ba.body Uo Up rfl (et rfl) ?_;simp[f141,Un,f178,Us,iW,idx_eq]
theorem Eu(h:ah)(s:bu)(c:UInt8):ba env 143 [.str s,.str [c]] h (λout h'=>out= .ret (.I (Lib.indexByte s c))/\h'=h):=by
 refine ba.body Uq Ur rfl (et rfl) ?_;cases a:(([c]:bu)==s)with
 |true=>
  have:s=[c]:=by simpa using(ju.1 a).symm
  subst this;simp[f143,Lib.indexByte]
 |false=>
  simp[f143,a];refine(Kf h s c).m1 λh' b=>?_;subst b;simp
theorem yK:∀(s:bu)(c:UInt8),0<=Lib.indexByte s c->∃k:Nat,Lib.indexByte s c=k/\k<s.length
 |[],c,h=>by simp[Lib.indexByte]at h
 |x::s,c,h=>by
  simp only[Lib.indexByte]at h⊢;by_cases a:x=c
  ·exact⟨0,by simp[a]⟩
  ·by_cases b:0<=Lib.indexByte s c
   ·obtain⟨k,e,f⟩:=yK s c b;exact⟨k+1,by simp[a,e],IN⟩
   ·have:=Lib.indexByte_ge s c;have:Lib.indexByte s c= -1:=om;simp[a,this]at h
def oL(s:List UInt8):List UInt8×List UInt8×Bool:=
 if 0<=Lib.indexByte s 91 then(s.take (Lib.indexByte s 91).toNat,s.drop ((Lib.indexByte s 91).toNat+1),true)else(s,[],false)
theorem HH(h:ah)(s:bu)(p:s.length<=1000000):ba env 195 [.str s,.str [91]] h (λout h'=>out= .ret (.iO [.str (oL s).1,.str (oL s).2.1,.bool (oL s).2.2])/\aJ h h'):=by
 refine wb fn195 rfl ?_;simp[f195];refine(Eu h s 91).m1 λh' i=>?_;subst i;by_cases hi:0<=Lib.indexByte s 91
 ·obtain⟨k,e,j⟩:=yK s 91 hi;have a:oL s=(s.take k,s.drop (k+1),true):=by unfold oL;rw[aY hi,e];simp
  rw[a,e];have g:=U8 k
  obtain⟨k1,b⟩:∃x,x=k+1:=⟨_,rfl⟩
  rw[<-b]at g⊢;have m:(k:Int)<=(s.length:Int):=by omega
  have o:(k1:Int)<=(s.length:Int):=by omega
  simp;refine Dd ?_;simp[g,m,o]
  try refine dm ?_
  try exact kT
 ·have a:oL s=(s,[],false):=by unfold oL;rw[ay hi]
  rw[a];simp[hi]
  try exact kT
theorem Ti(h:ah)(s:bu)(a:s.length<=1000000):ba env 163 [.str s,.str [91]] h (λout h'=>out= .ret (.iO [.str (oL s).1,.str (oL s).2.1,.bool (oL s).2.2])/\aJ h h'):=by
 refine wb fn163 rfl ?_;simp[f163];refine(HH h s a).m1 λh' k=>?_;simp;exact k
def Ev:List UInt8:=[97,98,99,100,101,102,103,104,105,106,107,108,109,110,111,112,113,114,115,116,117,118,119,120,121,122,65,66,67,68,69,70,71,72,73,74,75,76,77,78,79,80,81,82,83,84,85,86,87,88,89,90,95]
def digits:List UInt8:=[48,49,50,51,52,53,54,55,56,57]
def gn:List UInt8->Bool
 |[]=>false
 |c::s=>decide (((s.length+1:Nat):Int)<=40)&&(decide (0<=Lib.indexByte Ev c)&&(Lib.trimS (c::s) (Ev++digits)==[]))
theorem xP(h:ah)(s:bu)(j:s.length<=1000000):ba env 95 [.str s] h (λout h'=>out= .ret (.bool (gn s))/\h'=h):=by
 refine wb fn95 rfl ?_;cases s with
 |nil=>simp[f95,gn]
 |cons c s=>
  simp only[ai]at j;by_cases b:(s.length:Int)+1<=40
  ·have i:(1:Int)<=(s.length:Int)+1:=om;simp[f95,b,i];refine ba.ed pr107 By ?_;by_cases hi:0<=Lib.indexByte Ev c
   ·have a:0<=Lib.indexByte [97,98,99,100,101,102,103,104,105,106,107,108,109,110,111,112,113,114,115,116,117,118,119,120,121,122,65,66,67,68,69,70,71,72,73,74,75,76,77,78,79,80,81,82,83,84,85,86,87,88,89,90,95] c:=hi;simp[a];refine ba.ed pr126 (vJ (by simp only[ai];omega) dc dc) ?_;obtain⟨tr,e⟩:∃x,x=Lib.trimS (c::s) [97,98,99,100,101,102,103,104,105,106,107,108,109,110,111,112,113,114,115,116,117,118,119,120,121,122,65,66,67,68,69,70,71,72,73,74,75,76,77,78,79,80,81,82,83,84,85,86,87,88,89,90,95,48,49,50,51,52,53,54,55,56,57]:=⟨_,rfl⟩
    have m:gn (c::s)=(tr==[]):=by
     rw[e];simp only[gn];have d1:decide (((s.length+1:Nat):Int)<=40)=true:=IN;rw[d1,decide_eq_true hi];rfl
    rw[<-e,m];cases g:(tr==[])with
    |true=>simp[g]
    |false=>simp[g]
   ·have a:¬0<=Lib.indexByte [97,98,99,100,101,102,103,104,105,106,107,108,109,110,111,112,113,114,115,116,117,118,119,120,121,122,65,66,67,68,69,70,71,72,73,74,75,76,77,78,79,80,81,82,83,84,85,86,87,88,89,90,95] c:=hi;simp[a];simp only[gn,decide_eq_false hi];simp
  ·have i:(1:Int)<=(s.length:Int)+1:=om;simp[f95,b,i,gn]
theorem Ut{E:Env}{P:T AV->ah->Prop}{n:Nat}{f:FuncId}{args:eu}{G:Prop}(ops:Array Oper)(rest:List Oper)(a:bT->St->Prop)(d:Option Tmp)(hm:(∀cC h',P cC h'->ba E f args h' (uQ E ops rest a d cC n [] false))->G)(ht:∀cC h',P cC h'->ba E f args h' (uQ E ops rest a d cC n [] false)):G:=hm ht
structure Fm where
 base:List UInt8
 name:List UInt8
 iY:Int
 arr:Bool
 many:Int
def Fm.av(f:Fm):AV:= .agg [.str f.base,.str f.name,.I f.iY,.bool f.arr,.I f.many]
def Fm.zero:Fm:=⟨[],[],0,false,0⟩
def uW(d:List UInt8):Int:=match Lib.atoiAll d with
 | .ok v=>if 65536<v then 65537 else v
 |_=>65537
def gk:List UInt8:=[115,116,114,117,99,116]
def iN:List UInt8:=[115,116,114,117,99,116,32]
def sQ:List UInt8:=[99,104,97,114]
def Ap:List UInt8:=[105,110,116]
def vZ:List UInt8:=[108,111,110,103]
def HI:List UInt8:=[118,111,105,100]
def Ew(a:List UInt8):Option Int:=
 if Lib.hasSuffix a [93]=true then match Lib.trimSuffix a [93]with
  |[]=>none
  |c::ds=>if c=48 then none else if Lib.trimS (c::ds) digits=[]then some (uW (c::ds))else none
 else none
def xr(s:List UInt8):Option (Bool×Int):=
 if(oL s).2.2=true then(Ew (oL s).2.1).map λn=>(true,n)else some (false,0)
def jT(rest:List UInt8)(arr:Bool)(many:Int):Fm×Bool:=
 let base:=Lib.trimRightB rest 42;let iY:Int:=(rest.length:Int)-(base.length:Int)
 if Lib.hasPrefix base iN=true then(⟨gk,Lib.trimPrefix base iN,iY,arr,many⟩,gn (Lib.trimPrefix base iN))
 else(⟨base,[],iY,arr,many⟩,base==sQ||(base==Ap||(base==vZ||(base==HI&&(decide (0<iY)||!arr)))))
def rd(s:List UInt8):Fm×Bool:=match xr s with
 |none=>(Fm.zero,false)
 |some (a,m)=>jT (oL s).1 a m
theorem BF(s:bu):(oL s).1.length<=s.length:=by
 unfold oL;split
 ·simp only[bR];omega
 ·exact ao _
theorem My(s:bu):(oL s).2.1.length<=s.length:=by
 unfold oL;split
 ·simp only[bK];omega
 ·simp
theorem sP(s:bu)(c:UInt8):(Lib.trimRightB s c).length<=s.length:=by
 unfold Lib.trimRightB;rw[List.length_reverse];have:=(List.dropWhile_suffix (λx=>x==c) (l:=s.reverse)).length_le;rw[List.length_reverse]at this;exact this
theorem Kg{d:bu}(a:∀v,Lib.atoiAll d≠ .ok v):uW d=65537:=by
 unfold uW;split
 ·rename_i v e;exact(a v e).elim
 ·rfl
theorem Kh{s p:bu}{h:ah}(a:s.length<=9223372036854775807):dP CK [.str s,.str p] h=some (.ret (.iO [.str (Lib.trimSuffix s p),.bool (Lib.hasSuffix s p)]),h):=by
 simp only[dP,CK,aY a]
theorem HJ{s:bu}{c:UInt8}{h:ah}(a:s.length<=9223372036854775807)(b:c.toNat<128):dP zk [.str s,.str [c]] h=some (.ret (.str (Lib.trimRightB s c)),h):=by
 simp only[dP,zk,aY (And.intro a b)]
theorem O5{s:bu}{h:ah}{T:TypeId}{v:Int}(a:s.length<=281474976710656)(b:Lib.atoiAll s= .ok v):nP T [.str s] h=some (.ret (.iO [.I v,.nilIface]),h):=by
 simp only[nP,aY a,b]
theorem Mz{s:bu}{h:ah}{T:TypeId}(a:s.length<=281474976710656)(b:∀v,Lib.atoiAll s≠ .ok v):∃n,nP T [.str s] h=some (.ret (.iO [.I n,.iface T (.P h.nx)]),(h.alloc .dead).2):=by
 cases e:Lib.atoiAll s with
 |ok v=>exact(b v e).elim
 |range=>exact⟨Lib.atoiSat s,by simp only[nP,aY a,e]⟩
 |_=>exact⟨0,by simp only[nP,aY a,e]⟩
theorem Ey(h:ah)(s:bu)(hs:s.length<=1000000):ba env 127 [.str s] h (λout h'=>out= .ret (.iO [(rd s).1.av,.bool (rd s).2])/\aJ h h'):=by
 refine wb fn127 rfl ?_;simp[f127];have K0:=(aJ.refl h).alloc (.C [.str [],.str [],.I 0,.bool false,.I 0]);refine(Ti _ s hs).m1 λR k1=>?_;have K1:=K0.trans k1;have g1:R.get h.nx=some (.C [.str [],.str [],.I 0,.bool false,.I 0]):=(k1.old h.nx sp).trans sp;have n1:h.nx<R.nx:=by have:=k1.nx;simp at this;omega
 have c1:=BF s;have c2:=My s;obtain⟨rest,j⟩:∃x,x=(oL s).1:=⟨_,rfl⟩
 obtain⟨o,y⟩:∃x,x=(oL s).2.1:=⟨_,rfl⟩
 rw[<-j]at c1⊢;rw[<-y]at c2⊢;apply Ut (E:=env) (n:=103) (f:=166) (args:=[.str rest,.str [42]]) (P:=λcC h'=>cC.get 2=some (.P h.nx)/\cC.get 4=some (.str rest)/\aJ h h'/\h.nx<h'.nx/\∃a m,xr s=some (a,m)/\cC.get 6=some (.bool a)/\h'.get h.nx=some (.C [.str [],.str [],.I 0,.bool a,.I m]))
 case hm=>
  intro go;cases A:(oL s).2.2 with
  |false=>
   simp;refine go _ _ ⟨sp,sp,K1,n1,false,0,?_,sp,g1⟩;simp[xr,A]
  |true=>
   simp;refine ba.ed pr164 (Kh om) ?_;have w:xr s=(Ew o).map λn=>(true,n):=(by simp[xr,A,y]);have bad:Ew o=none->rd s=(Fm.zero,false):=λe=>by simp[rd,w,e]
   cases i:Lib.hasSuffix o [93]with
   |false=>
    rw[bad (by unfold Ew;rw[ay (by rw[i];decide)])];simp[g1,Fm.zero,Fm.av];exact kT
   |true=>
    cases K:Lib.trimSuffix o [93]with
    |nil=>
     rw[bad (by unfold Ew;rw[aY i,K])];simp[g1,Fm.zero,Fm.av];exact kT
    |cons c ds=>
     by_cases p:c=48
     ·have U:((c.toNat:Int)==48)=true:=(by rw[p];rfl);rw[bad (by unfold Ew;rw[aY i,K];simp[p])];simp[g1,U,Fm.zero,Fm.av];exact kT
     ·have U:((c.toNat:Int)==48)=false:=by
       rw[az];intro e;exact p (cY IN)
      have ld:(c::ds).length<=o.length:=by
       rw[<-K];unfold Lib.trimSuffix;rw[aY i,bR];omega
      simp[U];refine ba.ed pr126 (vJ om dc dc) ?_;obtain⟨tr,B⟩:∃x,x=Lib.trimS (c::ds) digits:=⟨_,rfl⟩
      have N:Lib.trimS (c::ds) [48,49,50,51,52,53,54,55,56,57]=tr:=B.symm;rw[N];by_cases g:tr=[]
      case neg=>
       have V:tr.isEmpty=false:=by cases tr with
        |nil=>exact(g rfl).elim
        |cons=>rfl
       rw[bad (by unfold Ew;rw[aY i,K];simp only[ay p,<-B,ay g])];simp[V,g1,Fm.zero,Fm.av];exact kT
      case pos=>
       have t:xr s=some (true,uW (c::ds)):=by
        rw[w];unfold Ew;rw[aY i,K];simp only[ay p,<-B,g,kh,np]
       rw[g];simp;by_cases J:∃v,Lib.atoiAll (c::ds)= .ok v
       ·obtain⟨v,J⟩:=J;refine ba.ed pr165 (O5 om J) ?_;by_cases S:65536<v
        ·simp[S,g1];refine go _ _ ⟨sp,sp,kT,by simp only[ah.set];omega,true,uW (c::ds),t,sp,?_⟩;simp[uW,J,S]
        ·simp[S,g1];refine go _ _ ⟨sp,sp,kT,by simp only[ah.set];omega,true,uW (c::ds),t,sp,?_⟩;simp[uW,J,S]
       ·have O:∀v,Lib.atoiAll (c::ds)≠ .ok v:=λv e=>J ⟨v,e⟩;obtain⟨nn,hn⟩:=Mz (T:=289) (h:=R) (s:=c::ds) om O;refine ba.ed pr165 hn ?_;have Q:h.nx≠R.nx:=om;simp[g1,Q];refine go _ _ ⟨sp,sp,kT,by simp only[ah.set,ah.alloc];omega,true,uW (c::ds),t,sp,?_⟩;simp[Kg O]
 case ht=>
  intro rg h2 hP;obtain⟨u,r4,K2,n2,a,m,w,r6,g2⟩:=hP;have W:rd s=jT rest a m:=by simp[rd,w,j]
  rw[W];have tl:=sP rest 42;refine ba.ed pr166 (HJ om dc) ?_;obtain⟨base,b⟩:∃x,x=Lib.trimRightB rest 42:=⟨_,rfl⟩
  rw[<-b]at tl⊢;have w1:IntKind.wrap .i64 ((rest.length:Int)-(base.length:Int))=(rest.length:Int)-(base.length:Int):=wr om om;simp[u,r4,g2,w1];refine ba.ed pr145 yp ?_;cases C:Lib.hasPrefix base [115,116,114,117,99,116,32]with
  |true=>
   obtain⟨nm,D⟩:∃x,x=Lib.trimPrefix base [115,116,114,117,99,116,32]:=⟨_,rfl⟩
   have F:jT rest a m=(⟨gk,nm,(rest.length:Int)-base.length,a,m⟩,gn nm):=by
    unfold jT;simp only[<-b];rw[aY (show Lib.hasPrefix base iN=true from C),D];rfl
   rw[<-D,F];have A1:nm.length<=base.length:=by
    rw[D];unfold Lib.trimPrefix;rw[aY C,bK];omega
   simp[u];refine Dd ?_;simp[u];refine dm ?_;refine(xP _ nm om).m1 λh9 hq=>?_;subst hq;simp[u,Fm.av,gk];refine dm ?_;exact kT
  |false=>
   have F:jT rest a m=(⟨base,[],(rest.length:Int)-base.length,a,m⟩,base==sQ||(base==Ap||(base==vZ||(base==HI&&(decide (0<(rest.length:Int)-base.length)||!a))))):=by
    unfold jT;simp only[<-b];rw[ay (by rw[show Lib.hasPrefix base iN=false from C];decide)]
   rw[F];have q1:(base==sQ)=(base==[99,104,97,114]):=rfl;have q2:(base==Ap)=(base==[105,110,116]):=rfl;have q3:(base==vZ)=(base==[108,111,110,103]):=rfl;have q4:(base==HI)=(base==[118,111,105,100]):=rfl;simp only[q1,q2,q3,q4];cases e1:(base==[99,104,97,114])with
   |true=>
    simp[u,e1,Fm.av];exact kT
   |false=>
   cases e2:(base==[105,110,116])with
   |true=>
    simp[u,e1,e2,Fm.av];exact kT
   |false=>
   cases e3:(base==[108,111,110,103])with
   |true=>
    simp[u,e1,e2,e3,Fm.av];exact kT
   |false=>
   cases Z:(base==[118,111,105,100])with
   |false=>
    simp[u,e1,e2,e3,Z,Fm.av];exact kT
   |true=>
    by_cases A2:0<(rest.length:Int)-(base.length:Int)
    ·have I:base.length<rest.length:=om;simp[u,e1,e2,e3,Z,I,Fm.av];exact kT
    ·have I:¬base.length<rest.length:=om;cases a<;>simp[u,r6,e1,e2,e3,Z,I,Fm.av]<;>exact kT
structure Aj where
 name:List UInt8
 type:List UInt8
 off:Int
def Aj.cs(p:Aj):List AV:=[.str p.name,.str p.type,.I p.off]
def flat(ps:List Aj):List AV:=(ps.map Aj.cs).flatten
structure jV where
 name:List UInt8
 obj:Nat
 ps:List Aj
 size:Int
 align:Int
def jV.val(e:jV):AV:= .agg [.S e.obj e.ps.length,.I e.size,.I e.align]
def iH(l:List (List UInt8)):List (AV×AV):=l.map λs=>(.str s,.bool true)
def BV(l:List jV):List (AV×AV):=l.map λe=>(.str e.name,e.val)
structure rC(tb nm st:Nat)(h:ah)(names:List (List UInt8))(es:List jV):Prop where
 t:h.get tb=some (.C [.map (some nm),.map (some st)])
 n:h.get nm=some (.map (iH names))
 s:h.get st=some (.map (BV es))
 o:∀e∈es,h.get e.obj=some (.D 3 (flat e.ps))
 lt:tb<h.nx
 ln:nm<h.nx
 ls:st<h.nx
 lo:∀e∈es,e.obj<h.nx
 ne:nm≠st
theorem rC.aH{tb nm st:Nat}{h h':ah}{names:List (bu)}{es:List jV}(H:rC tb nm st h names es)(k:aJ h h'):rC tb nm st h' names es:=
 ⟨(
  k.old _ H.lt).trans H.t,(k.old _ H.ln).trans H.n,(k.old _ H.ls).trans H.s,λe he=>(k.old _ (H.lo e he)).trans (H.o e he),aq H.lt k.nx,aq H.ln k.nx,aq H.ls k.nx,
  λe he=>aq (H.lo e he) k.nx,H.ne⟩
theorem ic(h:ah)(a b:bu):mw h (.str a) (.str b)=some (a==b):=by
 simp[mw]
theorem rE(k:bu):∀(l:List (bu))(i:Nat),(k∉l/\∀H,eD H (.str k) (iH l) i=some Option.none)\/(k∈l/\∃j,(∀H,eD H (.str k) (iH l) i=some (some (i+j,.bool true)))/\l[j]?=some k)
 |[],i=> .inl ⟨sp,λH=>rfl⟩
 |s::l,i=>by
  by_cases h:k=s
  ·subst h;exact .inr ⟨sp,0,λH=>by simp only[iH,bL,eD,ic,beq_self_eq_true,mr],rfl⟩
  ·have e:(k==s)=false:=(U7 h);rcases rE k l (i+1)with⟨a,b⟩|⟨a,j,b,f⟩
   ·exact .inl ⟨by simp[h,a],λH=>by simp only[iH,bL,eD,ic,e];exact b H⟩
   ·exact .inr ⟨by simp[a],j+1,λH=>by simp only[iH,bL,eD,ic,e];rw[show i+(j+1)=i+1+j by omega];exact b H,U7 f⟩
def ij(k:List UInt8):List jV->Option jV
 |[]=>Option.none
 |e::es=>if e.name=k then some e else ij k es
theorem wN(k:bu):∀(l:List jV)(i:Nat),(ij k l=Option.none/\∀H,eD H (.str k) (BV l) i=some Option.none)\/(∃e,ij k l=some e/\∃j,∀H,eD H (.str k) (BV l) i=some (some (j,e.val)))
 |[],i=> .inl ⟨rfl,λH=>rfl⟩
 |s::l,i=>by
  by_cases h:s.name=k
  ·exact .inr ⟨s,by simp only[ij,h,kh],i,λH=>by simp only[BV,bL,eD,ic,h,beq_self_eq_true]⟩
  ·have f:(k==s.name)=false:=(by simpa using λe=>h e.symm);rcases wN k l (i+1)with⟨a,b⟩|⟨e,a,j,b⟩
   ·exact .inl ⟨by simp only[ij,h,eY,a],λH=>by simp only[BV,bL,eD,ic,f];exact b H⟩
   ·exact .inr ⟨e,by simp only[ij,h,eY,a],j,λH=>by simp only[BV,bL,eD,ic,f];exact b H⟩
def qM(names:List (List UInt8))(es:List jV)(f:Fm):Int×Int×Int:=
 if f.base=gk/\f.name∉names then(0,0,5)
 else if 0<f.iY then(8,8,0)
 else if f.base=sQ then(1,1,0)
 else if f.base=Ap then(4,4,0)
 else if f.base=vZ then(8,8,0)
 else if f.base=gk then match ij f.name es with
  |none=>(0,0,5)
  |some e=>(e.size,e.align,0)
 else(0,0,5)
def zr(x:Int×Int×Int):Out:= .ret (.iO [.I x.1,.I x.2.1,.I x.2.2])
theorem Dh(h:ah)(tb nm st:Nat)(names:List (bu))(es:List jV)(f:Fm)(m:rC tb nm st h names es)(fr:bP h):
 ba env 128 [.P tb,f.av] h (λout h'=>out=zr (qM names es f)/\aJ h h'):=by
 refine wb fn128 rfl ?_;have o:tb≠h.nx:=by have:=m.lt;omega
 have v:nm≠h.nx:=by have:=m.ln;omega
 have A:st≠h.nx:=by have:=m.ls;omega
 have gt:=m.t;have i:=m.n;have gs:=m.s;simp[f128,Fm.av];refine Dd ?_;have B:(f.base==gk)=(f.base==[115,116,114,117,99,116]):=rfl;by_cases g:f.base=gk
 ·have a:(f.base==[115,116,114,117,99,116])=true:=by rw[<-B];simpa using g
  rcases rE f.name names 0 with⟨p,u⟩|⟨p,j,u,D⟩
  ·have hm:qM names es f=(0,0,5):=(by unfold qM;rw[aY ⟨g,p⟩]);rw[hm];simp[a,gt,i,o,v,u];exact⟨rfl,kT⟩
  ·have e1:(f.base==[99,104,97,114])=false:=(by rw[g];rfl);have e2:(f.base==[105,110,116])=false:=(by rw[g];rfl);have e3:(f.base==[108,111,110,103])=false:=(by rw[g];rfl);have c1:f.base≠sQ:=(by rw[g];decide);have c2:f.base≠Ap:=(by rw[g];decide);have c3:f.base≠vZ:=(by rw[g];decide);by_cases b:0<f.iY
   ·have hm:qM names es f=(8,8,0):=(by unfold qM;rw[ay (λe=>e.2 p),aY b]);rw[hm];simp[a,gt,i,o,v,u,b];exact⟨rfl,kT⟩
   ·simp[a,gt,i,o,v,u,b,e1,e2,e3];refine Dd ?_;have C:=fr (h.nx+25) om;rcases wN f.name es 0 with⟨w,y⟩|⟨e,w,F,y⟩
    ·have hm:qM names es f=(0,0,5):=by
      unfold qM;rw[ay (λe=>e.2 p),ay b,ay c1,ay c2,ay c3,aY g,w]
     rw[hm];simp[gt,gs,o,A,y,C];refine dl ?_;exact⟨rfl,kT⟩
    ·have hm:qM names es f=(e.size,e.align,0):=by
      unfold qM;rw[ay (λe=>e.2 p),ay b,ay c1,ay c2,ay c3,aY g,w]
     rw[hm];simp[gt,gs,o,A,y,jV.val,C];refine dl ?_;refine Dd ?_;simp;exact⟨rfl,kT⟩
 ·have a:(f.base==[115,116,114,117,99,116])=false:=by rw[<-B];simpa using g
  have m0:¬(f.base=gk/\f.name∉names):=λe=>g e.1;by_cases b:0<f.iY
  ·have hm:qM names es f=(8,8,0):=(by unfold qM;rw[ay m0,aY b]);rw[hm];simp[a,b];exact⟨rfl,kT⟩
  ·cases e1:(f.base==[99,104,97,114])with
   |true=>
    have hm:qM names es f=(1,1,0):=(by unfold qM;rw[ay m0,ay b,aY (show f.base=sQ from ju.1 e1)]);rw[hm];simp[a,b,e1];exact⟨rfl,kT⟩
   |false=>
   have c1:f.base≠sQ:=(by intro e;rw[e]at e1;simp[sQ]at e1);cases e2:(f.base==[105,110,116])with
   |true=>
    have hm:qM names es f=(4,4,0):=(by unfold qM;rw[ay m0,ay b,ay c1,aY (show f.base=Ap from ju.1 e2)]);rw[hm];simp[a,b,e1,e2];exact⟨rfl,kT⟩
   |false=>
   have c2:f.base≠Ap:=(by intro e;rw[e]at e2;simp[Ap]at e2);cases e3:(f.base==[108,111,110,103])with
   |true=>
    have hm:qM names es f=(8,8,0):=(by unfold qM;rw[ay m0,ay b,ay c1,ay c2,aY (show f.base=vZ from ju.1 e3)]);rw[hm];simp[a,b,e1,e2,e3];exact⟨rfl,kT⟩
   |false=>
    have c3:f.base≠vZ:=(by intro e;rw[e]at e3;simp[vZ]at e3);have hm:qM names es f=(0,0,5):=(by unfold qM;rw[ay m0,ay b,ay c1,ay c2,ay c3,ay g]);rw[hm];simp[a,b,e1,e2,e3];exact⟨rfl,kT⟩
theorem wa:∀(l:bu)(acc u:Nat),Lib.parseUint10 acc l= .ok u->acc<=u
 |[],acc,u,h=>by
  simp only[Lib.parseUint10]at h;injection h with h;omega
 |c::r,acc,u,h=>by
  simp only[Lib.parseUint10]at h;split at h
  ·split at h
   ·cases h
   ·split at h
    ·cases h
    ·have:=wa r _ u h;omega
  ·cases h
theorem Ki{c:UInt8}{ds cs:bu}(h:Lib.trimS (c::ds) cs=[]):cs.contains c=true:=by
 cases a:cs.contains c with
 |true=>rfl
 |false=>
  exfalso;unfold Lib.trimS Lib.trimLeftS Lib.trimRightS at h;rw[ki,List.dropWhile_append]at h;split at h
  ·simp only[List.dropWhile_cons,a,List.dropWhile_nil,dN,eY,ki,List.reverse_nil,aX]at h;cases h
  ·simp only[List.reverse_append,ki,List.reverse_nil,aX,aI,List.dropWhile_cons,a,dN,eY]at h;cases h
theorem MA{c:UInt8}{ds:bu}(b:c≠48)(h:Lib.trimS (c::ds) digits=[]):1<=uW (c::ds)/\uW (c::ds)<=65537:=by
 have f:=Ki h;have hr:49<=c.toNat/\c.toNat<=57:=by
  have h0:c.toNat≠48:=λe=>b (cY (by rw[e];rfl));simp only[digits,dQ,ak,bm,cT]at f;rcases f with e|e|e|e|e|e|e|e|e|e<;>subst e<;>first|(exact⟨dc,dc⟩)|exact absurd rfl b
 unfold uW;split
 ·rename_i v a;have i:1<=v:=by
   simp only[Lib.atoiAll]at a;rw[ay om]at a;split at a
   ·cases a
   ·cases a
   ·rename_i u hu;have g:1<=u:=by
     simp only[Lib.parseMag,List.cons_ne_nil,eY,Lib.parseUint10]at hu;rw[aY om,ay om,ay om]at hu;have:=wa _ _ _ hu;omega
    split at a
    ·cases a
    ·split at a
     ·cases a
     ·injection a with a;rw[ay om]at a;omega
  split<;>omega
 ·omega
theorem I8{s:bu}(b:(rd s).1.arr=true):1<=(rd s).1.many/\(rd s).1.many<=65537:=by
 cases hr:xr s with
 |none=>simp only[rd,hr]at b;cases b
 |some p=>
  obtain⟨a,m⟩:=p;simp only[rd,hr]at b⊢;have f:(jT (oL s).1 a m).1.arr=a/\(jT (oL s).1 a m).1.many=m:=by
   unfold jT;dsimp only;split<;>exact⟨rfl,rfl⟩
  rw[f.1]at b;rw[f.2];subst b;unfold xr at hr;split at hr
  ·unfold Ew at hr;split at hr
   ·split at hr
    ·cases hr
    ·rename_i c ds _;split at hr
     ·cases hr
     ·rename_i e;split at hr
      ·rename_i ht;simp only[Option.map]at hr;injection hr with hr;injection hr with _ hr;subst hr;exact MA e ht
      ·cases hr
   ·cases hr
  ·injection hr with hr;injection hr with hr _;cases hr
def oA(names:List (List UInt8))(es:List jV)(s:List UInt8):Int×Int×Int:=
 if(rd s).2=true then
  if(qM names es (rd s).1).2.2=0 then
   if(rd s).1.arr=true then
    if Int.tdiv 65536 (qM names es (rd s).1).1<(rd s).1.many then(0,0,2)
    else((qM names es (rd s).1).1*(rd s).1.many,(qM names es (rd s).1).2.1,0)
   else((qM names es (rd s).1).1,(qM names es (rd s).1).2.1,0)
  else(0,0,(qM names es (rd s).1).2.2)
 else(0,0,5)
def Fits(es:List jV):Prop:=∀e∈es,1<=e.size/\e.size<=65536/\(e.align=1\/e.align=4\/e.align=8)/\e.size%e.align=0
theorem qK{k:bu}:∀{es:List jV}{e:jV},ij k es=some e->e∈es/\e.name=k
 |[],e,h=>by cases h
 |x::es,e,h=>by
  simp only[ij]at h;split at h
  ·rename_i a;injection h with h;subst h;exact⟨sp,a⟩
  ·have:=qK h;exact⟨by simp[this.1],this.2⟩
theorem Gn{names:List (bu)}{es:List jV}{f:Fm}(a:Fits es)(h0:(qM names es f).2.2=0):
 1<=(qM names es f).1/\(qM names es f).1<=65536/\((qM names es f).2.1=1\/(qM names es f).2.1=4\/(qM names es f).2.1=8)/\(qM names es f).1%(qM names es f).2.1=0:=by
 unfold qM at h0⊢;split
 ·rename_i h;rw[aY h]at h0;cases h0
 ·rename_i h;rw[ay h]at h0;split
  ·exact⟨dc,dc,.inr (.inr rfl),rfl⟩
  ·rename_i h;rw[ay h]at h0;split
   ·exact⟨dc,dc,.inl rfl,rfl⟩
   ·rename_i h;rw[ay h]at h0;split
    ·exact⟨dc,dc,.inr (.inl rfl),rfl⟩
    ·rename_i h;rw[ay h]at h0;split
     ·exact⟨dc,dc,.inr (.inr rfl),rfl⟩
     ·rename_i h;rw[ay h]at h0;split
      ·rename_i h;rw[aY h]at h0;split
       ·rename_i b;simp only[b]at h0;cases h0
       ·rename_i e he;exact a e (qK he).1
      ·rename_i h;rw[ay h]at h0;cases h0
theorem O6(names:List (bu))(es:List jV)(f:Fm):(qM names es f).2.2=0\/(qM names es f).2.2=5:=by
 unfold qM
 repeat' split
 all_goals first|exact .inl rfl|exact .inr rfl
theorem I9(names:List (bu))(es:List jV)(s:bu):(oA names es s).2.2=0\/(oA names es s).2.2=2\/(oA names es s).2.2=5:=by
 unfold oA;split
 ·split
  ·split
   ·split
    ·exact .inr (.inl rfl)
    ·exact .inl rfl
   ·exact .inl rfl
  ·rcases O6 names es (rd s).1 with e|e
   ·rename_i h;exact(h e).elim
   ·exact .inr (.inr e)
 ·exact .inr (.inr rfl)
theorem BH{names:List (bu)}{es:List jV}{s:bu}(f:Fits es)(h0:(oA names es s).2.2=0):
 1<=(oA names es s).1/\(oA names es s).1<=65536/\((oA names es s).2.1=1\/(oA names es s).2.1=4\/(oA names es s).2.1=8):=by
 unfold oA at h0⊢;split
 ·rename_i h;rw[aY h]at h0;split
  ·rename_i a;rw[aY a]at h0;obtain⟨a1,a2,a3,a4⟩:=Gn f a;split
   ·rename_i b;rw[aY b]at h0;have hm:=I8 b;split
    ·rename_i e;rw[aY e]at h0;cases h0
    ·rename_i e;refine⟨?_,?_,a3⟩
     ·have:=Int.mul_le_mul a1 hm.1 om om;omega
     ·have g:(rd s).1.many<=Int.tdiv 65536 (qM names es (rd s).1).1:=om;have i:=Int.mul_le_mul_of_nonneg_left g (show 0<=(qM names es (rd s).1).1 from om);rw[ez om]at i;have j:=Int.mul_ediv_self_le (x:=65536) (k:=(qM names es (rd s).1).1) om;omega
   ·exact⟨a1,a2,a3⟩
  ·rename_i a;rw[ay a]at h0;exact(a h0).elim
 ·rename_i h;rw[ay h]at h0;cases h0
theorem tdiv_le{a:Int}(b:1<=a):0<=Int.tdiv 65536 a/\Int.tdiv 65536 a<=65536:=by
 rw[ez dc];exact⟨Int.ediv_nonneg dc om,Int.ediv_le_self _ dc⟩
theorem MC{t:TypeId}{a:Int}(b:1<=a):cm (Go.binOp .quo t (.int .i64 65536) (.int .i64 a))=some (.I (Int.tdiv 65536 a)):=by
 have f:=tdiv_le b;have w:IntKind.wrap .i64 (Int.tdiv 65536 a)=Int.tdiv 65536 a:=wr om om;have e:¬a=0:=om
 simp[Go.binOp,Op.intDiv,cm,iF,pure,e];exact w
theorem D7(h:ah)(tb nm st:Nat)(names:List (bu))(es:List jV)(s:bu)(C:rC tb nm st h names es)(fr:bP h)(D:Fits es)(F:s.length<=1000000):
 ba env 97 [.P tb,.str s] h (λout h'=>out=zr (oA names es s)/\aJ h h'):=by
 refine wb fn97 rfl ?_;simp[f97];refine(Ey h s F).m1 λe k1=>?_;have T1:=C.aH k1;have O:=k1.nx;have f1:=k1.fresh fr;obtain⟨f,m⟩:∃x,x=(rd s).1:=⟨_,rfl⟩
 rw[<-m];have P:tb≠e.nx:=by have:=T1.lt;omega
 simp[Fm.av];cases j:(rd s).2 with
 |false=>
  have o:oA names es s=(0,0,5):=by unfold oA;simp[j]
  rw[o];simp;exact⟨rfl,kT⟩
 |true=>
  have t:aJ e ((e.alloc (.C [.str [],.str [],.I 0,.bool false,.I 0])).2.set e.nx (.C [.str f.base,.str f.name,.I f.iY,.bool f.arr,.I f.many])):=kT;simp;refine(Dh _ tb nm st names es f (T1.aH t) (t.fresh f1)).m1 λI k3=>?_;obtain⟨z,al,g,p⟩:∃z al g,qM names es f=(z,al,g):=⟨_,_,_,rfl⟩
  have i:I.get e.nx=some (.C [.str f.base,.str f.name,.I f.iY,.bool f.arr,.I f.many]):=(k3.old e.nx sp).trans sp;have J:=k3.nx;simp at J;have A:=k1.trans (t.trans k3);have a:oA names es s=if g=0 then(if f.arr=true then(if Int.tdiv 65536 z<f.many then(0,0,2)else(z*f.many,al,0))else(z,al,0))else(0,0,g):=by
   unfold oA;rw[aY j,<-m,p]
  rw[p];by_cases he:g=0
  ·subst he;rw[aY rfl]at a;have o:=Gn (f:=f) (names:=names) D (by rw[p]);rw[p]at o;cases u:f.arr with
   |false=>
    rw[u]at a i;simp at a;rw[a];simp[zr,i];exact A
   |true=>
    have v:=I8 (s:=s) (by rw[<-m];exact u);rw[<-m]at v;rw[u]at a i;simp only[kh]at a;have w:1<=z:=o.1;have B:=@MC 3 z w;simp[zr,i];refine Dd ?_;by_cases b:Int.tdiv 65536 z<f.many
    ·rw[aY b]at a;rw[a];simp[i,B,b];exact kT
    ·rw[ay b]at a;rw[a];simp[i,B,b];refine⟨wr ?_ ?_,kT⟩
     ·have:0<=z*f.many:=Int.mul_nonneg om om;omega
     ·rw[ez dc]at b;have K:z*f.many<=z*(65536/z):=Int.mul_le_mul_of_nonneg_left om om;have N:z*(65536/z)<=65536:=Int.mul_ediv_self_le om;omega
  ·rw[ay he]at a;rw[a];have y:(g !=0)=true:=(U7 he);simp[zr,y];exact A
def tP(s:List UInt8):Bool:=s==[99,104,97,114]||(s==[105,110,116]||s==[108,111,110,103])
theorem Gp(h:ah)(s:bu):ba env 200 [.str s] h (λout h'=>out= .ret (.bool (tP s))/\h'=h):=by
 refine wb fn200 rfl ?_;cases e1:(s==[99,104,97,114])<;>cases e2:(s==[105,110,116])<;>simp[f200,tP,e1,e2]
theorem jY(h:ah)(s:bu):ba env 56 [.str s] h (λout h'=>out= .ret (.bool (tP s))/\h'=h):=by
 refine wb fn56 rfl ?_;cases e1:(s==[99,104,97,114])<;>cases e2:(s==[105,110,116])<;>simp[f56,tP,e1,e2]
def tQ(a b:List UInt8):List UInt8×Bool:=if tP a=true/\tP b=true then(if(a==[108,111,110,103]||b==[108,111,110,103])=true then([108,111,110,103],true)else([105,110,116],true))else([],false)
theorem AP(h:ah)(a b:bu):ba env 169 [.str a,.str b] h (λout h'=>out= .ret (.iO [.str (tQ a b).1,.bool (tQ a b).2])/\h'=h):=by
 refine wb fn169 rfl ?_;simp[f169];refine(Gp h a).m1 λi e=>?_;subst e;cases g:tP a with
 |false=>simp[tQ,g]
 |true=>
  simp;refine(Gp i b).m1 λi e=>?_;subst e;cases j:tP b with
  |false=>simp[tQ,g,j]
  |true=>
   cases e1:(a==[108,111,110,103])<;>cases e2:(b==[108,111,110,103])<;>simp[tQ,g,j,e1,e2]
def vM(f:Fm):List UInt8:=(if f.name=[]then f.base else f.base++32::f.name)++(List.replicate f.iY.toNat [42]).flatten
def Kj(H:ah)(k:Nat)(fl:List UInt8):Prop:=dP D1 [.str [42],.I (k:Nat)] H=some (.ret (.str fl),H)
theorem Ja(h:ah)(f:Fm)(h0:0<=f.iY)(o:f.iY<=100000)(p:f.base.length<=1000000)(t:f.name.length<=1000000):ba env 201 [f.av] h (λout h'=>out= .ret (.str (vM f))/\aJ h h'):=by
 refine wb fn201 rfl ?_;obtain⟨k,e⟩:∃k:Nat,f.iY=k:=⟨f.iY.toNat,om⟩
 have g:((List.replicate k ([42]:bu)).flatten).length=k:=sp
 obtain⟨fl,a⟩:∃x,x=(List.replicate k ([42]:bu)).flatten:=⟨_,rfl⟩
 rw[<-a]at g;have rep:∀H,Kj H k fl:=λH=>by
  show dP D1 [.str [42],.I (k:Nat)] H=_;rw[a];simp[dP,D1];rw[aY om]
 by_cases b:f.name=[]
 ·have he:vM f=f.base++fl:=by unfold vM;rw[aY b,e,a];simp
  have l1:f.base.length+fl.length<=4611686018427387904:=by omega
  have i:f.base.length+k<=4611686018427387904:=by omega
  rw[he];simp[f201,Fm.av,b,e];refine ba.ed pr90 (rep _) ?_;simp[i,g];exact kT
 ·have j:f.name.isEmpty=false:=by
   cases m:f.name with
   |nil=>exact(b m).elim
   |cons=>rfl
  have he:vM f=(f.base++32::f.name)++fl:=by unfold vM;rw[ay b,e,a];simp
  have l0:1+f.name.length<=4611686018427387904:=by omega
  have l2:f.base.length+(f.name.length+1)<=4611686018427387904:=by omega
  have l3:f.base.length+(f.name.length+1+fl.length)<=4611686018427387904:=by omega
  have l5:f.base.length+(f.name.length+(1+k))<=4611686018427387904:=by omega
  rw[he];simp[f201,Fm.av,j,e,l0,l2];refine ba.ed pr90 (rep _) ?_;simp[l5,g];exact kT
theorem Ry(s:bu):0<=(rd s).1.iY/\(rd s).1.iY<=s.length/\(rd s).1.base.length<=s.length+6/\(rd s).1.name.length<=s.length:=by
 unfold rd;cases hr:xr s with
 |none=>simp[Fm.zero]
 |some p=>
  obtain⟨a,m⟩:=p;have c1:=BF s;have tl:=sP (oL s).1 42;simp only;unfold jT;simp only;split
  ·rename_i b;have e:(Lib.trimPrefix (Lib.trimRightB (oL s).1 42) iN).length<=(Lib.trimRightB (oL s).1 42).length:=by
    unfold Lib.trimPrefix;rw[aY b,bK];omega
   simp only[gk,ai,aW];omega
  ·simp only[aW];omega
def Iy(s:List UInt8):List UInt8×Bool:=
 if(rd s).2=false then([],false)else if(rd s).1.arr=true then(vM (rd s).1,true)
 else if 0<(rd s).1.iY then(vM ⟨(rd s).1.base,(rd s).1.name,(rd s).1.iY-1,(rd s).1.arr,(rd s).1.many⟩,true)else([],false)
theorem IE(h:ah)(s:bu)(t:s.length<=100000):ba env 173 [.str s] h (λout h'=>out= .ret (.iO [.str (Iy s).1,.bool (Iy s).2])/\aJ h h'):=by
 refine wb fn173 rfl ?_;simp[f173];refine(Ey h s om).m1 λe k1=>?_;have rl:=Ry s;have u:=k1.nx;have a:Iy s=Iy s:=rfl;unfold Iy at a⊢;clear a;obtain⟨f,g⟩:∃x,x=(rd s).1:=⟨_,rfl⟩
 rw[<-g]at rl⊢;simp[Fm.av];cases i:(rd s).2 with
 |false=>
  simp;exact kT
 |true=>
  simp;cases j:f.arr with
  |true=>
   simp;have b:=λH=>Ja H f om om om om;simp only[Fm.av,j]at b;refine(b _).m1 λm k3=>?_;simp;have o:aJ e ((e.alloc (.C [.str [],.str [],.I 0,.bool false,.I 0])).2.set e.nx (.C [.str f.base,.str f.name,.I f.iY,.bool true,.I f.many])):=kT;exact(k1.trans o).trans k3
  |false=>
   by_cases h0:0<f.iY
   ·have p:IntKind.wrap .i64 (f.iY-1)=f.iY-1:=wr om om;simp[h0,p];have b:=λH=>Ja H ⟨f.base,f.name,f.iY-1,false,f.many⟩ (by simp only;omega) (by simp only;omega) (by simp only;omega) (by simp only;omega);simp only[Fm.av]at b;refine(b _).m1 λm k3=>?_;simp;refine aJ.trans ?_ k3;exact kT
   ·simp[h0];exact kT
def GR(names:List (List UInt8))(es:List jV)(s:List UInt8):Bool:=
 if(rd s).2=false\/(rd s).1.arr=true\/((rd s).1.iY=0/\(rd s).1.base=gk)then false else(qM names es (rd s).1).2.2==0
theorem CP(h:ah)(tb nm st:Nat)(names:List (bu))(es:List jV)(s:bu)(m:rC tb nm st h names es)(fr:bP h)(o:s.length<=1000000):
 ba env 98 [.P tb,.str s] h (λout h'=>out= .ret (.bool (GR names es s))/\aJ h h'):=by
 refine wb fn98 rfl ?_;simp[f98];refine(Ey h s o).m1 λj k1=>?_;have T1:=m.aH k1;have w:=k1.nx;have f1:=k1.fresh fr;unfold GR;obtain⟨f,p⟩:∃x,x=(rd s).1:=⟨_,rfl⟩
 rw[<-p];simp[Fm.av];cases t:(rd s).2 with
 |false=>
  simp;exact kT
 |true=>
  cases u:f.arr with
  |true=>
   simp;exact kT
  |false=>
   have g:aJ j ((j.alloc (.C [.str [],.str [],.I 0,.bool false,.I 0])).2.set j.nx (.C [.str f.base,.str f.name,.I f.iY,.bool false,.I f.many])):=kT;have ms:=(Dh _ tb nm st names es f (T1.aH g) (g.fresh f1))
   simp only[Fm.av,u]at ms;cases h0:(f.iY==0)with
   |false=>
    have a:¬f.iY=0:=(U7 h0);simp[h0,a];refine ms.m1 λv k3=>?_;simp[zr];exact(k1.trans g).trans k3
   |true=>
    have a:f.iY=0:=(U7 h0);cases i:(f.base==[115,116,114,117,99,116])with
    |true=>
     have b:f.base=gk:=ju.1 i;simp[a,b,gk];exact kT
    |false=>
     have b:¬f.base=gk:=(by intro e;rw[e]at i;simp[gk]at i);simp[a,i,b];rw[a]at ms g;refine ms.m1 λv k3=>?_;simp[zr];exact(k1.trans g).trans k3
theorem wc:∀ps:List Aj,(flat ps).length=ps.length*3
 |[]=>rfl
 |p::ps=>by
  have:=wc ps;simp only[flat,bL,iK,aO,ai,Aj.cs,aW]at this⊢;omega
theorem Gr(a b:List Aj):flat (a++b)=flat a++flat b:=by simp[flat]
theorem Aq:∀ps:List Aj,(flat ps).all AV.scalar=true
 |[]=>rfl
 |p::ps=>by
  have:=Aq ps;simp only[flat,bL,iK,List.all_append,Aj.cs]at this⊢;simp[this,AV.scalar]
def yL(H:ah)(sl:AV)(ps:List Aj)(b:Nat):Prop:=
 (ps=[]/\sl= .Z)\/(∃a,sl= .S a ps.length/\H.get a=some (.D 3 (flat ps))/\b<=a/\a<H.nx)
abbrev zw:=List UInt8×List UInt8
def oC(fs:List zw):List AV:=(fs.map λf=>[.str f.1,.str f.2]).flatten
theorem uI:∀fs:List zw,(oC fs).length=fs.length*2
 |[]=>rfl
 |p::ps=>by
  have:=uI ps;simp only[oC,bL,iK,aO,ai,aW]at this⊢;omega
theorem Gs:∀(fs:List zw)(i:Nat)(f:zw),fs[i]?=some f->List.take 2 (List.drop (i*2) (oC fs))=[.str f.1,.str f.2]
 |[],i,f,h=>by simp at h
 |p::ps,0,f,h=>by
  simp only[cw,bj]at h;subst h;simp[oC]
 |p::ps,i+1,f,h=>by
  have:=Gs ps i f (U7 h);rw[show(i+1)*2=i*2+1+1 by omega];simpa[oC]using this
structure JY where
 met:List (List UInt8)
 ps:List Aj
 size:Int
 align:Int
 long:Bool
def tY(n a:Int):Int:=Int.tdiv (n+a-1) a*a
def il(names:List (List UInt8))(es:List jV)(s:JY)(f:zw):Option JY:=
 if f.1∈s.met then none
 else if gn f.1=true then
  if(oA names es f.2).2.2=5 then none
  else if s.long=true\/(oA names es f.2).2.2=2 then some {s with met:=s.met++[f.1],long:=true}
  else some ⟨s.met++[f.1],s.ps++[⟨f.1,f.2,tY s.size (oA names es f.2).2.1⟩],tY s.size (oA names es f.2).2.1+(oA names es f.2).1,max s.align (oA names es f.2).2.1,
   decide (65536<tY s.size (oA names es f.2).2.1+(oA names es f.2).1)⟩
 else none
def mR(names:List (List UInt8))(es:List jV):List zw->JY->Option JY
 |[],s=>some s
 |f::fs,s=>match il names es s f with
  |none=>none
  |some s'=>mR names es fs s'
def BN:JY:=⟨[],[],0,1,false⟩
inductive Tj where
 |bad (e:Int)
 |Ed (ps:List Aj) (size align:Int)
def rN(names:List (List UInt8))(es:List jV)(fs:List zw):Tj:=match mR names es fs BN with
 |none=> .bad 5
 |some s=>if s.long=true\/65536<tY s.size s.align then .bad 2 else .Ed s.ps (tY s.size s.align) s.align
structure Di(s:JY):Prop where
 lo:0<=s.size
 hi:s.size<=140000
 al:s.align=1\/s.align=4\/s.align=8
 sh:s.long=false->s.size<=65536
 ln:(s.ps.length:Int)<=s.size
theorem yM{n a:Int}(e:0<=n)(b:a=1\/a=4\/a=8):n<=tY n a/\tY n a<n+a/\tY n a%a=0:=by
 unfold tY;rcases b with rfl|rfl|rfl<;>(rw[ez om];omega)
theorem Dj:Di BN:=⟨dc,dc,.inl rfl,λ_=>dc,dc⟩
theorem yN{names:List (bu)}{es:List jV}{s s':JY}{f:zw}(j:Fits es)(a:Di s)(h:il names es s f=some s'):Di s':=by
 unfold il at h;split at h
 ·cases h
 ·split at h
  ·split at h
   ·cases h
   ·rename_i m;split at h
    ·injection h with h;subst h;exact⟨a.lo,a.hi,a.al,(λe=>by cases e),a.ln⟩
    ·rename_i g;have h0:(oA names es f.2).2.2=0:=by
      rcases I9 names es f.2 with e|e|e
      ·exact e
      ·exact(g (.inr e)).elim
      ·exact(m e).elim
     obtain⟨t,u,i⟩:=BH j h0;have b:s.long=false:=by
      cases e:s.long with
      |false=>rfl
      |true=>exact(g (.inl e)).elim
     have o:=a.sh b;obtain⟨v,w,y⟩:=yM a.lo i;have:=a.ln;have p:=a.lo;injection h with h;subst h;refine⟨by dsimp only;omega,by dsimp only;omega,?_,?_,?_⟩
     ·dsimp only;rcases a.al with e|e|e<;>rcases i with e'|e'|e'<;>rw[e,e']<;>decide
     ·dsimp only;intro e;have:=of_decide_eq_false e;omega
     ·simp only[aO,ai,aW,Int.natCast_add];omega
  ·cases h
theorem yL.mono{H G:ah}{sl:AV}{ps:List Aj}{b f:Nat}(m:yL H sl ps b)(o:f<=b)(p:H.nx<=G.nx)(t:∀j,b<=j->j<H.nx->G.get j=H.get j):yL G sl ps f:=by
 rcases m with⟨a,e⟩|⟨g,a,e,h,i⟩
 ·exact .inl ⟨a,e⟩
 ·exact .inr ⟨g,a,(t g h i).trans e,bh o h,aq i p⟩
theorem yL.scalar{H:ah}{sl:AV}{ps:List Aj}{b:Nat}(a:yL H sl ps b):AV.scalar sl=true/\sl.cells=[sl]:=by
 rcases a with⟨e,rfl⟩|⟨f,rfl,g,h,i⟩
 ·exact⟨rfl,rfl⟩
 ·exact⟨rfl,rfl⟩
theorem Dk{n a:Int}(e:0<=n)(f:n<=140000)(b:a=1\/a=4\/a=8):IntKind.wrap .i64 (n+a)=n+a/\IntKind.wrap .i64 (n+a-1)=n+a-1/\IntKind.wrap .i64 (Int.tdiv (n+a-1) a)=Int.tdiv (n+a-1) a/\IntKind.wrap .i64 (Int.tdiv (n+a-1) a*a)=tY n a:=by
 obtain⟨g,h,_⟩:=yM e b;refine⟨wr om om,wr om om,?_,?_⟩
 ·rw[ez om];rcases b with rfl|rfl|rfl<;>exact wr om om
 ·show IntKind.wrap .i64 (tY n a)=_;exact wr om om
structure Rz(h:ah)(tb o:Nat)(fs:List zw)(i:Nat)(s:JY)(x:St):Prop where
 n:x.n=110
 ds:x.ds=[]
 bX:x.bX=false
 r0:x.rg.get 0=some (.P tb)
 r4:x.rg.get 4=some (.P (h.nx+1))
 r6:x.rg.get 6=some (.map (some (h.nx+2)))
 r7:x.rg.get 7=some (.P (h.nx+3))
 r8:x.rg.get 8=some (.bool s.long)
 HK:x.rg.get 18=some (.S o fs.length)
 Gt:x.rg.get 19=some (.I fs.length)
 Gu:x.rg.get 20=some (.I i)
 c4:x.h.get (h.nx+1)=some (.C [.Z,.I 0,.I 0])
 c6:x.h.get (h.nx+2)=some (.map (iH s.met))
 c7:∃sl,x.h.get (h.nx+3)=some (.C [sl,.I s.size,.I s.align])/\yL x.h sl s.ps (h.nx+4)
 k:aJ h x.h
 nx:h.nx+4<=x.h.nx
def MD(h:ah)(r:Tj)(out:Out)(h':ah):Prop:=match r with
 | .bad e=>out= .ret (.iO [.agg [.Z,.I 0,.I 0],.I e])
 | .Ed ps size align=>∃sl,out= .ret (.iO [.agg [sl,.I size,.I align],.I 0])/\yL h' sl ps h.nx
theorem BL{t:TypeId}{a b:Int}(h0:0<=a)(g:a<=9223372036854775807)(h:1<=b):cm (Go.binOp .quo t (.int .i64 a) (.int .i64 b))=some (.I (Int.tdiv a b)):=by
 have f:¬b=0:=om
 have e:Int.tdiv a b=a/b:=ez h0;have i:0<=a/b:=Int.ediv_nonneg h0 om;have j:a/b<=a:=Int.ediv_le_self _ h0;have w:IntKind.wrap .i64 (Int.tdiv a b)=Int.tdiv a b:=by rw[e];exact wr om om
 simp[Go.binOp,Op.intDiv,cm,iF,pure,f];exact w
theorem yL.arr{H:ah}{sl:AV}{ps:List Aj}{b:Nat}(a:yL H sl ps b):cu [] H sl 3 ps.length (flat ps):=by
 rcases a with⟨rfl,rfl⟩|⟨e,f,g,h,i⟩
 ·exact .inl ⟨rfl,rfl,rfl⟩
 ·exact .inr ⟨e,f,sp,g⟩
theorem yL.push{H:ah}{sl:AV}{ps:List Aj}{b:Nat}(h:yL H sl ps b)(fr:bP H)(t:b<=H.nx)(o:ps.length<=300)(p:Aj):
 ∃a,aK env (H.alloc (.D 3 p.cs)).2 187 sl (.S H.nx 1)=some (.S (H.nx+1) (ps.length+1),a)/\a.nx=H.nx+2/\yL a (.S (H.nx+1) (ps.length+1)) (ps++[p]) b/\(∀i,i<b->a.get i=H.get i)/\bP a:=by
 have K:=(aJ.refl H).alloc (.D 3 p.cs);have a2:=h.arr.move (Move.k (X:=[]) fr K);obtain⟨a,j,nx,g7,m⟩:=oW (es:=2) (st:=187) (e:=230) rfl ty230.1 ty230.2.1 dc ty230.2.2.2 rfl a2 (wc ps) o H.nx p.cs rfl rfl sp (K.fresh fr);have f:(H.alloc (.D 3 p.cs)).2.nx=H.nx+1:=rfl
 rw[f]at j nx g7;refine⟨a,j,om,.inr ⟨H.nx+1,sp,?_,om,om⟩,λi hi=>?_,m.fresh (K.fresh fr)⟩
 ·rw[g7,Gr];simp[flat]
 ·have g:i∉aT sl:=by
   rcases h with⟨_,rfl⟩|⟨u,rfl,_,v,_⟩
   ·simp[aT]
   ·simp only[aT,aQ];omega
  rw[m.old i (by rw[f];omega) g,ah.cO,ay om]
theorem RA(h:ah)(tb nm st o:Nat)(names:List (bu))(es:List jV)(C3:bu)(fs:List zw)(C4:Bool)(Ot:Nat)(hT:rC tb nm st h names es)(hF:bP h)(hE:Fits es)
 (ho:h.get o=some (.cells C4 Ot (oC fs))) (lo:o<h.nx) (Q:∀f∈fs,f.1.length<=1000000/\f.2.length<=1000000) (F3:fs.length<=300):
 ba env 96 [.P tb,.agg [.str C3,.S o fs.length]] h (λout h'=>MD h (rN names es fs) out h'/\aJ h h'):=by
 refine wb fn96 rfl ?_;simp[f96];obtain⟨J,hJ⟩:∃J:Nat->St->Prop,J=(λm x=>∃i s,i<=fs.length/\m=fs.length-i/\Rz h tb o fs i s x/\Di s/\s.ps.length<=i/\mR names es (fs.drop i) s=mR names es fs BN):=⟨_,rfl⟩
 refine bz J fs.length ?_ ?_
 ·rw[hJ];exact⟨0,BN,bJ _,rfl,⟨rfl,rfl,rfl,sp,sp,sp,sp,by simp[BN],sp,sp,sp,sp,by simp[iH,BN],⟨.Z,by simp[BN],.inl ⟨rfl,rfl⟩⟩,kT,sp⟩,Dj,ao _,rfl⟩
 intro m x b;rw[hJ]at b;obtain⟨rg,n',H,ds,bX⟩:=x;obtain⟨i,s,hi,rfl,L,G,F4,g⟩:=b;obtain⟨e1,e2,e3,r0,r4,r6,r7,r8,HK,Gt,Gu,c4,c6,⟨sl,c7,t⟩,k,nx⟩:=L;dsimp only at e1 e2 e3 r0 r4 r6 r7 r8 HK Gt Gu c4 c6 c7 t k nx;subst e1 e2 e3;have TH:=hT.aH k;have oH:=(k.old o lo).trans ho;have F5:=TH.lt;obtain⟨g1,g2,g3,g4,g5⟩:=G;by_cases u:i<fs.length
 ·obtain⟨f,P⟩:∃f,fs[i]?=some f:=⟨_,aj u⟩
  have v:(i:Int)<(fs.length:Int):=by omega
  have R:f∈fs:=bg P;have hd:fs.drop i=f::fs.drop (i+1):=by
   rw[bs u];rw[aj u]at P;injection P with P;rw[P]
  have fa:=Gs fs i f P;have fl:=uI fs;have fb:i*2+2<=(oC fs).length:=by omega
  rw[hd]at g;have n0:h.nx≠H.nx/\h.nx+1≠H.nx/\h.nx+2≠H.nx/\h.nx+3≠H.nx/\tb≠H.nx:=by omega
  obtain⟨n1,n2,S,n4,n5⟩:=n0;have w:il names es s f=none->rN names es fs= .bad 5:=λe=>by
   unfold rN;rw[<-g];simp only[mR,e]
  rcases rE f.1 s.met 0 with⟨h1,h2⟩|⟨h1,j,h2,h3⟩
  ·simp[r6,HK,Gt,Gu,v,oH,fa,fb,S,c6,h2];refine(xP _ f.1 (Q f R).1).m1 λU V=>?_;subst V;cases W:gn f.1 with
   |false=>
    rw[w (by unfold il;rw[ay h1,ay (by rw[W];decide)])];simp[r4,n2,c4];exact⟨rfl,kT⟩
   |true=>
    simp[r0,r6,S,S.symm,c6,h2];have K6:aJ h (((H.alloc (.C [.str [],.str []])).2.set H.nx (.C [.str f.1,.str f.2])).set (h.nx+2) (.map (iH s.met++[(.str f.1,.bool true)]))):=kT;have Z:(((H.alloc (.C [.str [],.str []])).2.set H.nx (.C [.str f.1,.str f.2])).set (h.nx+2) (.map (iH s.met++[(.str f.1,.bool true)]))).get (h.nx+1)=some (.C [.Z,.I 0,.I 0]):=(by simp[n2,c4]);have A1:(((H.alloc (.C [.str [],.str []])).2.set H.nx (.C [.str f.1,.str f.2])).set (h.nx+2) (.map (iH s.met++[(.str f.1,.bool true)]))).get (h.nx+2)=some (.map (iH (s.met++[f.1]))):=(by simp[iH]);have A2:(((H.alloc (.C [.str [],.str []])).2.set H.nx (.C [.str f.1,.str f.2])).set (h.nx+2) (.map (iH s.met++[(.str f.1,.bool true)]))).get (h.nx+3)=some (.C [sl,.I s.size,.I s.align]):=(by simp[n4,c7]);have A3:(((H.alloc (.C [.str [],.str []])).2.set H.nx (.C [.str f.1,.str f.2])).set (h.nx+2) (.map (iH s.met++[(.str f.1,.bool true)]))).get H.nx=some (.C [.str f.1,.str f.2]):=(by simp[S.symm]);have A4:(((H.alloc (.C [.str [],.str []])).2.set H.nx (.C [.str f.1,.str f.2])).set (h.nx+2) (.map (iH s.met++[(.str f.1,.bool true)]))).nx=H.nx+1:=by simp
    have A5:yL (((H.alloc (.C [.str [],.str []])).2.set H.nx (.C [.str f.1,.str f.2])).set (h.nx+2) (.map (iH s.met++[(.str f.1,.bool true)]))) sl s.ps (h.nx+4):=t.mono (ao _) (by rw[A4];omega) (λj K D=>by
     rw[ah.aM,ay om,ah.aM,ay om,ah.cO,ay om])
    obtain⟨h6,Au⟩:∃x,x=(((H.alloc (.C [.str [],.str []])).2.set H.nx (.C [.str f.1,.str f.2])).set (h.nx+2) (.map (iH s.met++[(.str f.1,.bool true)]))):=⟨_,rfl⟩
    rw[<-Au]at K6 Z A1 A2 A3 A4 A5⊢;clear Au;refine(D7 h6 tb nm st names es f.2 (hT.aH K6) (K6.fresh hF) hE (Q f R).2).m1 λh7 N=>?_;have d4:=(N.old (h.nx+1) om).trans Z;have d6:=(N.old (h.nx+2) om).trans A1;have d7:=(N.old (h.nx+3) om).trans A2;have df:=(N.old H.nx om).trans A3;have K7:=K6.trans N;have n7:=N.nx;have p7:yL h7 sl s.ps (h.nx+4):=A5.mono (ao _) n7 (λj K D=>N.old j D);have O:=I9 names es f.2;have y:=@BH names es f.2 hE;obtain⟨z,al,F,hM⟩:∃z al F,oA names es f.2=(z,al,F):=⟨_,_,_,rfl⟩
    have a:il names es s f=if F=5 then none else if s.long=true\/F=2 then some {s with met:=s.met++[f.1],long:=true}else some ⟨s.met++[f.1],s.ps++[⟨f.1,f.2,tY s.size al⟩],tY s.size al+z,max s.align al,decide (65536<tY s.size al+z)⟩:=by
     unfold il;rw[ay h1,aY W,hM]
    rw[hM]at O y⊢;simp only at O y;by_cases U:F=5
    ·subst U;rw[aY rfl]at a;rw[w a];simp[zr,r4,d4];exact⟨rfl,kT⟩
    ·rw[ay U]at a;have C1:(F==5)=false:=(U7 U);by_cases A:s.long=true\/F=2
     ·rw[aY A]at a;simp only[mR,a]at g;have wi:=U8 i;have next:∀cC,cC.get 0=some (.P tb)->cC.get 4=some (.P (h.nx+1))->cC.get 6=some (.map (some (h.nx+2)))->cC.get 7=some (.P (h.nx+3))->cC.get 8=some (.bool true)->cC.get 18=some (.S o fs.length)->cC.get 19=some (.I fs.length)->cC.get 20=some (.I (i+1:Nat))->∃j,j<fs.length-i/\J j ⟨cC,110,h7,[],false⟩:=by
       intro cC q0 q4 q6 q7 q8 C5 C6 C7;refine⟨fs.length-(i+1),om,?_⟩;rw[hJ];exact⟨i+1,{s with met:=s.met++[f.1],long:=true},u,rfl,⟨rfl,rfl,rfl,q0,q4,q6,q7,q8,C5,C6,C7,d4,d6,⟨sl,d7,p7⟩,K7,(by show h.nx+4<=h7.nx;omega)⟩,⟨g1,g2,g3,(λhh=>by cases hh),g5⟩,(by show s.ps.length<=i+1;omega),g⟩
      cases I:s.long with
      |true=>
       rw[I]at r8;simp[zr,C1,r8,Gu,wi];exact next _ (by simp[r0]) (by simp[r4]) (by simp[r6]) (by simp[r7]) sp (by simp[HK]) (by simp[Gt]) sp
      |false=>
       have C8:F=2:=by
        rcases A with b|b
        ·rw[I]at b;cases b
        ·exact b
       subst C8;rw[I]at r8;simp[zr,C1,r8,Gu,wi];exact next _ (by simp[r0]) (by simp[r4]) (by simp[r6]) (by simp[r7]) sp (by simp[HK]) (by simp[Gt]) sp
     ·have I:s.long=false:=by cases hh:s.long with
       |true=>exact(A (.inl hh)).elim
       |false=>rfl
      have C9:F=0:=by
       rcases O with b|b|b
       ·exact b
       ·exact(A (.inr b)).elim
       ·exact(U b).elim
      subst C9;rw[ay A]at a;simp only[mR,a]at g;obtain⟨z1,z2,z3⟩:=y rfl;obtain⟨w1,w2,w3,w4⟩:=Dk g1 g2 z3;have w0:=yM g1 z3;have F6:=g4 I;have V:=@BL 3 (s.size+al-1) al om om om;have w5:IntKind.wrap .i64 (tY s.size al+z)=tY s.size al+z:=wr om om;have wi:=U8 i;have f7:=K7.fresh hF;obtain⟨H8,C2,F7,p8,p,CL⟩:=p7.push f7 om om ⟨f.1,f.2,tY s.size al⟩;simp only[Aj.cs]at C2;have e7:=(p (h.nx+3) om).trans d7;rw[I]at r8;simp[-aK,zr,r7,r8,d7,df,w1,w2,V,w4];rw[C2];have F0:(if s.align<al then al else s.align)=max s.align al:=(by split<;>omega);have b4:=(p (h.nx+1) om).trans d4;have b6:=(p (h.nx+2) om).trans d6;have K8:aJ h H8:=⟨by have:=K7.nx;omega,λi hi=>(p i om).trans (K7.old i hi),λ_=>CL⟩
      have l8:h.nx+3<H8.nx:=om;have G':=yN hE ⟨g1,g2,g3,g4,g5⟩ a;simp[-aK,r7,Gu,e7,w5,wi,F0];refine⟨fs.length-(i+1),om,?_⟩;rw[hJ];refine⟨i+1,_,u,rfl,⟨rfl,rfl,rfl,by simp[r0],by simp[r4],by simp[r6],by simp[r7],?_,by simp[HK],by simp[Gt],sp,by simp[b4],?_,⟨.S (h7.nx+1) (s.ps.length+1),?_,?_⟩,kT,?_⟩,G',?_,g⟩
      ·simp
      ·simp[b6]
      ·simp
      ·exact p8.mono (ao _) sp (λj K D=>by simp[show¬j=h.nx+3 by omega])
      ·simp;omega
      ·simp;omega
  ·rw[w (by unfold il;rw[aY h1])];simp[r4,r6,HK,Gt,Gu,v,oH,fa,fb,n2,S,c4,c6,h2];exact⟨rfl,kT⟩
 ·have F1:i=fs.length:=by omega
  subst F1;have v:¬(fs.length:Int)<(fs.length:Int):=by omega
  simp[Gt,Gu];refine Dd ?_;obtain⟨w1,w2,w3,w4⟩:=Dk g1 g2 g3;have w0:=yM g1 g3;have V:=@BL 3 (s.size+s.align-1) s.align om om om;have B:rN names es fs=if s.long=true\/65536<tY s.size s.align then .bad 2 else .Ed s.ps (tY s.size s.align) s.align:=by
   unfold rN;rw[<-g,dV];rfl
  simp[r7,r8,c7,w1,w2,V,w4];refine dl ?_;have FF:=t.scalar.1;cases I:s.long with
  |true=>
   rw[B,aY (.inl I)];simp[r4,c4];exact⟨rfl,kT⟩
  |false=>
   by_cases C:65536<tY s.size s.align
   ·rw[B,aY (.inr C)];simp[r4,c4,C];exact⟨rfl,kT⟩
   ·rw[B,ay (by rw[I];simp;omega)];obtain⟨ab,nn,F2⟩:∃ab nn,sl= .slice ab nn:=by
     rcases t with⟨_,b⟩|⟨po,b,_⟩
     ·exact⟨_,_,b⟩
     ·exact⟨_,_,b⟩
    subst F2;simp[r4,r7,c4,C];refine⟨⟨_,rfl,t.mono om sp (λj K D=>?_)⟩,kT⟩;simp[show¬j=h.nx+1 from om,show¬j=h.nx+3 by omega]
theorem JO(h:ah)(tb nm st:Nat)(names:List (bu))(es:List jV)(name:bu)(e:jV)(b:rC tb nm st h names es)(i:ij name es=some e)(p:e.ps≠[])(u:e.ps.length<=300):
 ba env 176 [.P tb,.str name] h (λout h'=>∃o,out= .ret (.iO [.S o e.ps.length,.I 0])/\h'.get o=some (.D 3 (flat e.ps))/\h.nx<=o/\o<h'.nx/\aJ h h'):=by
 refine wb fn176 rfl ?_;have c1:=b.t;have c3:=b.s;have c4:=b.o e (qK i).1;have lt:=b.lt;have ls:=b.ls;have lo:=b.lo e (qK i).1;have fl:=wc e.ps;rcases wN name es 0 with⟨a,_⟩|⟨e',a,D,v⟩
 ·rw[i]at a;cases a
 ·rw[i]at a;injection a with a;subst a
  have F:e.obj≠h.nx:=by omega
  simp[-aK,f176,c1,c3,v,jV.val];have hu:env.nv 187=some (.slice 230):=rfl;have w:¬roomy<e.ps.length*(39+1):=by
   have:e.ps.length*(39+1)<=300*(39+1):=iw _ u;unfold roomy;omega
  have tk:(flat e.ps).take (e.ps.length*3)=flat e.ps:=cn om;have g1:e.ps.length*3<=(flat e.ps).length:=by omega
  have j:e.ps.length≠0:=λy=>p (cI y);have g:¬e.ps.length*3<=0:=by omega
  have m:=Aq e.ps;have A:e.obj≠h.nx+1:=by omega
  have B:¬e.obj=h.nx+1:=by omega
  have C:¬e.obj=h.nx:=by omega
  simp[-me,-List.all_eq_true,hu,ty230.1,ty230.2.1,ty230.2.2.2,c4,B,C,w,tk,g1,j,g,m];exact kT
structure Sd where
 name:List UInt8
 fs:List zw
 q:Option (Nat×Nat)
def jL(l:List Sd):List AV:=(l.map λs=>[.str s.name,.slice s.q s.fs.length]).flatten
theorem lx:∀fs:List Sd,(jL fs).length=fs.length*2
 |[]=>rfl
 |p::ps=>by
  have:=lx ps;simp only[jL,bL,iK,aO,ai,aW]at this⊢;omega
theorem BW:∀(fs:List Sd)(i:Nat)(f:Sd),fs[i]?=some f->List.take 2 (List.drop (i*2) (jL fs))=[.str f.name,.slice f.q f.fs.length]
 |[],i,f,h=>by simp at h
 |p::ps,0,f,h=>by
  simp only[cw,bj]at h;subst h;simp[jL]
 |p::ps,i+1,f,h=>by
  have:=BW ps i f (U7 h);rw[show(i+1)*2=i*2+1+1 by omega];simpa[jL]using this
inductive kg(N:List (List UInt8)):List Sd->List jV->Prop where
 |nil:kg N [] []
 |snoc {l:List Sd} {es:List jV} {s:Sd} {obj:Nat} {ps:List Aj} {size align:Int} (h:kg N l es) (hn:ij s.name es=Option.none) (hf:s.fs≠[]) (hg:gn s.name=true) (hl:rN N es s.fs= .Ed ps size align):
  kg N (l++[s]) (es++[⟨s.name,obj,ps,size,align⟩])
theorem ME{N:List (bu)}{es:List jV}{fs:List zw}{e:Int}(h:rN N es fs= .bad e):e≠0:=by
 unfold rN at h;split at h
 ·injection h with h;omega
 ·split at h
  ·injection h with h;omega
  ·cases h
theorem Dl{N:List (bu)}{es:List jV}:∀(fs:List zw)(s s':JY),Di s->Fits es->mR N es fs s=some s'->Di s'/\(s'.long=false->s.long=false\/fs=[])/\(s'.long=false->s'.ps.length=s.ps.length+fs.length)
 |[],s,s',p,t,h=>by
  simp only[mR]at h;injection h with h;subst h;exact⟨p,λ_=> .inr rfl,λ_=>rfl⟩
 |f::fs,s,s',p,t,h=>by
  simp only[mR]at h;cases g:il N es s f with
  |none=>rw[g]at h;cases h
  |some s1=>
   rw[g]at h;have u:=yN t p g;obtain⟨a,b,c⟩:=Dl fs s1 s' u t h;have j:s.long=true->s1.long=true:=by
    intro j;unfold il at g;split at g
    ·cases g
    ·split at g
     ·split at g
      ·cases g
      ·rw[aY (.inl j)]at g;injection g with g;rw[<-g]
     ·cases g
   have v:s'.long=false->s1.long=false\/fs=[]:=b;have i:∀(fs:List zw)(s s':JY),mR N es fs s=some s'->s.long=true->s'.long=true:=by
    intro fs;induction fs with
    |nil=>intro s s' h j;simp only[mR]at h;injection h with h;rw[<-h];exact j
    |cons f fs w=>
     intro s s' h j;simp only[mR]at h;cases g:il N es s f with
     |none=>rw[g]at h;cases h
     |some s1=>
      rw[g]at h;refine w s1 s' h ?_;unfold il at g;split at g
      ·cases g
      ·split at g
       ·split at g
        ·cases g
        ·rw[aY (.inl j)]at g;injection g with g;rw[<-g]
       ·cases g
   refine⟨a,λe=> .inl ?_,λe=>?_⟩
   ·cases m:s.long with
    |false=>rfl
    |true=>rw[i fs s1 s' h (j m)]at e;cases e
   ·rw[c e];have m:s1.long=false\/s1.long=true:=(by cases s1.long<;>simp);have o:s1.long=false:=by
     rcases m with m|m
     ·exact m
     ·rw[i fs s1 s' h m]at e;cases e
    unfold il at g;split at g
    ·cases g
    ·split at g
     ·split at g
      ·cases g
      ·split at g
       ·injection g with g;rw[<-g]at o;cases o
       ·injection g with g;rw[<-g];simp only[aO,ai,aW];omega
     ·cases g
theorem zD{N:List (bu)}{es:List jV}{fs:List zw}{ps:List Aj}{size align:Int}(a:Fits es)(b:fs≠[])(h:rN N es fs= .Ed ps size align):
 ps.length=fs.length/\1<=size/\size<=65536/\(align=1\/align=4\/align=8)/\size%align=0/\(ps.length:Int)<=size:=by
 unfold rN at h;split at h
 ·cases h
 ·rename_i s f;split at h
  ·cases h
  ·rename_i i;injection h with j m o;obtain⟨g,_,c⟩:=Dl fs BN s Dj a f;have p:s.long=false:=by
    cases e:s.long with
    |false=>rfl
    |true=>exact(i (.inl e)).elim
   have v:=c p;obtain⟨w,y,t⟩:=yM g.lo g.al;have:=g.ln;have A:BN.ps.length=0:=rfl;have u:1<=fs.length:=(by cases fs with|nil=>exact(b rfl).elim|cons=>simp);subst j m o;exact⟨om,om,om,g.al,t,om⟩
theorem kg.fits{N:List (bu)}{l:List Sd}{es:List jV}(h:kg N l es):Fits es:=by
 induction h with
 |nil=>intro e he;cases he
 |snoc h j g m i f=>
  intro e he;rw[aP]at he;rcases he with he|he
  ·exact f e he
  ·simp only[ak,bm,cT]at he;subst he;obtain⟨_,a,b,c,d,_⟩:=zD f g i;exact⟨a,b,c,d⟩
theorem Gv{N:List (bu)}{j:Nat}{k:bu}(h:N[j]?=some k):(iH N).modify j (λ_=>(.str k,.bool true))=iH N:=by
 apply List.ext_getElem?;intro i;rw[List.getElem?_modify];by_cases e:j=i
 ·subst e;simp[iH,h]
 ·simp[e]
structure O7(h:ah)(p:Option (Nat×Nat))(l:List Sd)(i:Nat)(x:St):Prop where
 n:x.n=81
 ds:x.ds=[]
 bX:x.bX=false
 r0:x.rg.get 0=some (.slice p l.length)
 r5:x.rg.get 5=some (.P (h.nx+2))
 HK:x.rg.get 18=some (.slice p l.length)
 Gt:x.rg.get 19=some (.I l.length)
 Gu:x.rg.get 20=some (.I i)
 t:x.h.get (h.nx+2)=some (.C [.map (some h.nx),.map (some (h.nx+1))])
 nm:∃N,x.h.get h.nx=some (.map (iH N))/\∀k,k∈N↔∃s∈l.take i,s.name=k
 st:x.h.get (h.nx+1)=some (.map [])
 k:aJ h x.h
 nx:h.nx+3<=x.h.nx
structure O8(h:ah)(p:Option (Nat×Nat))(l:List Sd)(N:List (List UInt8))(i:Nat)(es:List jV)(x:St):Prop where
 n:x.n=81
 ds:x.ds=[]
 bX:x.bX=false
 r5:x.rg.get 5=some (.P (h.nx+2))
 OS:x.rg.get 31=some (.slice p l.length)
 Md:x.rg.get 32=some (.I l.length)
 Me:x.rg.get 33=some (.I i)
 t:rC (h.nx+2) h.nx (h.nx+1) x.h N es
 k:aJ h x.h
def Ri(N:List (List UInt8))(es:List jV)(l:List Sd)(i:Nat)(e:Int):Prop:=
 ∃s,l[i]?=some s/\kg N (l.take i) es/\((e=5/\(ij s.name es≠none\/s.fs=[]\/gn s.name=false))\/(ij s.name es=none/\s.fs≠[]/\gn s.name=true/\rN N es s.fs= .bad e))
def Uu(a:Nat)(l:List Sd)(out:Out)(h':ah):Prop:=
 (∃(i:Nat)(e:Int)(N:List (List UInt8))(es:List jV),out= .ret (.iO [.N,.I i,.I e])/\(∀k,k∈N↔∃s∈l,s.name=k)/\Ri N es l i e)\/
 (∃tb nm st N es,out= .ret (.iO [.P tb,.I 0,.I 0])/\rC tb nm st h' N es/\(∀k,k∈N↔∃s∈l,s.name=k)/\kg N l es/\a<=tb/\a<=nm/\a<=st/\∀e∈es,a<=e.obj)
structure IQ(h:ah)(p:Option (Nat×Nat))(l:List Sd):Prop where
 a:l≠[]->∃a Uv Ot,p=some (a,0)/\h.get a=some (.cells Uv Ot (jL l))/\a<h.nx
 f:∀s∈l,s.fs≠[]->∃o Uv Ot,s.q=some (o,0)/\h.get o=some (.cells Uv Ot (oC s.fs))/\o<h.nx
 len:∀s∈l,s.name.length<=1000000/\s.fs.length<=300/\∀f∈s.fs,f.1.length<=1000000/\f.2.length<=1000000
 n:l.length<=300
 z:l=[]->p=none
theorem Rj(h:ah)(p:Option (Nat×Nat))(l:List Sd)(S:IQ h p l)(hF:bP h):ba env 73 [.slice p l.length] h (λout h'=>Uu h.nx l out h'/\aJ h h'):=by
 refine wb fn73 rfl ?_;have hn:=S.n;simp[f73];refine bz (λm x=>∃(i:Nat),i<=l.length/\m=l.length-i/\O7 h p l i x) l.length ?_ ?_
 ·exact⟨0,bJ _,rfl,rfl,rfl,rfl,sp,sp,sp,sp,sp,sp,⟨[],by simp[iH],sp⟩,sp,kT,sp⟩
 rintro m ⟨rg,n',H,ds,bX⟩ ⟨i,hi,rfl,e1,e2,e3,r0,r5,HK,Gt,Gu,t,⟨N,nm,D⟩,st,k,nx⟩
 dsimp only at e1 e2 e3 r0 r5 HK Gt Gu t nm st k nx;subst e1 e2 e3;by_cases b:i<l.length
 ·have g:(i:Int)<(l.length:Int):=by omega
  have wi:=U8 i
  obtain⟨a,A2,Ot,rfl,ga,la⟩:=S.a λe=>by rw[e]at b;simp at b
  have U:=(k.old a la).trans ga;have fa:=BW l i l[i] (aj b);have V:i*2+2<=(jL l).length:=by have:=lx l;omega
  have F:h.nx≠H.nx/\h.nx+1≠H.nx/\h.nx+2≠H.nx:=by omega
  obtain⟨F,W,I⟩:=F;have Z:∀N':List (bu),(∀k,k∈N'↔k∈N\/k=l[i].name)->∀k,k∈N'↔∃s∈l.take (i+1),s.name=k:=λN' hh k=>by
   rw[hh,D,cy,aj b];simp only[Option.toList_some,aP,aQ];constructor
   ·rintro(⟨s,hs,e⟩|e)
    ·exact⟨s,.inl hs,e⟩
    ·exact⟨l[i],.inr rfl,e.symm⟩
   ·rintro⟨s,hs|rfl,e⟩
    ·exact .inl ⟨s,hs,e⟩
    ·exact .inr e.symm
  rcases rE l[i].name N 0 with⟨J,y⟩|⟨J,j,y,h3⟩
  ·simp[HK,Gt,Gu,g,U,fa,V];refine Dd ?_;simp[r5,Gu,t,nm,y,F,I];refine dl ?_
   try simp[wi]
   exact⟨_,om,i+1,b,rfl,rfl,rfl,rfl,by simp[r0],by simp[r5],by simp[HK],by simp[Gt],sp,by simp[t,I],⟨N++[l[i].name],by simp[iH],Z _ sp⟩,by simp[st,W],kT,by simp<;>omega⟩
  ·have hm:=Gv h3;simp only[fL]at y;simp[HK,Gt,Gu,g,U,fa,V];refine Dd ?_;simp[r5,Gu,t,nm,y,hm,F,I];refine dl ?_
   try simp[wi]
   exact⟨_,om,i+1,b,rfl,rfl,rfl,rfl,by simp[r0],by simp[r5],by simp[HK],by simp[Gt],sp,by simp[t,I],⟨N,sp,Z _ (λk=>⟨.inl,λhh=>hh.elim id λe=>e▸J⟩)⟩,by simp[st,W],kT,by simp<;>omega⟩
 ·have K:i=l.length:=by omega
  subst K;rw[cF]at D;have T0:rC (h.nx+2) h.nx (h.nx+1) H N []:=⟨t,nm,by rw[st];rfl,sp,om,om,om,sp,om⟩
  simp[Gt,Gu,r0];refine bz (λm x=>∃(i:Nat)(es:List jV),i<=l.length/\m=l.length-i/\O8 h p l N i es x/\kg N (l.take i) es/\∀e∈es,h.nx<=e.obj) l.length ?_ ?_
  ·exact⟨0,[],bJ _,rfl,⟨rfl,rfl,rfl,by simp[r5],sp,sp,sp,T0,k⟩,.nil,sp⟩
  clear T0 t nm st nx r0 r5 HK Gt Gu hi
  rintro m ⟨rg,n',G,ds,bX⟩ ⟨i,es,hi,rfl,⟨e1,e2,e3,r5,OS,Md,Me,T,A⟩,B,hO⟩
  dsimp only at e1 e2 e3 r5 OS Md Me T A;subst e1 e2 e3;have fG:=A.fresh hF;have T':=T;obtain⟨t1,t2,t3,t4,t5,t6,t7,t8,t9⟩:=T;by_cases b:i<l.length
  ·have g:(i:Int)<(l.length:Int):=om;have wi:=U8 i;obtain⟨a,A2,Ot,rfl,ga,la⟩:=S.a λe=>by rw[e]at b;simp at b
   have A1:=(A.old a la).trans ga;have v:l[i]?=some l[i]:=aj b;have C:=bk b;have fa:=BW l i l[i] v;have V:i*2+2<=(jL l).length:=(by have:=lx l;omega);have F:h.nx≠G.nx/\h.nx+1≠G.nx/\h.nx+2≠G.nx/\h.nx+1≠G.nx+11/\h.nx+2≠G.nx+11:=om;obtain⟨F,W,I,n4,n5⟩:=F;have f11:G.get (G.nx+11)=none:=fG _ om;generalize l[i]=s at*;rcases wN s.name es 0 with⟨J,y⟩|⟨e,J,j,y⟩
   ·simp[OS,Md,Me,g,A1,fa,V];refine Dd ?_
    have bad:∀e,e=(5:Int)->(ij s.name es≠none\/s.fs=[]\/gn s.name=false)->Ri N es l i e:=λe e5 hh=>⟨s,v,B,.inl ⟨e5,hh⟩⟩
    simp[r5,t1,t3,y,W,I,f11];refine dl ?_;by_cases u:s.fs=[]
    ·have z:s.fs.length=0:=(by rw[u];rfl);simp[z];exact⟨.inl ⟨i,5,N,es,rfl,D,bad 5 rfl (.inr (.inl u))⟩,kT⟩
    ·have z:((s.fs.length:Int)==0)=false:=(by rw[az];have:=List.length_pos_iff.2 u;omega);simp[z];obtain⟨G2,w⟩:∃G2,G2=((((G.alloc (.C [.str [],.Z])).2.set G.nx (.C [.str s.name,.slice s.q s.fs.length])).bump 13).set (G.nx+11) (.C [.Z,.I 0,.I 0])).set (G.nx+11) (.C [.Z,.I 0,.I 0]):=⟨_,rfl⟩
     have P:aJ G G2:=(by rw[w];exact kT);have g9:G2.get G.nx=some (.C [.str s.name,.slice s.q s.fs.length]):=(by rw[w];simp);have n9:G.nx<G2.nx:=by rw[w];first|(simp;done)|(simp;omega)
     rw[<-w];clear w;have hlen:=S.len s C;refine(xP _ s.name hlen.1).m1 λG3 hq=>?_;subst hq;cases hg:gn s.name with
     |false=>
      simp;exact⟨.inl ⟨i,5,N,es,rfl,D,bad 5 rfl (.inr (.inr hg))⟩,A.trans P⟩
     |true=>
      obtain⟨o,A3,A4,hq,go,lo⟩:=S.f s C u;have go2:=((A.trans P).old o lo).trans go;have A5:o<G3.nx:=by have:=(A.trans P).nx;omega
      have T2:=T'.aH P;simp[r5,g9];rw[hq];refine(RA G3 (h.nx+2) h.nx (h.nx+1) o N es s.name s.fs A3 A4 T2 (P.fresh fG) B.fits go2 A5 hlen.2.2 hlen.2.1).mono λout Q Au=>?_;obtain⟨O,K4⟩:=Au;have T4:=T2.aH K4;have KA:=(A.trans P).trans K4;have C1:=(K4.old _ n9).trans g9;cases R:rN N es s.fs with
      |bad e=>
       rw[R]at O;have O:_=_:=O;subst O;have e0:(e==0)=false:=(by simpa using ME R);have C6:=KA.nx;have e1:(e !=0)=true:=(by rw[bne,e0];rfl);simp[e1];exact⟨.inl ⟨i,e,N,es,rfl,D,⟨s,v,B,.inr ⟨J,u,hg,R⟩⟩⟩,kT⟩
      |Ed ps size align=>
       rw[R]at O;simp only[MD]at O;obtain⟨sl,rfl,C2⟩:=O;obtain⟨p1,p2,p3,p4,p5,p6⟩:=zD B.fits u R;obtain⟨po,rfl,C3,C7,C8⟩:=C2.resolve_left λe=>by
        have:=List.length_pos_iff.2 u;rw[e.1]at p1;simp at p1;omega
       obtain⟨u1,u2,u3,u4,u5,u6,u7,u8,u9⟩:=T4;have C9:=K4.nx;have q1:h.nx≠Q.nx/\h.nx+1≠Q.nx/\h.nx+2≠Q.nx/\G.nx≠Q.nx/\po≠Q.nx/\po≠h.nx+1:=om;obtain⟨q1,q2,q3,q4,q5,q6⟩:=q1;simp;refine Dd ?_;simp[r5,Me,u1,u3,y,C1,q2,q3,q4];refine dl ?_
       try simp[wi]
       refine⟨_,om,i+1,b,rfl,es++[⟨s.name,po,ps,size,align⟩],⟨rfl,rfl,rfl,by simp[r5],by simp[OS],by simp[Md],sp,⟨by simp[u1,q3],by simp[u2,q1],by simp[BV,jV.val],?_,IN,IN,IN,?_,u9⟩,kT⟩,?_,?_⟩
       ·intro e he;rcases aP.1 he with he|he
        ·have ge:=u4 e he;have le:=u8 e he;have C4:e.obj≠Q.nx:=om;have C5:e.obj≠h.nx+1:=λe2=>by rw[e2,u3]at ge;cases ge
         simp[C4,C5];exact ge
        ·simp only[aQ]at he;subst he;simp[q5,q6];exact C3
       ·intro e he;rcases aP.1 he with he|he
        ·have:=u8 e he;simp;omega
        ·simp only[aQ]at he;subst he;simp;omega
       ·rw[cy,v];exact B.snoc J u hg R
       ·intro e he;rcases aP.1 he with he|he
        ·exact hO e he
        ·simp only[aQ]at he;subst he;simp only;omega
   ·simp[OS,Md,Me,g,A1,fa,V];refine Dd ?_;simp[r5,t1,t3,y,jV.val,W,I,f11];refine dl ?_;exact⟨.inl ⟨i,5,N,es,rfl,D,⟨s,v,B,.inl ⟨rfl,.inl (by rw[J];simp)⟩⟩⟩,kT⟩
  ·have K:i=l.length:=om;subst K;rw[cF]at B;simp[Md,Me,r5];exact⟨.inr ⟨_,_,_,N,es,rfl,T',D,B,om,om,om,hO⟩,A⟩
end Go.Proofs.YtaekaifihehgdaaGreatDoor
