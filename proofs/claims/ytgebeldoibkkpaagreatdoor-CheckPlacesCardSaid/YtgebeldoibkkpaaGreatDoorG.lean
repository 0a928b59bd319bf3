/- Lemmas for CheckPlaces; each states its own conditions. -/
import Derived.Test.YtgebeldoibkkpaaGreatDoorF
set_option maxRecDepth 100000
set_option maxHeartbeats 0
set_option linter.unusedVariables false
set_option linter.unusedSimpArgs false
set_option linter.unusedSectionVars false
namespace Go.Proofs.YtgebeldoibkkpaaGreatDoor
open Go.Am Tryz
section
attribute [local simp] aI
theorem ahE:env.fw 170=Option.none:=by unfold env;rfl
theorem agF:env.fn 170=some f170:=kr
theorem agG:env.fw 132=Option.none:=by unfold env;rfl
theorem agH:env.fn 132=some f132:=kr
theorem agI:env.fw 134=Option.none:=by unfold env;rfl
theorem agJ:env.fn 134=some f134:=kr
theorem agK:env.ext 170=some jC:=by unfold env;rfl
theorem idx_eq(s:List UInt8)(c:UInt8):OO c s 0=Lib.indexByte s c:=by
 rw[GJ];split
 ·rename_i e;rw[e]
 ·simp
theorem P5(h:ah)(s:List UInt8)(c:UInt8):aV env 132 [.str s,.int .u8 c.toNat] h (fun out h'=>out= .ret (.I (Lib.indexByte s c))/\h'=h):=by
 refine aV.body agG agH rfl (iJ rfl) ?_;simp[f132,agF,f170,agK,jC,idx_eq]
theorem HL(h:ah)(s:List UInt8)(c:UInt8):aV env 134 [.str s,.str [c]] h (fun out h'=>out= .ret (.I (Lib.indexByte s c))/\h'=h):=by
 refine aV.body agI agJ rfl (iJ rfl) ?_;cases hc:(([c]:List UInt8)==s)with
 |true=>
  have:s=[c]:=by simpa using(qC.1 hc).symm
  subst this;simp[f134,Lib.indexByte]
 |false=>
  simp[f134,hc];refine(P5 h s c).mono fun out h' hq=>?_;obtain⟨rfl,rfl⟩:=hq;simp
theorem Ay:∀(s:List UInt8)(c:UInt8),0<=Lib.indexByte s c->∃k:Nat,Lib.indexByte s c=k/\k<s.length
 |[],c,h=>by simp[Lib.indexByte]at h
 |x::s,c,h=>by
  simp only[Lib.indexByte]at h⊢;by_cases hx:x=c
  ·exact⟨0,by simp[hx]⟩
  ·by_cases h1:0<=Lib.indexByte s c
   ·obtain⟨k,hk,hl⟩:=Ay s c h1;exact⟨k+1,by simp[hx,hk],by simp;omega⟩
   ·have:=Lib.indexByte_ge s c;have:Lib.indexByte s c= -1:=om;simp[hx,this]at h
def qv(s:List UInt8):List UInt8×List UInt8×Bool:=
 if 0<=Lib.indexByte s 91 then(s.take (Lib.indexByte s 91).toNat,s.drop ((Lib.indexByte s 91).toNat+1),true)else(s,[],false)
theorem MI(h:ah)(s:List UInt8)(hs:s.length<=1000000):aV env 187 [.str s,.str [91]] h (fun out h'=>out= .ret (.iX [.str (qv s).1,.str (qv s).2.1,.bool (qv s).2.2])/\aS h h'):=by
 refine wb fn187 rfl ?_;simp[f187];refine(HL h s 91).mono fun out h' hq=>?_;obtain⟨rfl,rfl⟩:=hq;by_cases hi:0<=Lib.indexByte s 91
 ·obtain⟨k,hk,yD⟩:=Ay s 91 hi;have hcf:qv s=(s.take k,s.drop (k+1),true):=by unfold qv;rw[aW hi,hk];simp
  rw[hcf,hk];have w1:IntKind.wrap .i64 ((k:Int)+1)=((k+1:Nat):Int):=by rw[wr om om];omega
  obtain⟨k1,Bv⟩:∃x,x=k+1:=⟨_,rfl⟩
  rw[<-Bv]at w1⊢;have b1:(k:Int)<=(s.length:Int):=by omega
  have Ij:k<=s.length:=by omega
  have b2:(k1:Int)<=(s.length:Int):=by omega
  have b2':k1<=s.length:=by omega
  simp;refine Dd ?_;simp[w1,b1,Ij,b2,b2']
  try refine dm ?_
  try exact kT
 ·have hcf:qv s=(s,[],false):=by unfold qv;rw[az hi]
  rw[hcf];simp[hi]
  try exact kT
theorem aei(h:ah)(s:List UInt8)(hs:s.length<=1000000):aV env 154 [.str s,.str [91]] h (fun out h'=>out= .ret (.iX [.str (qv s).1,.str (qv s).2.1,.bool (qv s).2.2])/\aS h h'):=by
 refine wb fn154 rfl ?_;simp[f154];refine(MI h s hs).mono fun out h' hq=>?_;obtain⟨rfl,k⟩:=hq;simp;exact k
def HM:List UInt8:=[97,98,99,100,101,102,103,104,105,106,107,108,109,110,111,112,113,114,115,116,117,118,119,120,121,122,65,66,67,68,69,70,71,72,73,74,75,76,77,78,79,80,81,82,83,84,85,86,87,88,89,90,95]
def digits:List UInt8:=[48,49,50,51,52,53,54,55,56,57]
def gn:List UInt8->Bool
 |[]=>false
 |c::s=>decide (((s.length+1:Nat):Int)<=40)&&(decide (0<=Lib.indexByte HM c)&&(Lib.trimS (c::s) (HM++digits)==[]))
theorem zj(h:ah)(s:List UInt8)(hs:s.length<=1000000):aV env 85 [.str s] h (fun out h'=>out= .ret (.bool (gn s))/\h'=h):=by
 refine wb fn85 rfl ?_;cases s with
 |nil=>simp[f85,gn]
 |cons c s=>
  simp only[ai]at hs;by_cases h40:(s.length:Int)+1<=40
  ·have MG:s.length+1<=40:=om;have h39:s.length<=39:=om;have h1:(1:Int)<=(s.length:Int)+1:=om;simp[f85,h40,MG,h1,h39];refine aV.fw pr98 Dw ?_;by_cases hi:0<=Lib.indexByte HM c
   ·have Eb:0<=Lib.indexByte [97,98,99,100,101,102,103,104,105,106,107,108,109,110,111,112,113,114,115,116,117,118,119,120,121,122,65,66,67,68,69,70,71,72,73,74,75,76,77,78,79,80,81,82,83,84,85,86,87,88,89,90,95] c:=hi;simp[Eb];refine aV.fw pr117 (xc (by simp only[ai];omega) dc dc) ?_;obtain⟨tr,htr⟩:∃x,x=Lib.trimS (c::s) [97,98,99,100,101,102,103,104,105,106,107,108,109,110,111,112,113,114,115,116,117,118,119,120,121,122,65,66,67,68,69,70,71,72,73,74,75,76,77,78,79,80,81,82,83,84,85,86,87,88,89,90,95,48,49,50,51,52,53,54,55,56,57]:=⟨_,rfl⟩
    have hg:gn (c::s)=(tr==[]):=by
     rw[htr];simp only[gn,ai];have d1:decide (((s.length+1:Nat):Int)<=40)=true:=(by simp;omega);rw[d1,decide_eq_true hi];rfl
    rw[<-htr,hg];cases htb:(tr==[])with
    |true=>simp[htb]
    |false=>simp[htb]
   ·have Eb:¬0<=Lib.indexByte [97,98,99,100,101,102,103,104,105,106,107,108,109,110,111,112,113,114,115,116,117,118,119,120,121,122,65,66,67,68,69,70,71,72,73,74,75,76,77,78,79,80,81,82,83,84,85,86,87,88,89,90,95] c:=hi;simp[Eb];simp only[gn,decide_eq_false hi];simp
  ·have MG:¬s.length+1<=40:=om;have h39:¬s.length<=39:=om;have h1:(1:Int)<=(s.length:Int)+1:=om;simp[f85,h40,MG,h1,h39,gn]
end
section
attribute [local simp] aI
theorem agL{E:Env}{P:T AV->ah->Prop}{n:Nat}{f:FuncId}{args:List AV}{G:Prop}(ops:Array Oper)(rest:List Oper)(QQ:bt->St->Prop)(d:Option Tmp)(hm:(∀da h',P da h'->aV E f args h' (vQ E ops rest QQ d da n [] false))->G)(ht:∀da h',P da h'->aV E f args h' (vQ E ops rest QQ d da n [] false)):G:=hm ht
structure Fm where
 base:List UInt8
 name:List UInt8
 jG:Int
 arr:Bool
 many:Int
def Fm.av(f:Fm):AV:= .agg [.str f.base,.str f.name,.I f.jG,.bool f.arr,.I f.many]
def Fm.zero:Fm:=⟨[],[],0,false,0⟩
def vZ(d:List UInt8):Int:=match Lib.atoiAll d with
 | .ok v=>if 65536<v then 65537 else v
 |_=>65537
def iC:List UInt8:=[115,116,114,117,99,116]
def jE:List UInt8:=[115,116,114,117,99,116,32]
def uo:List UInt8:=[99,104,97,114]
def B0:List UInt8:=[105,110,116]
def xF:List UInt8:=[108,111,110,103]
def MJ:List UInt8:=[118,111,105,100]
def HN(Zm:List UInt8):Option Int:=
 if Lib.hasSuffix Zm [93]=true then match Lib.trimSuffix Zm [93]with
  |[]=>none
  |c::ds=>if c=48 then none else if Lib.trimS (c::ds) digits=[]then some (vZ (c::ds))else none
 else none
def yx(s:List UInt8):Option (Bool×Int):=
 if(qv s).2.2=true then(HN (qv s).2.1).map fun n=>(true,n)else some (false,0)
def lJ(rest:List UInt8)(arr:Bool)(many:Int):Fm×Bool:=
 let base:=Lib.trimRightB rest 42;let jG:Int:=(rest.length:Int)-(base.length:Int)
 if Lib.hasPrefix base jE=true then(⟨iC,Lib.trimPrefix base jE,jG,arr,many⟩,gn (Lib.trimPrefix base jE))
 else(⟨base,[],jG,arr,many⟩,base==uo||(base==B0||(base==xF||(base==MJ&&(decide (0<jG)||!arr)))))
def rd(s:List UInt8):Fm×Bool:=match yx s with
 |none=>(Fm.zero,false)
 |some (a,m)=>lJ (qv s).1 a m
theorem DC(s:List UInt8):(qv s).1.length<=s.length:=by
 unfold qv;split
 ·simp only[cI];omega
 ·exact ao _
theorem T7(s:List UInt8):(qv s).2.1.length<=s.length:=by
 unfold qv;split
 ·simp only[bU];omega
 ·simp
theorem uj(s:List UInt8)(c:UInt8):(Lib.trimRightB s c).length<=s.length:=by
 unfold Lib.trimRightB;rw[List.length_reverse];have:=(List.dropWhile_suffix (fun x=>x==c) (l:=s.reverse)).length_le;rw[List.length_reverse]at this;exact this
theorem P6{d:List UInt8}(hv:∀v,Lib.atoiAll d≠ .ok v):vZ d=65537:=by
 unfold vZ;split
 ·rename_i v e;exact(hv v e).elim
 ·rfl
theorem P7{s p:List UInt8}{h:ah}(hl:s.length<=9223372036854775807):eJ Fo [.str s,.str p] h=some (.ret (.iX [.str (Lib.trimSuffix s p),.bool (Lib.hasSuffix s p)]),h):=by
 simp only[eJ,Fo,aW hl]
theorem MK{s:List UInt8}{c:UInt8}{h:ah}(hl:s.length<=9223372036854775807)(hc:c.toNat<128):eJ AX [.str s,.str [c]] h=some (.ret (.str (Lib.trimRightB s c)),h):=by
 simp only[eJ,AX,aW (And.intro hl hc)]
theorem Xw{s:List UInt8}{h:ah}{T:TypeId}{v:Int}(hl:s.length<=281474976710656)(hv:Lib.atoiAll s= .ok v):o0 T [.str s] h=some (.ret (.iX [.I v,.nilIface]),h):=by
 simp only[o0,aW hl,hv]
theorem T8{s:List UInt8}{h:ah}{T:TypeId}(hl:s.length<=281474976710656)(hv:∀v,Lib.atoiAll s≠ .ok v):∃n,o0 T [.str s] h=some (.ret (.iX [.I n,.iface T (.P h.next)]),(h.alloc .dead).2):=by
 cases e:Lib.atoiAll s with
 |ok v=>exact(hv v e).elim
 |range=>exact⟨Lib.atoiSat s,by simp only[o0,aW hl,e]⟩
 |_=>exact⟨0,by simp only[o0,aW hl,e]⟩
theorem HO(h:ah)(s:List UInt8)(hs:s.length<=1000000):aV env 118 [.str s] h (fun out h'=>out= .ret (.iX [(rd s).1.av,.bool (rd s).2])/\aS h h'):=by
 refine wb fn118 rfl ?_;simp[f118];have K0:=(aS.refl h).alloc (.C [.str [],.str [],.I 0,.bool false,.I 0]);refine(aei _ s hs).mono fun out h1 hq=>?_;obtain⟨rfl,k1⟩:=hq;have K1:=K0.trans k1;have g1:h1.get h.next=some (.C [.str [],.str [],.I 0,.bool false,.I 0]):=(k1.old h.next sp).trans sp;have n1:h.next<h1.next:=by have:=k1.next;simp at this;omega
 have c1:=DC s;have c2:=T7 s;obtain⟨rest,tU⟩:∃x,x=(qv s).1:=⟨_,rfl⟩
 obtain⟨Zm,aej⟩:∃x,x=(qv s).2.1:=⟨_,rfl⟩
 rw[<-tU]at c1⊢;rw[<-aej]at c2⊢;apply agL (E:=env) (n:=103) (f:=157) (args:=[.str rest,.str [42]]) (P:=fun da h'=>da.get 2=some (.P h.next)/\da.get 4=some (.str rest)/\aS h h'/\h.next<h'.next/\∃a m,yx s=some (a,m)/\da.get 6=some (.bool a)/\h'.get h.next=some (.C [.str [],.str [],.I 0,.bool a,.I m]))
 case hm=>
  intro go;cases CU:(qv s).2.2 with
  |false=>
   simp;refine go _ _ ⟨sp,sp,K1,n1,false,0,?_,sp,g1⟩;simp[yx,CU]
  |true=>
   simp;refine aV.fw pr155 (P7 om) ?_;have hra:yx s=(HN Zm).map fun n=>(true,n):=(by simp[yx,CU,aej]);have bad:HN Zm=none->rd s=(Fm.zero,false):=fun e=>by simp[rd,hra,e]
   cases UL:Lib.hasSuffix Zm [93]with
   |false=>
    rw[bad (by unfold HN;rw[az (by rw[UL];decide)])];simp[UL,g1,Fm.zero,Fm.av];exact kT
   |true=>
    cases hd:Lib.trimSuffix Zm [93]with
    |nil=>
     rw[bad (by unfold HN;rw[aW UL,hd])];simp[UL,hd,g1,Fm.zero,Fm.av];exact kT
    |cons c ds=>
     by_cases h48:c=48
     ·have hc:((c.toNat:Int)==48)=true:=(by rw[h48];rfl);rw[bad (by unfold HN;rw[aW UL,hd];simp[h48])];simp[UL,hd,g1,hc,Fm.zero,Fm.av];exact kT
     ·have hc:((c.toNat:Int)==48)=false:=by
       rw[aH];intro e;exact h48 (eh (by simp;omega))
      have ld:(c::ds).length<=Zm.length:=by
       rw[<-hd];unfold Lib.trimSuffix;rw[aW UL,cI];omega
      simp[UL,hd,g1,hc];refine aV.fw pr117 (xc om dc dc) ?_;obtain⟨tr,htr⟩:∃x,x=Lib.trimS (c::ds) digits:=⟨_,rfl⟩
      have agM:Lib.trimS (c::ds) [48,49,50,51,52,53,54,55,56,57]=tr:=htr.symm;rw[agM];by_cases Xx:tr=[]
      case neg=>
       have hte:tr.isEmpty=false:=by cases tr with
        |nil=>exact(Xx rfl).elim
        |cons=>rfl
       rw[bad (by unfold HN;rw[aW UL,hd];simp only[az h48,<-htr,az Xx])];simp[hte,g1,Fm.zero,Fm.av];exact kT
      case pos=>
       have abA:yx s=some (true,vZ (c::ds)):=by
        rw[hra];unfold HN;rw[aW UL,hd];simp only[az h48,<-htr,Xx,lM,xI]
       rw[Xx];simp[hd];by_cases hv:∃v,Lib.atoiAll (c::ds)= .ok v
       ·obtain⟨v,hv⟩:=hv;refine aV.fw pr156 (Xw om hv) ?_;by_cases h6:65536<v
        ·simp[h6,g1];refine go _ _ ⟨sp,sp,kT,by simp only[ah.set];omega,true,vZ (c::ds),abA,sp,?_⟩;simp[vZ,hv,h6]
        ·simp[h6,g1];refine go _ _ ⟨sp,sp,kT,by simp only[ah.set];omega,true,vZ (c::ds),abA,sp,?_⟩;simp[vZ,hv,h6]
       ·have tB:∀v,Lib.atoiAll (c::ds)≠ .ok v:=fun v e=>hv ⟨v,e⟩;obtain⟨nn,hn⟩:=T8 (T:=286) (h:=h1) (s:=c::ds) om tB;refine aV.fw pr156 hn ?_;have aek:h.next≠h1.next:=om;simp[g1,aek,aek.symm];refine go _ _ ⟨sp,sp,kT,by simp only[ah.set,ah.alloc];omega,true,vZ (c::ds),abA,sp,?_⟩;simp[P6 tB]
 case ht=>
  intro rg h2 hP;obtain⟨r2,r4,K2,n2,a,m,hra,r6,g2⟩:=hP;have Le:rd s=lJ rest a m:=by simp[rd,hra,tU]
  rw[Le];have tl:=uj rest 42;refine aV.fw pr157 (MK om dc) ?_;obtain⟨base,zI⟩:∃x,x=Lib.trimRightB rest 42:=⟨_,rfl⟩
  rw[<-zI]at tl⊢;have w1:IntKind.wrap .i64 ((rest.length:Int)-(base.length:Int))=(rest.length:Int)-(base.length:Int):=wr om om;simp[r2,r4,r6,g2,w1];refine aV.fw pr136 zX ?_;cases hpf:Lib.hasPrefix base [115,116,114,117,99,116,32]with
  |true=>
   obtain⟨nm,Hf⟩:∃x,x=Lib.trimPrefix base [115,116,114,117,99,116,32]:=⟨_,rfl⟩
   have Pg:lJ rest a m=(⟨iC,nm,(rest.length:Int)-base.length,a,m⟩,gn nm):=by
    unfold lJ;simp only[<-zI];rw[aW (show Lib.hasPrefix base jE=true from hpf),Hf];rfl
   rw[<-Hf,Pg];have lnm:nm.length<=base.length:=by
    rw[Hf];unfold Lib.trimPrefix;rw[aW hpf,bU];omega
   simp[r2,r4,r6,g2,w1];refine Dd ?_;simp[r2,r4,r6,g2,w1];refine dm ?_;refine(zj _ nm om).mono fun out h9 hq=>?_;obtain⟨rfl,rfl⟩:=hq;simp[r2,r4,r6,g2,w1,Fm.av,iC];refine dm ?_;exact kT
  |false=>
   have Pg:lJ rest a m=(⟨base,[],(rest.length:Int)-base.length,a,m⟩,base==uo||(base==B0||(base==xF||(base==MJ&&(decide (0<(rest.length:Int)-base.length)||!a))))):=by
    unfold lJ;simp only[<-zI];rw[az (by rw[show Lib.hasPrefix base jE=false from hpf];decide)]
   rw[Pg];have q1:(base==uo)=(base==[99,104,97,114]):=rfl;have q2:(base==B0)=(base==[105,110,116]):=rfl;have q3:(base==xF)=(base==[108,111,110,103]):=rfl;have q4:(base==MJ)=(base==[118,111,105,100]):=rfl;simp only[q1,q2,q3,q4];cases e1:(base==[99,104,97,114])with
   |true=>
    simp[r2,r4,r6,g2,w1,e1,Fm.av];exact kT
   |false=>
   cases e2:(base==[105,110,116])with
   |true=>
    simp[r2,r4,r6,g2,w1,e1,e2,Fm.av];exact kT
   |false=>
   cases e3:(base==[108,111,110,103])with
   |true=>
    simp[r2,r4,r6,g2,w1,e1,e2,e3,Fm.av];exact kT
   |false=>
   cases e4:(base==[118,111,105,100])with
   |false=>
    simp[r2,r4,r6,g2,w1,e1,e2,e3,e4,Fm.av];exact kT
   |true=>
    by_cases fI:0<(rest.length:Int)-(base.length:Int)
    ·have hsN:base.length<rest.length:=om;simp[r2,r4,r6,g2,w1,e1,e2,e3,e4,fI,hsN,Fm.av];exact kT
    ·have hsN:¬base.length<rest.length:=om;cases a<;>simp[r2,r4,r6,g2,w1,e1,e2,e3,e4,fI,hsN,Fm.av]<;>exact kT
end
section
attribute [local simp] aI
structure A7 where
 name:List UInt8
 type:List UInt8
 off:Int
def A7.cs(p:A7):List AV:=[.str p.name,.str p.type,.I p.off]
def flat(ps:List A7):List AV:=(ps.map A7.cs).flatten
structure pW where
 name:List UInt8
 obj:Nat
 ps:List A7
 size:Int
 align:Int
def pW.val(e:pW):AV:= .agg [.S e.obj e.ps.length,.I e.size,.I e.align]
def jd(l:List (List UInt8)):List (AV×AV):=l.map fun s=>(.str s,.bool true)
def D8(l:List pW):List (AV×AV):=l.map fun e=>(.str e.name,e.val)
structure rG(tb nm st:Nat)(h:ah)(names:List (List UInt8))(es:List pW):Prop where
 t:h.get tb=some (.C [.map (some nm),.map (some st)])
 n:h.get nm=some (.map (jd names))
 s:h.get st=some (.map (D8 es))
 o:∀e∈es,h.get e.obj=some (.cells true 3 (flat e.ps))
 lt:tb<h.next
 ln:nm<h.next
 ls:st<h.next
 lo:∀e∈es,e.obj<h.next
 ne:nm≠st
theorem rG.aJ{tb nm st:Nat}{h h':ah}{names:List (List UInt8)}{es:List pW}(H:rG tb nm st h names es)(k:aS h h'):rG tb nm st h' names es:=
 ⟨(
  k.old _ H.lt).trans H.t,(k.old _ H.ln).trans H.n,(k.old _ H.ls).trans H.s,fun e he=>(k.old _ (H.lo e he)).trans (H.o e he),aw H.lt k.next,aw H.ln k.next,aw H.ls k.next,
  fun e he=>aw (H.lo e he) k.next,H.ne⟩
theorem iR(h:ah)(a b:List UInt8):oA h (.str a) (.str b)=some (a==b):=by
 simp[oA]
theorem sU(k:List UInt8):∀(l:List (List UInt8))(i:Nat),(k∉l/\∀H,fq H (.str k) (jd l) i=some Option.none)\/(k∈l/\∃j,(∀H,fq H (.str k) (jd l) i=some (some (i+j,.bool true)))/\l[j]?=some k)
 |[],i=> .inl ⟨sp,fun H=>rfl⟩
 |s::l,i=>by
  by_cases h:k=s
  ·subst h;exact .inr ⟨sp,0,fun H=>by simp only[jd,cY,fq,iR,beq_self_eq_true,qR],rfl⟩
  ·have hb:(k==s)=false:=(by simpa using h);rcases sU k l (i+1)with⟨h1,h2⟩|⟨h1,j,h2,h3⟩
   ·exact .inl ⟨by simp[h,h1],fun H=>by simp only[jd,cY,fq,iR,hb];exact h2 H⟩
   ·exact .inr ⟨by simp[h1],j+1,fun H=>by simp only[jd,cY,fq,iR,hb];rw[show i+(j+1)=i+1+j by omega];exact h2 H,by simpa using h3⟩
def nh(k:List UInt8):List pW->Option pW
 |[]=>Option.none
 |e::es=>if e.name=k then some e else nh k es
theorem x7(k:List UInt8):∀(l:List pW)(i:Nat),(nh k l=Option.none/\∀H,fq H (.str k) (D8 l) i=some Option.none)\/(∃e,nh k l=some e/\∃j,∀H,fq H (.str k) (D8 l) i=some (some (j,e.val)))
 |[],i=> .inl ⟨rfl,fun H=>rfl⟩
 |s::l,i=>by
  by_cases h:s.name=k
  ·exact .inr ⟨s,by simp only[nh,h,lM],i,fun H=>by simp only[D8,cY,fq,iR,h,beq_self_eq_true]⟩
  ·have hb:(k==s.name)=false:=(by simpa using fun e=>h e.symm);rcases x7 k l (i+1)with⟨h1,h2⟩|⟨e,h1,j,h2⟩
   ·exact .inl ⟨by simp only[nh,h,iW,h1],fun H=>by simp only[D8,cY,fq,iR,hb];exact h2 H⟩
   ·exact .inr ⟨e,by simp only[nh,h,iW,h1],j,fun H=>by simp only[D8,cY,fq,iR,hb];exact h2 H⟩
def tL(names:List (List UInt8))(es:List pW)(f:Fm):Int×Int×Int:=
 if f.base=iC/\f.name∉names then(0,0,5)
 else if 0<f.jG then(8,8,0)
 else if f.base=uo then(1,1,0)
 else if f.base=B0 then(4,4,0)
 else if f.base=xF then(8,8,0)
 else if f.base=iC then match nh f.name es with
  |none=>(0,0,5)
  |some e=>(e.size,e.align,0)
 else(0,0,5)
def A2(x:Int×Int×Int):Out:= .ret (.iX [.I x.1,.I x.2.1,.I x.2.2])
theorem FY(h:ah)(tb nm st:Nat)(names:List (List UInt8))(es:List pW)(f:Fm)(hT:rG tb nm st h names es)(fr:cM h):
 aV env 119 [.P tb,f.av] h (fun out h'=>out=A2 (tL names es f)/\aS h h'):=by
 refine wb fn119 rfl ?_;have nt:tb≠h.next:=by have:=hT.lt;omega
 have nn:nm≠h.next:=by have:=hT.ln;omega
 have ns:st≠h.next:=by have:=hT.ls;omega
 have gt:=hT.t;have YD:=hT.n;have gs:=hT.s;simp[f119,Fm.av];refine Dd ?_;have q0:(f.base==iC)=(f.base==[115,116,114,117,99,116]):=rfl;by_cases hb:f.base=iC
 ·have ub:(f.base==[115,116,114,117,99,116])=true:=by rw[<-q0];simpa using hb
  rcases sU f.name names 0 with⟨h1,h2⟩|⟨h1,j,h2,h3⟩
  ·have hm:tL names es f=(0,0,5):=(by unfold tL;rw[aW ⟨hb,h1⟩]);rw[hm];simp[ub,gt,YD,nt,nt.symm,nn,nn.symm,h2];exact⟨rfl,kT⟩
  ·have e1:(f.base==[99,104,97,114])=false:=(by rw[hb];rfl);have e2:(f.base==[105,110,116])=false:=(by rw[hb];rfl);have e3:(f.base==[108,111,110,103])=false:=(by rw[hb];rfl);have c1:f.base≠uo:=(by rw[hb];decide);have c2:f.base≠B0:=(by rw[hb];decide);have c3:f.base≠xF:=(by rw[hb];decide);by_cases hs:0<f.jG
   ·have hm:tL names es f=(8,8,0):=(by unfold tL;rw[az (fun e=>e.2 h1),aW hs]);rw[hm];simp[ub,gt,YD,nt,nt.symm,nn,nn.symm,h2,hs];exact⟨rfl,kT⟩
   ·simp[ub,gt,YD,nt,nt.symm,nn,nn.symm,h2,hs,e1,e2,e3];refine Dd ?_;have fj:=fr (h.next+25) om;rcases x7 f.name es 0 with⟨h4,h5⟩|⟨e,h4,j',h5⟩
    ·have hm:tL names es f=(0,0,5):=by
      unfold tL;rw[az (fun e=>e.2 h1),az hs,az c1,az c2,az c3,aW hb,h4]
     rw[hm];simp[gt,gs,nt,nt.symm,ns,ns.symm,h5,fj];have y0:=nt.symm;have y1:=ns.symm;refine dl ?_;exact⟨rfl,kT⟩
    ·have hm:tL names es f=(e.size,e.align,0):=by
      unfold tL;rw[az (fun e=>e.2 h1),az hs,az c1,az c2,az c3,aW hb,h4]
     rw[hm];simp[gt,gs,nt,nt.symm,ns,ns.symm,h5,pW.val,fj];have y0:=nt.symm;have y1:=ns.symm;refine dl ?_;refine Dd ?_;simp[gt,gs,nt,nt.symm,ns,ns.symm,h5,pW.val,fj];exact⟨rfl,kT⟩
 ·have ub:(f.base==[115,116,114,117,99,116])=false:=by rw[<-q0];simpa using hb
  have m0:¬(f.base=iC/\f.name∉names):=fun e=>hb e.1;by_cases hs:0<f.jG
  ·have hm:tL names es f=(8,8,0):=(by unfold tL;rw[az m0,aW hs]);rw[hm];simp[ub,gt,hs];exact⟨rfl,kT⟩
  ·cases e1:(f.base==[99,104,97,114])with
   |true=>
    have hm:tL names es f=(1,1,0):=(by unfold tL;rw[az m0,az hs,aW (show f.base=uo from qC.1 e1)]);rw[hm];simp[ub,gt,hs,e1];exact⟨rfl,kT⟩
   |false=>
   have c1:f.base≠uo:=(by intro e;rw[e]at e1;simp[uo]at e1);cases e2:(f.base==[105,110,116])with
   |true=>
    have hm:tL names es f=(4,4,0):=(by unfold tL;rw[az m0,az hs,az c1,aW (show f.base=B0 from qC.1 e2)]);rw[hm];simp[ub,gt,hs,e1,e2];exact⟨rfl,kT⟩
   |false=>
   have c2:f.base≠B0:=(by intro e;rw[e]at e2;simp[B0]at e2);cases e3:(f.base==[108,111,110,103])with
   |true=>
    have hm:tL names es f=(8,8,0):=(by unfold tL;rw[az m0,az hs,az c1,az c2,aW (show f.base=xF from qC.1 e3)]);rw[hm];simp[ub,gt,hs,e1,e2,e3];exact⟨rfl,kT⟩
   |false=>
    have c3:f.base≠xF:=(by intro e;rw[e]at e3;simp[xF]at e3);have hm:tL names es f=(0,0,5):=(by unfold tL;rw[az m0,az hs,az c1,az c2,az c3,az hb]);rw[hm];simp[ub,gt,hs,e1,e2,e3];exact⟨rfl,kT⟩
end
section
attribute [local simp] aI
theorem xG:∀(l:List UInt8)(acc u:Nat),Lib.parseUint10 acc l= .ok u->acc<=u
 |[],acc,u,h=>by
  simp only[Lib.parseUint10]at h;injection h with h;omega
 |c::r,acc,u,h=>by
  simp only[Lib.parseUint10]at h;split at h
  ·split at h
   ·cases h
   ·split at h
    ·cases h
    ·have:=xG r _ u h;omega
  ·cases h
theorem P8{c:UInt8}{ds cs:List UInt8}(h:Lib.trimS (c::ds) cs=[]):cs.contains c=true:=by
 cases hc:cs.contains c with
 |true=>rfl
 |false=>
  exfalso;unfold Lib.trimS Lib.trimLeftS Lib.trimRightS at h;rw[List.reverse_cons,List.dropWhile_append]at h;split at h
  ·simp only[List.dropWhile_cons,hc,List.dropWhile_nil,gR,iW,List.reverse_cons,List.reverse_nil,cd]at h;cases h
  ·simp only[List.reverse_append,List.reverse_cons,List.reverse_nil,cd,bZ,List.dropWhile_cons,hc,gR,iW]at h;cases h
theorem T9{c:UInt8}{ds:List UInt8}(hc:c≠48)(h:Lib.trimS (c::ds) digits=[]):1<=vZ (c::ds)/\vZ (c::ds)<=65537:=by
 have hd:=P8 h;have hr:49<=c.toNat/\c.toNat<=57:=by
  have h0:c.toNat≠48:=fun e=>hc (eh (by rw[e];rfl));simp only[digits,lN,aq,bd,cT]at hd;rcases hd with e|e|e|e|e|e|e|e|e|e<;>subst e<;>first|(exact⟨dc,dc⟩)|exact absurd rfl hc
 unfold vZ;split
 ·rename_i v hv;have h1:1<=v:=by
   simp only[Lib.atoiAll]at hv;rw[az om]at hv;split at hv
   ·cases hv
   ·cases hv
   ·rename_i u hu;have hu1:1<=u:=by
     simp only[Lib.parseMag,List.cons_ne_nil,iW,Lib.parseUint10]at hu;rw[aW om,az om,az om]at hu;have:=xG _ _ _ hu;omega
    split at hv
    ·cases hv
    ·split at hv
     ·cases hv
     ·injection hv with hv;rw[az om]at hv;omega
  split<;>omega
 ·omega
theorem Ox{s:List UInt8}(ha:(rd s).1.arr=true):1<=(rd s).1.many/\(rd s).1.many<=65537:=by
 cases hr:yx s with
 |none=>simp only[rd,hr]at ha;cases ha
 |some p=>
  obtain⟨a,m⟩:=p;simp only[rd,hr]at ha⊢;have h1:(lJ (qv s).1 a m).1.arr=a/\(lJ (qv s).1 a m).1.many=m:=by
   unfold lJ;dsimp only;split<;>exact⟨rfl,rfl⟩
  rw[h1.1]at ha;rw[h1.2];subst ha;unfold yx at hr;split at hr
  ·unfold HN at hr;split at hr
   ·split at hr
    ·cases hr
    ·rename_i c ds _;split at hr
     ·cases hr
     ·rename_i h48;split at hr
      ·rename_i ht;simp only[Option.map]at hr;injection hr with hr;injection hr with _ hr;subst hr;exact T9 h48 ht
      ·cases hr
   ·cases hr
  ·injection hr with hr;injection hr with hr _;cases hr
def uD(names:List (List UInt8))(es:List pW)(s:List UInt8):Int×Int×Int:=
 if(rd s).2=true then
  if(tL names es (rd s).1).2.2=0 then
   if(rd s).1.arr=true then
    if Int.tdiv 65536 (tL names es (rd s).1).1<(rd s).1.many then(0,0,2)
    else((tL names es (rd s).1).1*(rd s).1.many,(tL names es (rd s).1).2.1,0)
   else((tL names es (rd s).1).1,(tL names es (rd s).1).2.1,0)
  else(0,0,(tL names es (rd s).1).2.2)
 else(0,0,5)
def Fits(es:List pW):Prop:=∀e∈es,1<=e.size/\e.size<=65536/\(e.align=1\/e.align=4\/e.align=8)/\e.size%e.align=0
theorem su{k:List UInt8}:∀{es:List pW}{e:pW},nh k es=some e->e∈es/\e.name=k
 |[],e,h=>by cases h
 |x::es,e,h=>by
  simp only[nh]at h;split at h
  ·rename_i hx;injection h with h;subst h;exact⟨sp,hx⟩
  ·have:=su h;exact⟨by simp[this.1],this.2⟩
theorem Kf{names:List (List UInt8)}{es:List pW}{f:Fm}(hE:Fits es)(h0:(tL names es f).2.2=0):
 1<=(tL names es f).1/\(tL names es f).1<=65536/\((tL names es f).2.1=1\/(tL names es f).2.1=4\/(tL names es f).2.1=8)/\(tL names es f).1%(tL names es f).2.1=0:=by
 unfold tL at h0⊢;split
 ·rename_i h;rw[aW h]at h0;cases h0
 ·rename_i h;rw[az h]at h0;split
  ·exact⟨dc,dc,.inr (.inr rfl),rfl⟩
  ·rename_i h;rw[az h]at h0;split
   ·exact⟨dc,dc,.inl rfl,rfl⟩
   ·rename_i h;rw[az h]at h0;split
    ·exact⟨dc,dc,.inr (.inl rfl),rfl⟩
    ·rename_i h;rw[az h]at h0;split
     ·exact⟨dc,dc,.inr (.inr rfl),rfl⟩
     ·rename_i h;rw[az h]at h0;split
      ·rename_i h;rw[aW h]at h0;split
       ·rename_i hn;simp only[hn]at h0;cases h0
       ·rename_i e he;exact hE e (su he).1
      ·rename_i h;rw[az h]at h0;cases h0
theorem Xy(names:List (List UInt8))(es:List pW)(f:Fm):(tL names es f).2.2=0\/(tL names es f).2.2=5:=by
 unfold tL
 repeat' split
 all_goals first|exact .inl rfl|exact .inr rfl
theorem Oy(names:List (List UInt8))(es:List pW)(s:List UInt8):(uD names es s).2.2=0\/(uD names es s).2.2=2\/(uD names es s).2.2=5:=by
 unfold uD;split
 ·split
  ·split
   ·split
    ·exact .inr (.inl rfl)
    ·exact .inl rfl
   ·exact .inl rfl
  ·rcases Xy names es (rd s).1 with e|e
   ·rename_i h;exact(h e).elim
   ·exact .inr (.inr e)
 ·exact .inr (.inr rfl)
theorem DF{names:List (List UInt8)}{es:List pW}{s:List UInt8}(hE:Fits es)(h0:(uD names es s).2.2=0):
 1<=(uD names es s).1/\(uD names es s).1<=65536/\((uD names es s).2.1=1\/(uD names es s).2.1=4\/(uD names es s).2.1=8):=by
 unfold uD at h0⊢;split
 ·rename_i h;rw[aW h]at h0;split
  ·rename_i h1;rw[aW h1]at h0;obtain⟨a1,a2,a3,a4⟩:=Kf hE h1;split
   ·rename_i h2;rw[aW h2]at h0;have hm:=Ox h2;split
    ·rename_i h3;rw[aW h3]at h0;cases h0
    ·rename_i h3;refine⟨?_,?_,a3⟩
     ·have:=Int.mul_le_mul a1 hm.1 om om;omega
     ·have h4:(rd s).1.many<=Int.tdiv 65536 (tL names es (rd s).1).1:=om;have h5:=Int.mul_le_mul_of_nonneg_left h4 (show 0<=(tL names es (rd s).1).1 from om);rw[fy om]at h5;have h7:=Int.mul_ediv_self_le (x:=65536) (k:=(tL names es (rd s).1).1) om;omega
   ·exact⟨a1,a2,a3⟩
  ·rename_i h1;rw[az h1]at h0;exact(h1 h0).elim
 ·rename_i h;rw[az h]at h0;cases h0
theorem tdiv_le{a:Int}(h1:1<=a):0<=Int.tdiv 65536 a/\Int.tdiv 65536 a<=65536:=by
 rw[fy dc];exact⟨Int.ediv_nonneg dc om,Int.ediv_le_self _ dc⟩
theorem Ua{t:TypeId}{a:Int}(h1:1<=a):cn (Go.binOp .quo t (.int .i64 65536) (.int .i64 a))=some (.I (Int.tdiv 65536 a)):=by
 have hb:=tdiv_le h1;have w:IntKind.wrap .i64 (Int.tdiv 65536 a)=Int.tdiv 65536 a:=wr om om;have hz:¬a=0:=om
 simp[Go.binOp,Op.intArith,Op.intDiv,cn,iM,pure,Sem.pure,hz];exact w
theorem Ha(h:ah)(tb nm st:Nat)(names:List (List UInt8))(es:List pW)(s:List UInt8)(hT:rG tb nm st h names es)(fr:cM h)(hE:Fits es)(hs:s.length<=1000000):
 aV env 87 [.P tb,.str s] h (fun out h'=>out=A2 (uD names es s)/\aS h h'):=by
 refine wb fn87 rfl ?_;simp[f87];refine(HO h s hs).mono fun out h1 hq=>?_;obtain⟨rfl,k1⟩:=hq;have T1:=hT.aJ k1;have n1:=k1.next;have f1:=k1.fresh fr;obtain⟨f,hf⟩:∃x,x=(rd s).1:=⟨_,rfl⟩
 rw[<-hf];have nt:tb≠h1.next:=by have:=T1.lt;omega
 simp[Fm.av];cases gJ:(rd s).2 with
 |false=>
  have hz:uD names es s=(0,0,5):=by unfold uD;simp[gJ]
  rw[hz];simp;exact⟨rfl,kT⟩
 |true=>
  have K2:aS h1 ((h1.alloc (.C [.str [],.str [],.I 0,.bool false,.I 0])).2.set h1.next (.C [.str f.base,.str f.name,.I f.jG,.bool f.arr,.I f.many])):=kT;simp;refine(FY _ tb nm st names es f (T1.aJ K2) (K2.fresh f1)).mono fun out h3 hq=>?_;obtain⟨rfl,k3⟩:=hq;obtain⟨z,al,er,hM⟩:∃z al er,tL names es f=(z,al,er):=⟨_,_,_,rfl⟩
  have gf:h3.get h1.next=some (.C [.str f.base,.str f.name,.I f.jG,.bool f.arr,.I f.many]):=(k3.old h1.next sp).trans sp;have n3:=k3.next;simp at n3;have KK:=k1.trans (K2.trans k3);have Co:uD names es s=if er=0 then(if f.arr=true then(if Int.tdiv 65536 z<f.many then(0,0,2)else(z*f.many,al,0))else(z,al,0))else(0,0,er):=by
   unfold uD;rw[aW gJ,<-hf,hM]
  rw[hM];by_cases he:er=0
  ·subst he;rw[aW rfl]at Co;have hz:=Kf (f:=f) (names:=names) hE (by rw[hM]);rw[hM]at hz;cases ha:f.arr with
   |false=>
    rw[ha]at Co gf;simp at Co;rw[Co];simp[A2,gf];exact KK
   |true=>
    have Nc:=Ox (s:=s) (by rw[<-hf];exact ha);rw[<-hf]at Nc;rw[ha]at Co gf;simp only[lM]at Co;have wB:1<=z:=hz.1;have q1:=@Ua 3 z wB;have tb2:=tdiv_le wB;simp[A2,gf];refine Dd ?_;by_cases cX:Int.tdiv 65536 z<f.many
    ·rw[aW cX]at Co;rw[Co];simp[gf,q1,cX];exact kT
    ·rw[az cX]at Co;rw[Co];simp[gf,q1,cX];refine⟨wr ?_ ?_,kT⟩
     ·have:0<=z*f.many:=Int.mul_nonneg om om;omega
     ·rw[fy dc]at cX;have zB:z*f.many<=z*(65536/z):=Int.mul_le_mul_of_nonneg_left om om;have UI:z*(65536/z)<=65536:=Int.mul_ediv_self_le om;omega
  ·rw[az he]at Co;rw[Co];have heb:(er !=0)=true:=(by simpa using he);simp[A2,heb];exact KK
end
section
attribute [local simp] aI
def vT(s:List UInt8):Bool:=s==[99,104,97,114]||(s==[105,110,116]||s==[108,111,110,103])
theorem Kg(h:ah)(s:List UInt8):aV env 192 [.str s] h (fun out h'=>out= .ret (.bool (vT s))/\h'=h):=by
 refine wb fn192 rfl ?_;cases e1:(s==[99,104,97,114])<;>cases e2:(s==[105,110,116])<;>simp[f192,vT,e1,e2]
theorem lP(h:ah)(s:List UInt8):aV env 36 [.str s] h (fun out h'=>out= .ret (.bool (vT s))/\h'=h):=by
 refine wb fn36 rfl ?_;cases e1:(s==[99,104,97,114])<;>cases e2:(s==[105,110,116])<;>simp[f36,vT,e1,e2]
def xg(a b:List UInt8):List UInt8×Bool:=if vT a=true/\vT b=true then(if(a==[108,111,110,103]||b==[108,111,110,103])=true then([108,111,110,103],true)else([105,110,116],true))else([],false)
theorem Cw(h:ah)(a b:List UInt8):aV env 160 [.str a,.str b] h (fun out h'=>out= .ret (.iX [.str (xg a b).1,.bool (xg a b).2])/\h'=h):=by
 refine wb fn160 rfl ?_;simp[f160];refine(Kg h a).mono fun out h1 hq=>?_;obtain⟨rfl,rfl⟩:=hq;cases ha:vT a with
 |false=>simp[xg,ha]
 |true=>
  simp;refine(Kg h1 b).mono fun out h1 hq=>?_;obtain⟨rfl,rfl⟩:=hq;cases hb:vT b with
  |false=>simp[xg,ha,hb]
  |true=>
   cases e1:(a==[108,111,110,103])<;>cases e2:(b==[108,111,110,103])<;>simp[xg,ha,hb,e1,e2]
def xi(f:Fm):List UInt8:=(if f.name=[]then f.base else f.base++32::f.name)++(List.replicate f.jG.toNat [42]).flatten
def P9(H:ah)(k:Nat)(fl:List UInt8):Prop:=eJ GY [.str [42],.I (k:Nat)] H=some (.ret (.str fl),H)
theorem Oz(h:ah)(f:Fm)(h0:0<=f.jG)(h1:f.jG<=100000)(h2:f.base.length<=1000000)(h3:f.name.length<=1000000):aV env 193 [f.av] h (fun out h'=>out= .ret (.str (xi f))/\aS h h'):=by
 refine wb fn193 rfl ?_;obtain⟨k,hk⟩:∃k:Nat,f.jG=k:=⟨f.jG.toNat,om⟩
 have lf:((List.replicate k ([42]:List UInt8)).flatten).length=k:=sp
 obtain⟨fl,HW⟩:∃x,x=(List.replicate k ([42]:List UInt8)).flatten:=⟨_,rfl⟩
 rw[<-HW]at lf;have rep:∀H,P9 H k fl:=fun H=>by
  show eJ GY [.str [42],.I (k:Nat)] H=_;rw[HW];simp[eJ,GY];rw[aW om]
 by_cases jX:f.name=[]
 ·have he:xi f=f.base++fl:=by unfold xi;rw[aW jX,hk,HW];simp
  have l1:f.base.length+fl.length<=4611686018427387904:=by omega
  have l1':f.base.length+k<=4611686018427387904:=by omega
  rw[he];simp[f193,Fm.av,jX,hk];refine aV.fw pr80 (rep _) ?_;simp[l1,l1',lf];exact kT
 ·have hte:f.name.isEmpty=false:=by
   cases Hf:f.name with
   |nil=>exact(jX Hf).elim
   |cons=>rfl
  have he:xi f=(f.base++32::f.name)++fl:=by unfold xi;rw[az jX,hk,HW];simp
  have l0:1+f.name.length<=4611686018427387904:=by omega
  have l0':f.name.length<=4611686018427387903:=by omega
  have l2:f.base.length+(f.name.length+1)<=4611686018427387904:=by omega
  have l3:f.base.length+(f.name.length+1+fl.length)<=4611686018427387904:=by omega
  have l4:f.base.length+(f.name.length+(1+fl.length))<=4611686018427387904:=by omega
  have l5:f.base.length+(f.name.length+(1+k))<=4611686018427387904:=by omega
  rw[he];simp[f193,Fm.av,hte,hk,l0,l0',l2];refine aV.fw pr80 (rep _) ?_;simp[l3,l4,l5,lf];exact kT
end
section
attribute [local simp] aI
theorem abB(s:List UInt8):0<=(rd s).1.jG/\(rd s).1.jG<=s.length/\(rd s).1.base.length<=s.length+6/\(rd s).1.name.length<=s.length:=by
 unfold rd;cases hr:yx s with
 |none=>simp[Fm.zero]
 |some p=>
  obtain⟨a,m⟩:=p;have c1:=DC s;have tl:=uj (qv s).1 42;simp only;unfold lJ;simp only;split
  ·rename_i hp;have lnm:(Lib.trimPrefix (Lib.trimRightB (qv s).1 42) jE).length<=(Lib.trimRightB (qv s).1 42).length:=by
    unfold Lib.trimPrefix;rw[aW hp,bU];omega
   simp only[iC,ai,bz];omega
  ·simp only[bz];omega
def NO(s:List UInt8):List UInt8×Bool:=
 if(rd s).2=false then([],false)else if(rd s).1.arr=true then(xi (rd s).1,true)
 else if 0<(rd s).1.jG then(xi ⟨(rd s).1.base,(rd s).1.name,(rd s).1.jG-1,(rd s).1.arr,(rd s).1.many⟩,true)else([],false)
theorem NX(h:ah)(s:List UInt8)(hs:s.length<=100000):aV env 164 [.str s] h (fun out h'=>out= .ret (.iX [.str (NO s).1,.bool (NO s).2])/\aS h h'):=by
 refine wb fn164 rfl ?_;simp[f164];refine(HO h s om).mono fun out h1 hq=>?_;obtain⟨rfl,k1⟩:=hq;have rl:=abB s;have n1:=k1.next;have hel:NO s=NO s:=rfl;unfold NO at hel⊢;clear hel;obtain⟨f,hf⟩:∃x,x=(rd s).1:=⟨_,rfl⟩
 rw[<-hf]at rl⊢;simp[Fm.av];cases gJ:(rd s).2 with
 |false=>
  simp;exact kT
 |true=>
  simp;cases ha:f.arr with
  |true=>
   simp;have te:=fun H=>Oz H f om om om om;simp only[Fm.av,ha]at te;refine(te _).mono fun out h3 hq=>?_;obtain⟨rfl,k3⟩:=hq;simp;have K2:aS h1 ((h1.alloc (.C [.str [],.str [],.I 0,.bool false,.I 0])).2.set h1.next (.C [.str f.base,.str f.name,.I f.jG,.bool true,.I f.many])):=kT;exact(k1.trans K2).trans k3
  |false=>
   by_cases h0:0<f.jG
   ·have w1:IntKind.wrap .i64 (f.jG-1)=f.jG-1:=wr om om;simp[h0,w1];have te:=fun H=>Oz H ⟨f.base,f.name,f.jG-1,false,f.many⟩ (by simp only;omega) (by simp only;omega) (by simp only;omega) (by simp only;omega);simp only[Fm.av]at te;refine(te _).mono fun out h3 hq=>?_;obtain⟨rfl,k3⟩:=hq;simp;refine aS.trans ?_ k3;exact kT
   ·simp[h0];exact kT
def scF(names:List (List UInt8))(es:List pW)(s:List UInt8):Bool:=
 if(rd s).2=false\/(rd s).1.arr=true\/((rd s).1.jG=0/\(rd s).1.base=iC)then false else(tL names es (rd s).1).2.2==0
theorem Fv(h:ah)(tb nm st:Nat)(names:List (List UInt8))(es:List pW)(s:List UInt8)(hT:rG tb nm st h names es)(fr:cM h)(hs:s.length<=1000000):
 aV env 88 [.P tb,.str s] h (fun out h'=>out= .ret (.bool (scF names es s))/\aS h h'):=by
 refine wb fn88 rfl ?_;simp[f88];refine(HO h s hs).mono fun out h1 hq=>?_;obtain⟨rfl,k1⟩:=hq;have T1:=hT.aJ k1;have n1:=k1.next;have f1:=k1.fresh fr;unfold scF;obtain⟨f,hf⟩:∃x,x=(rd s).1:=⟨_,rfl⟩
 rw[<-hf];simp[Fm.av];cases gJ:(rd s).2 with
 |false=>
  simp;exact kT
 |true=>
  cases ha:f.arr with
  |true=>
   simp;exact kT
  |false=>
   have K2:aS h1 ((h1.alloc (.C [.str [],.str [],.I 0,.bool false,.I 0])).2.set h1.next (.C [.str f.base,.str f.name,.I f.jG,.bool false,.I f.many])):=kT;have ms:=(FY _ tb nm st names es f (T1.aJ K2) (K2.fresh f1))
   simp only[Fm.av,ha]at ms;cases h0:(f.jG==0)with
   |false=>
    have Fp:¬f.jG=0:=(by simpa using h0);simp[h0,Fp];refine ms.mono fun out h3 hq=>?_;obtain⟨rfl,k3⟩:=hq;simp[A2];exact(k1.trans K2).trans k3
   |true=>
    have Fp:f.jG=0:=(by simpa using h0);cases hb:(f.base==[115,116,114,117,99,116])with
    |true=>
     have ub:f.base=iC:=qC.1 hb;simp[h0,Fp,hb,ub,iC];exact kT
    |false=>
     have ub:¬f.base=iC:=(by intro e;rw[e]at hb;simp[iC]at hb);simp[h0,Fp,hb,ub];rw[Fp]at ms K2;refine ms.mono fun out h3 hq=>?_;obtain⟨rfl,k3⟩:=hq;simp[A2];exact(k1.trans K2).trans k3
end
section
attribute [local simp] aI
theorem oM:∀ps:List A7,(flat ps).length=ps.length*3
 |[]=>rfl
 |p::ps=>by
  have:=oM ps;simp only[flat,cY,j1,bO,ai,A7.cs,bz]at this⊢;omega
theorem Kh(a b:List A7):flat (a++b)=flat a++flat b:=by simp[flat]
theorem xH:∀ps:List A7,(flat ps).all AV.scalar=true
 |[]=>rfl
 |p::ps=>by
  have:=xH ps;simp only[flat,cY,j1,List.all_append,A7.cs]at this⊢;simp[this,AV.scalar]
def Az(H:ah)(sl:AV)(ps:List A7)(b:Nat):Prop:=
 (ps=[]/\sl= .Z)\/(∃po,sl= .S po ps.length/\H.get po=some (.cells true 3 (flat ps))/\b<=po/\po<H.next)
theorem agN{H:ah}{q:Nat}{r:List A7}{a:Nat}(hq:H.get q=some (.cells true 3 (flat r)))(ha:a=r.length):OA H 3 (.S q a)=some (r.length,flat r):=by
 subst ha;simp only[OA,ah.loadCells,hq,oM,eY,ao,lM,List.drop_zero];have:List.take (r.length*3) (flat r)=flat r:=eX (by rw[oM];exact ao _);rw[this,xH];rfl
abbrev Cy:=List UInt8×List UInt8
def pw(fs:List Cy):List AV:=(fs.map fun f=>[.str f.1,.str f.2]).flatten
theorem vD:∀fs:List Cy,(pw fs).length=fs.length*2
 |[]=>rfl
 |p::ps=>by
  have:=vD ps;simp only[pw,cY,j1,bO,ai,bz]at this⊢;omega
theorem Ki:∀(fs:List Cy)(i:Nat)(f:Cy),fs[i]?=some f->List.take 2 (List.drop (i*2) (pw fs))=[.str f.1,.str f.2]
 |[],i,f,h=>by simp at h
 |p::ps,0,f,h=>by
  simp only[ed,bw]at h;subst h;simp[pw]
 |p::ps,i+1,f,h=>by
  have:=Ki ps i f (by simpa using h);rw[show(i+1)*2=i*2+1+1 by omega];simpa[pw]using this
structure Qq where
 met:List (List UInt8)
 ps:List A7
 size:Int
 align:Int
 long:Bool
def uv(n a:Int):Int:=Int.tdiv (n+a-1) a*a
def jW(names:List (List UInt8))(es:List pW)(s:Qq)(f:Cy):Option Qq:=
 if f.1∈s.met then none
 else if gn f.1=true then
  if(uD names es f.2).2.2=5 then none
  else if s.long=true\/(uD names es f.2).2.2=2 then some {s with met:=s.met++[f.1],long:=true}
  else some ⟨s.met++[f.1],s.ps++[⟨f.1,f.2,uv s.size (uD names es f.2).2.1⟩],uv s.size (uD names es f.2).2.1+(uD names es f.2).1,max s.align (uD names es f.2).2.1,
   decide (65536<uv s.size (uD names es f.2).2.1+(uD names es f.2).1)⟩
 else none
def qP(names:List (List UInt8))(es:List pW):List Cy->Qq->Option Qq
 |[],s=>some s
 |f::fs,s=>match jW names es s f with
  |none=>none
  |some s'=>qP names es fs s'
def DY:Qq:=⟨[],[],0,1,false⟩
inductive ael where
 |bad (e:Int)
 |JN (ps:List A7) (size align:Int)
def wy(names:List (List UInt8))(es:List pW)(fs:List Cy):ael:=match qP names es fs DY with
 |none=> .bad 5
 |some s=>if s.long=true\/65536<uv s.size s.align then .bad 2 else .JN s.ps (uv s.size s.align) s.align
structure FZ(s:Qq):Prop where
 lo:0<=s.size
 hi:s.size<=140000
 al:s.align=1\/s.align=4\/s.align=8
 sh:s.long=false->s.size<=65536
 ln:(s.ps.length:Int)<=s.size
theorem AA{n a:Int}(hn:0<=n)(ha:a=1\/a=4\/a=8):n<=uv n a/\uv n a<n+a/\uv n a%a=0:=by
 unfold uv;rcases ha with rfl|rfl|rfl<;>(rw[fy om];omega)
theorem F8:FZ DY:=⟨dc,dc,.inl rfl,fun _=>dc,dc⟩
theorem AB{names:List (List UInt8)}{es:List pW}{s s':Qq}{f:Cy}(hE:Fits es)(hs:FZ s)(h:jW names es s f=some s'):FZ s':=by
 unfold jW at h;split at h
 ·cases h
 ·split at h
  ·split at h
   ·cases h
   ·rename_i h5;split at h
    ·injection h with h;subst h;exact⟨hs.lo,hs.hi,hs.al,(fun e=>by cases e),hs.ln⟩
    ·rename_i hl;have h0:(uD names es f.2).2.2=0:=by
      rcases Oy names es f.2 with e|e|e
      ·exact e
      ·exact(hl (.inr e)).elim
      ·exact(h5 e).elim
     obtain⟨b1,b2,b3⟩:=DF hE h0;have Ee:s.long=false:=by
      cases e:s.long with
      |false=>rfl
      |true=>exact(hl (.inl e)).elim
     have XB:=hs.sh Ee;obtain⟨u1,u2,u3⟩:=AA hs.lo b3;have:=hs.ln;have Xg:=hs.lo;injection h with h;subst h;refine⟨by dsimp only;omega,by dsimp only;omega,?_,?_,?_⟩
     ·dsimp only;rcases hs.al with e|e|e<;>rcases b3 with e'|e'|e'<;>rw[e,e']<;>decide
     ·dsimp only;intro e;have:=of_decide_eq_false e;omega
     ·simp only[bO,ai,bz,Int.natCast_add];omega
  ·cases h
theorem Az.mono{H G:ah}{sl:AV}{ps:List A7}{b b':Nat}(hp:Az H sl ps b)(hb:b'<=b)(hn:H.next<=G.next)(hg:∀j,b<=j->j<H.next->G.get j=H.get j):Az G sl ps b':=by
 rcases hp with⟨h1,h2⟩|⟨po,h1,h2,h3,h4⟩
 ·exact .inl ⟨h1,h2⟩
 ·exact .inr ⟨po,h1,(hg po h3 h4).trans h2,bk hb h3,aw h4 hn⟩
theorem Az.scalar{H:ah}{sl:AV}{ps:List A7}{b:Nat}(hp:Az H sl ps b):AV.scalar sl=true/\sl.cells=[sl]:=by
 rcases hp with⟨h1,rfl⟩|⟨po,rfl,h2,h3,h4⟩
 ·exact⟨rfl,rfl⟩
 ·exact⟨rfl,rfl⟩
theorem F9{n a:Int}(hn:0<=n)(h2:n<=140000)(ha:a=1\/a=4\/a=8):IntKind.wrap .i64 (n+a)=n+a/\IntKind.wrap .i64 (n+a-1)=n+a-1/\IntKind.wrap .i64 (Int.tdiv (n+a-1) a)=Int.tdiv (n+a-1) a/\IntKind.wrap .i64 (Int.tdiv (n+a-1) a*a)=uv n a:=by
 obtain⟨h3,h4,_⟩:=AA hn ha;refine⟨wr om om,wr om om,?_,?_⟩
 ·rw[fy om];rcases ha with rfl|rfl|rfl<;>exact wr om om
 ·show IntKind.wrap .i64 (uv n a)=_;exact wr om om
structure abC(h:ah)(tb o:Nat)(fs:List Cy)(i:Nat)(s:Qq)(x:St):Prop where
 n:x.n=110
 ds:x.ds=[]
 bI:x.bI=false
 r0:x.rg.get 0=some (.P tb)
 r4:x.rg.get 4=some (.P (h.next+1))
 r6:x.rg.get 6=some (.map (some (h.next+2)))
 r7:x.rg.get 7=some (.P (h.next+3))
 r8:x.rg.get 8=some (.bool s.long)
 B1:x.rg.get 18=some (.S o fs.length)
 B2:x.rg.get 19=some (.I fs.length)
 D9:x.rg.get 20=some (.I i)
 c4:x.h.get (h.next+1)=some (.C [.Z,.I 0,.I 0])
 c6:x.h.get (h.next+2)=some (.map (jd s.met))
 c7:∃sl,x.h.get (h.next+3)=some (.C [sl,.I s.size,.I s.align])/\Az x.h sl s.ps (h.next+4)
 k:aS h x.h
 nx:h.next+4<=x.h.next
def Ub(h:ah)(r:ael)(out:Out)(h':ah):Prop:=match r with
 | .bad e=>out= .ret (.iX [.agg [.Z,.I 0,.I 0],.I e])
 | .JN ps size align=>∃sl,out= .ret (.iX [.agg [sl,.I size,.I align],.I 0])/\Az h' sl ps h.next
end
section
attribute [local simp] aI
theorem DQ{t:TypeId}{a b:Int}(h0:0<=a)(h1:a<=9223372036854775807)(hb:1<=b):cn (Go.binOp .quo t (.int .i64 a) (.int .i64 b))=some (.I (Int.tdiv a b)):=by
 have hz:¬b=0:=om
 have e:Int.tdiv a b=a/b:=fy h0;have h2:0<=a/b:=Int.ediv_nonneg h0 om;have h3:a/b<=a:=Int.ediv_le_self _ h0;have w:IntKind.wrap .i64 (Int.tdiv a b)=Int.tdiv a b:=by rw[e];exact wr om om
 simp[Go.binOp,Op.intArith,Op.intDiv,cn,iM,pure,Sem.pure,hz];exact w
theorem Az.arr{H:ah}{sl:AV}{ps:List A7}{b:Nat}(hp:Az H sl ps b):dW [] H sl 3 ps.length (flat ps):=by
 rcases hp with⟨rfl,rfl⟩|⟨po,h1,h2,h3,h4⟩
 ·exact .inl ⟨rfl,rfl,rfl⟩
 ·exact .inr ⟨po,h1,sp,h2⟩
theorem Az.push{H:ah}{sl:AV}{ps:List A7}{b:Nat}(hp:Az H sl ps b)(fr:cM H)(hb:b<=H.next)(hl:ps.length<=300)(p:A7):
 ∃H7,aO env (H.alloc (.cells true 3 p.cs)).2 179 sl (.S H.next 1)=some (.S (H.next+1) (ps.length+1),H7)/\H7.next=H.next+2/\Az H7 (.S (H.next+1) (ps.length+1)) (ps++[p]) b/\(∀i,i<b->H7.get i=H.get i)/\cM H7:=by
 have K:=(aS.refl H).alloc (.cells true 3 p.cs);have a2:=hp.arr.move (Move.k (X:=[]) fr K);obtain⟨H7,ha,nx,g7,k7⟩:=nR (es:=2) (st:=179) (e:=226) rfl ty226.1 ty226.2.1 dc ty226.2.2.2 rfl a2 (oM ps) hl H.next p.cs rfl rfl sp (K.fresh fr);have Ca:(H.alloc (.cells true 3 p.cs)).2.next=H.next+1:=rfl
 rw[Ca]at ha nx g7;refine⟨H7,ha,om,.inr ⟨H.next+1,sp,?_,om,om⟩,fun i hi=>?_,k7.fresh (K.fresh fr)⟩
 ·rw[g7,Kh];simp[flat]
 ·have hni:i∉aK sl:=by
   rcases hp with⟨_,rfl⟩|⟨po,rfl,_,h3,_⟩
   ·simp[aK]
   ·simp only[aK,aR];omega
  rw[k7.old i (by rw[Ca];omega) hni,ah.dz,az om]
theorem abD(h:ah)(tb nm st o:Nat)(names:List (List UInt8))(es:List pW)(nam:List UInt8)(fs:List Cy)(yg:Bool)(Po:Nat)(hT:rG tb nm st h names es)(hF:cM h)(hE:Fits es)
 (ho:h.get o=some (.cells yg Po (pw fs))) (lo:o<h.next) (JS:∀f∈fs,f.1.length<=1000000/\f.2.length<=1000000) (Ys:fs.length<=300):
 aV env 86 [.P tb,.agg [.str nam,.S o fs.length]] h (fun out h'=>Ub h (wy names es fs) out h'/\aS h h'):=by
 refine wb fn86 rfl ?_;have lT:=hT.lt;simp[f86];obtain⟨J,hJ⟩:∃J:Nat->St->Prop,J=(fun m x=>∃i s,i<=fs.length/\m=fs.length-i/\abC h tb o fs i s x/\FZ s/\s.ps.length<=i/\qP names es (fs.drop i) s=qP names es fs DY):=⟨_,rfl⟩
 refine bW J fs.length ?_ ?_
 ·rw[hJ];exact⟨0,DY,bX _,rfl,⟨rfl,rfl,rfl,sp,sp,sp,sp,by simp[DY],sp,sp,sp,sp,by simp[jd,DY],⟨.Z,by simp[DY],.inl ⟨rfl,rfl⟩⟩,kT,sp⟩,F8,ao _,rfl⟩
 intro m x hx;rw[hJ]at hx;obtain⟨rg,n',H,ds,bI⟩:=x;obtain⟨i,s,hi,rfl,L,G,hpi,yJ⟩:=hx;obtain⟨e1,e2,e3,r0,r4,r6,r7,r8,B1,B2,D9,c4,c6,⟨sl,c7,rO⟩,k,nx⟩:=L;dsimp only at e1 e2 e3 r0 r4 r6 r7 r8 B1 B2 D9 c4 c6 c7 rO k nx;subst e1 e2 e3;have TH:=hT.aJ k;have fH:=k.fresh hF;have oH:=(k.old o lo).trans ho;have ltH:=TH.lt;obtain⟨g1,g2,g3,g4,g5⟩:=G;by_cases cX:i<fs.length
 ·obtain⟨f,hf⟩:∃f,fs[i]?=some f:=⟨_,aj cX⟩
  have fW:(i:Int)<(fs.length:Int):=by omega
  have He:f∈fs:=bg hf;have hd:fs.drop i=f::fs.drop (i+1):=by
   rw[ca cX];rw[aj cX]at hf;injection hf with hf;rw[hf]
  have fa:=Ki fs i f hf;have fl:=vD fs;have fb:i*2+2<=(pw fs).length:=by omega
  rw[hd]at yJ;have n0:h.next≠H.next/\h.next+1≠H.next/\h.next+2≠H.next/\h.next+3≠H.next/\tb≠H.next:=by omega
  obtain⟨n1,n2,n3,n4,n5⟩:=n0;have abE:jW names es s f=none->wy names es fs= .bad 5:=fun e=>by
   unfold wy;rw[<-yJ];simp only[qP,e]
  rcases sU f.1 s.met 0 with⟨h1,h2⟩|⟨h1,j,h2,h3⟩
  ·simp[r0,r4,r6,r7,r8,B1,B2,D9,cX,fW,oH,fa,fb,n1,n2,n3,n4,n5,c6,h2];refine(zj _ f.1 (JS f He).1).mono fun out h5 hq=>?_;obtain⟨rfl,rfl⟩:=hq;cases Pb:gn f.1 with
   |false=>
    rw[abE (by unfold jW;rw[az h1,az (by rw[Pb];decide)])];simp[r0,r4,r6,r7,r8,B1,B2,D9,n1,n2,n3,n4,n5,c4];exact⟨rfl,kT⟩
   |true=>
    simp[r0,r4,r6,r7,r8,B1,B2,D9,n1,n2,n3,n3.symm,n4,n5,c4,c6,h2];have K6:aS h (((H.alloc (.C [.str [],.str []])).2.set H.next (.C [.str f.1,.str f.2])).set (h.next+2) (.map (jd s.met++[(.str f.1,.bool true)]))):=kT;have Ol:(((H.alloc (.C [.str [],.str []])).2.set H.next (.C [.str f.1,.str f.2])).set (h.next+2) (.map (jd s.met++[(.str f.1,.bool true)]))).get (h.next+1)=some (.C [.Z,.I 0,.I 0]):=(by simp[n2,c4]);have hz6:(((H.alloc (.C [.str [],.str []])).2.set H.next (.C [.str f.1,.str f.2])).set (h.next+2) (.map (jd s.met++[(.str f.1,.bool true)]))).get (h.next+2)=some (.map (jd (s.met++[f.1]))):=(by simp[jd]);have WR:(((H.alloc (.C [.str [],.str []])).2.set H.next (.C [.str f.1,.str f.2])).set (h.next+2) (.map (jd s.met++[(.str f.1,.bool true)]))).get (h.next+3)=some (.C [sl,.I s.size,.I s.align]):=(by simp[n4,c7]);have hzf:(((H.alloc (.C [.str [],.str []])).2.set H.next (.C [.str f.1,.str f.2])).set (h.next+2) (.map (jd s.met++[(.str f.1,.bool true)]))).get H.next=some (.C [.str f.1,.str f.2]):=(by simp[n3.symm]);have hzn:(((H.alloc (.C [.str [],.str []])).2.set H.next (.C [.str f.1,.str f.2])).set (h.next+2) (.map (jd s.met++[(.str f.1,.bool true)]))).next=H.next+1:=by simp
    have hzp:Az (((H.alloc (.C [.str [],.str []])).2.set H.next (.C [.str f.1,.str f.2])).set (h.next+2) (.map (jd s.met++[(.str f.1,.bool true)]))) sl s.ps (h.next+4):=rO.mono (ao _) (by rw[hzn];omega) (fun j zB UI=>by
     rw[ah.aM,az om,ah.aM,az om,ah.dz,az om])
    obtain⟨h6,YK⟩:∃x,x=(((H.alloc (.C [.str [],.str []])).2.set H.next (.C [.str f.1,.str f.2])).set (h.next+2) (.map (jd s.met++[(.str f.1,.bool true)]))):=⟨_,rfl⟩
    rw[<-YK]at K6 Ol hz6 WR hzf hzn hzp⊢;clear YK;refine(Ha h6 tb nm st names es f.2 (hT.aJ K6) (K6.fresh hF) hE (JS f He).2).mono fun out h7 hq=>?_;obtain⟨rfl,k7⟩:=hq;have d4:=(k7.old (h.next+1) om).trans Ol;have d6:=(k7.old (h.next+2) om).trans hz6;have d7:=(k7.old (h.next+3) om).trans WR;have df:=(k7.old H.next om).trans hzf;have K7:=K6.trans k7;have n7:=k7.next;have p7:Az h7 sl s.ps (h.next+4):=hzp.mono (ao _) n7 (fun j zB UI=>k7.old j UI);have KI:=Oy names es f.2;have Lb:=@DF names es f.2 hE;obtain⟨z,al,er,hM⟩:∃z al er,uD names es f.2=(z,al,er):=⟨_,_,_,rfl⟩
    have B3:jW names es s f=if er=5 then none else if s.long=true\/er=2 then some {s with met:=s.met++[f.1],long:=true}else some ⟨s.met++[f.1],s.ps++[⟨f.1,f.2,uv s.size al⟩],uv s.size al+z,max s.align al,decide (65536<uv s.size al+z)⟩:=by
     unfold jW;rw[az h1,aW Pb,hM]
    rw[hM]at KI Lb⊢;simp only at KI Lb;by_cases h5:er=5
    ·subst h5;rw[aW rfl]at B3;rw[abE B3];simp[A2,r0,r4,r6,r7,r8,B1,B2,D9,d4,d7,df];exact⟨rfl,kT⟩
    ·rw[az h5]at B3;have h5b:(er==5)=false:=(by simpa using h5);by_cases hlg:s.long=true\/er=2
     ·rw[aW hlg]at B3;simp only[qP,B3]at yJ;have wi:IntKind.wrap .i64 ((i:Int)+1)=((i+1:Nat):Int):=(by rw[wr om om];omega);have next:∀da,da.get 0=some (.P tb)->da.get 4=some (.P (h.next+1))->da.get 6=some (.map (some (h.next+2)))->da.get 7=some (.P (h.next+3))->da.get 8=some (.bool true)->da.get 18=some (.S o fs.length)->da.get 19=some (.I fs.length)->da.get 20=some (.I (i+1:Nat))->∃j,j<fs.length-i/\J j ⟨da,110,h7,[],false⟩:=by
       intro da q0 q4 q6 q7 q8 q18 q19 q20;refine⟨fs.length-(i+1),om,?_⟩;rw[hJ];exact⟨i+1,{s with met:=s.met++[f.1],long:=true},cX,rfl,⟨rfl,rfl,rfl,q0,q4,q6,q7,q8,q18,q19,q20,d4,d6,⟨sl,d7,p7⟩,K7,(by show h.next+4<=h7.next;omega)⟩,⟨g1,g2,g3,(fun hh=>by cases hh),g5⟩,(by show s.ps.length<=i+1;omega),yJ⟩
      cases hl:s.long with
      |true=>
       rw[hl]at r8;simp[A2,h5b,r0,r4,r6,r7,r8,B1,B2,D9,wi];exact next _ (by simp[r0]) (by simp[r4]) (by simp[r6]) (by simp[r7]) sp (by simp[B1]) (by simp[B2]) sp
      |false=>
       have AM:er=2:=by
        rcases hlg with hx|hx
        ·rw[hl]at hx;cases hx
        ·exact hx
       subst AM;rw[hl]at r8;simp[A2,h5b,r0,r4,r6,r7,r8,B1,B2,D9,wi];exact next _ (by simp[r0]) (by simp[r4]) (by simp[r6]) (by simp[r7]) sp (by simp[B1]) (by simp[B2]) sp
     ·have hl:s.long=false:=by cases hh:s.long with
       |true=>exact(hlg (.inl hh)).elim
       |false=>rfl
      have Qf:er=0:=by
       rcases KI with hx|hx|hx
       ·exact hx
       ·exact(hlg (.inr hx)).elim
       ·exact(h5 hx).elim
      subst Qf;rw[az hlg]at B3;simp only[qP,B3]at yJ;obtain⟨z1,z2,z3⟩:=Lb rfl;obtain⟨w1,w2,w3,w4⟩:=F9 g1 g2 z3;have w0:=AA g1 z3;have ng:=g4 hl;have hq:=@DQ 3 (s.size+al-1) al om om om;have w5:IntKind.wrap .i64 (uv s.size al+z)=uv s.size al+z:=wr om om;have wi:IntKind.wrap .i64 ((i:Int)+1)=((i+1:Nat):Int):=(by rw[wr om om];omega);have f7:=K7.fresh hF;obtain⟨H8,Oa,LV,p8,sT,fr8⟩:=p7.push f7 om om ⟨f.1,f.2,uv s.size al⟩;simp only[A7.cs]at Oa;have e7:=(sT (h.next+3) om).trans d7;rw[hl]at r8;simp[-aO,A2,r0,r4,r6,r7,r8,B1,B2,D9,d7,df,w1,w2,hq,w3,w4];rw[Oa];have hmx:(if s.align<al then al else s.align)=max s.align al:=(by split<;>omega);have b4:=(sT (h.next+1) om).trans d4;have b6:=(sT (h.next+2) om).trans d6;have K8:aS h H8:=⟨by have:=K7.next;omega,fun i hi=>(sT i om).trans (K7.old i hi),fun _=>fr8⟩
      have l8:h.next+3<H8.next:=om;have G':=AB hE ⟨g1,g2,g3,g4,g5⟩ B3;simp[-aO,r0,r4,r6,r7,r8,B1,B2,D9,e7,w5,wi,hmx];refine⟨fs.length-(i+1),om,?_⟩;rw[hJ];refine⟨i+1,_,cX,rfl,⟨rfl,rfl,rfl,by simp[r0],by simp[r4],by simp[r6],by simp[r7],?_,by simp[B1],by simp[B2],sp,by simp[b4],?_,⟨.S (h7.next+1) (s.ps.length+1),?_,?_⟩,kT,?_⟩,G',?_,yJ⟩
      ·simp
      ·simp[b6]
      ·simp
      ·exact p8.mono (ao _) sp (fun j zB UI=>by simp[show¬j=h.next+3 by omega])
      ·simp;omega
      ·simp;omega
  ·rw[abE (by unfold jW;rw[aW h1])];simp[r0,r4,r6,r7,r8,B1,B2,D9,cX,fW,oH,fa,fb,n1,n2,n3,n4,n5,c4,c6,h2];exact⟨rfl,kT⟩
 ·have np:i=fs.length:=by omega
  subst np;have fW:¬(fs.length:Int)<(fs.length:Int):=by omega
  simp[r0,r4,r6,r7,r8,B1,B2,D9];refine Dd ?_;obtain⟨w1,w2,w3,w4⟩:=F9 g1 g2 g3;have w0:=AA g1 g3;have hq:=@DQ 3 (s.size+s.align-1) s.align om om om;have abF:wy names es fs=if s.long=true\/65536<uv s.size s.align then .bad 2 else .JN s.ps (uv s.size s.align) s.align:=by
   unfold wy;rw[<-yJ,eQ];rfl
  simp[r7,r8,c7,w1,w2,hq,w3,w4];refine dl ?_;have xL:=rO.scalar.1;cases hl:s.long with
  |true=>
   rw[abF,aW (.inl hl)];simp[r4,r7,c4,c7];exact⟨rfl,kT⟩
  |false=>
   by_cases abG:65536<uv s.size s.align
   ·rw[abF,aW (.inr abG)];simp[r4,r7,c4,c7,abG];exact⟨rfl,kT⟩
   ·rw[abF,az (by rw[hl];simp;omega)];obtain⟨ab,nn,Ug⟩:∃ab nn,sl= .slice ab nn:=by
     rcases rO with⟨_,hx⟩|⟨po,hx,_⟩
     ·exact⟨_,_,hx⟩
     ·exact⟨_,_,hx⟩
    subst Ug;simp[r4,r7,c4,c7,abG];refine⟨⟨_,rfl,rO.mono om sp (fun j zB UI=>?_)⟩,kT⟩;simp[show¬j=h.next+1 from om,show¬j=h.next+3 by omega]
end
section
attribute [local simp] aI
theorem O8(h:ah)(tb nm st:Nat)(names:List (List UInt8))(es:List pW)(name:List UInt8)(e:pW)(hT:rG tb nm st h names es)(hf:nh name es=some e)(hp:e.ps≠[])(hl:e.ps.length<=300):
 aV env 167 [.P tb,.str name] h (fun out h'=>∃o,out= .ret (.iX [.S o e.ps.length,.I 0])/\h'.get o=some (.cells true 3 (flat e.ps))/\h.next<=o/\o<h'.next/\aS h h'):=by
 refine wb fn167 rfl ?_;have c1:=hT.t;have c3:=hT.s;have c4:=hT.o e (su hf).1;have lt:=hT.lt;have ls:=hT.ls;have lo:=hT.lo e (su hf).1;have fl:=oM e.ps;rcases x7 name es 0 with⟨h4,_⟩|⟨e',h4,j',h5⟩
 ·rw[hf]at h4;cases h4
 ·rw[hf]at h4;injection h4 with h4;subst h4;have n1:st≠h.next:=by omega
  have n2:e.obj≠h.next:=by omega
  simp[-aO,f167,c1,c3,h5,pW.val,n1,n1.symm,n2,n2.symm];have hu:env.kQ 179=some (.slice 226):=rfl;have r1:¬roomy<e.ps.length*(39+1):=by
   have:e.ps.length*(39+1)<=300*(39+1):=iV _ hl;unfold roomy;omega
  have tk:(flat e.ps).take (e.ps.length*3)=flat e.ps:=eX om;have g1:e.ps.length*3<=(flat e.ps).length:=by omega
  have hpn:e.ps.length≠0:=fun hh=>hp (cw hh);have aaW:¬e.ps.length*3<=0:=by omega
  have xL:=xH e.ps;have jX:e.obj≠h.next+1:=by omega
  have n3:¬e.obj=h.next+1:=by omega
  have n4:¬e.obj=h.next:=by omega
  simp[-nQ,-List.all_eq_true,hu,ty226.1,ty226.2.1,ty226.2.2.2,c4,n3,n4,r1,tk,g1,hpn,aaW,xL];exact kT
end
section
attribute [local simp] aI
structure Sd where
 name:List UInt8
 fs:List Cy
 q:Option (Nat×Nat)
def j9(l:List Sd):List AV:=(l.map fun s=>[.str s.name,.slice s.q s.fs.length]).flatten
theorem mW:∀fs:List Sd,(j9 fs).length=fs.length*2
 |[]=>rfl
 |p::ps=>by
  have:=mW ps;simp only[j9,cY,j1,bO,ai,bz]at this⊢;omega
theorem Ea:∀(fs:List Sd)(i:Nat)(f:Sd),fs[i]?=some f->List.take 2 (List.drop (i*2) (j9 fs))=[.str f.name,.slice f.q f.fs.length]
 |[],i,f,h=>by simp at h
 |p::ps,0,f,h=>by
  simp only[ed,bw]at h;subst h;simp[j9]
 |p::ps,i+1,f,h=>by
  have:=Ea ps i f (by simpa using h);rw[show(i+1)*2=i*2+1+1 by omega];simpa[j9]using this
structure ah0(h:ah)(p:Option (Nat×Nat))(l:List Sd):Prop where
 a:l≠[]->∃a yg Po,p=some (a,0)/\h.get a=some (.cells yg Po (j9 l))/\a<h.next
 f:∀s∈l,s.fs≠[]->∃o yg Po,s.q=some (o,0)/\h.get o=some (.cells yg Po (pw s.fs))/\o<h.next
 len:∀s∈l,s.name.length<=281474976710656/\s.fs.length<=9223372036854775807/\∀f∈s.fs,f.1.length<=281474976710656/\f.2.length<=281474976710656
 n:l.length<=9223372036854775807
inductive rI(N:List (List UInt8)):List Sd->List pW->Prop where
 |nil:rI N [] []
 |snoc {l:List Sd} {es:List pW} {s:Sd} {obj:Nat} {ps:List A7} {size align:Int} (h:rI N l es) (hn:nh s.name es=Option.none) (hf:s.fs≠[]) (hg:gn s.name=true) (hl:wy N es s.fs= .JN ps size align):
  rI N (l++[s]) (es++[⟨s.name,obj,ps,size,align⟩])
theorem Uc{N:List (List UInt8)}{es:List pW}{fs:List Cy}{e:Int}(h:wy N es fs= .bad e):e≠0:=by
 unfold wy at h;split at h
 ·injection h with h;omega
 ·split at h
  ·injection h with h;omega
  ·cases h
theorem Ga{N:List (List UInt8)}{es:List pW}:∀(fs:List Cy)(s s':Qq),FZ s->Fits es->qP N es fs s=some s'->FZ s'/\(s'.long=false->s.long=false\/fs=[])/\(s'.long=false->s'.ps.length=s.ps.length+fs.length)
 |[],s,s',hg,hE,h=>by
  simp only[qP]at h;injection h with h;subst h;exact⟨hg,fun _=> .inr rfl,fun _=>rfl⟩
 |f::fs,s,s',hg,hE,h=>by
  simp only[qP]at h;cases hs:jW N es s f with
  |none=>rw[hs]at h;cases h
  |some s1=>
   rw[hs]at h;have hg1:=AB hE hg hs;obtain⟨a,b,c⟩:=Ga fs s1 s' hg1 hE h;have hl:s.long=true->s1.long=true:=by
    intro hl;unfold jW at hs;split at hs
    ·cases hs
    ·split at hs
     ·split at hs
      ·cases hs
      ·rw[aW (.inl hl)]at hs;injection hs with hs;rw[<-hs]
     ·cases hs
   have My:s'.long=false->s1.long=false\/fs=[]:=b;have Zn:∀(fs:List Cy)(s s':Qq),qP N es fs s=some s'->s.long=true->s'.long=true:=by
    intro fs;induction fs with
    |nil=>intro s s' h hl;simp only[qP]at h;injection h with h;rw[<-h];exact hl
    |cons f fs ih=>
     intro s s' h hl;simp only[qP]at h;cases hs:jW N es s f with
     |none=>rw[hs]at h;cases h
     |some s1=>
      rw[hs]at h;refine ih s1 s' h ?_;unfold jW at hs;split at hs
      ·cases hs
      ·split at hs
       ·split at hs
        ·cases hs
        ·rw[aW (.inl hl)]at hs;injection hs with hs;rw[<-hs]
       ·cases hs
   refine⟨a,fun e=> .inl ?_,fun e=>?_⟩
   ·cases h1:s.long with
    |false=>rfl
    |true=>rw[Zn fs s1 s' h (hl h1)]at e;cases e
   ·rw[c e];have h1:s1.long=false\/s1.long=true:=(by cases s1.long<;>simp);have Gv:s1.long=false:=by
     rcases h1 with h1|h1
     ·exact h1
     ·rw[Zn fs s1 s' h h1]at e;cases e
    unfold jW at hs;split at hs
    ·cases hs
    ·split at hs
     ·split at hs
      ·cases hs
      ·split at hs
       ·injection hs with hs;rw[<-hs]at Gv;cases Gv
       ·injection hs with hs;rw[<-hs];simp only[bO,ai,bz];omega
     ·cases hs
theorem Bd{N:List (List UInt8)}{es:List pW}{fs:List Cy}{ps:List A7}{size align:Int}(hE:Fits es)(hf:fs≠[])(h:wy N es fs= .JN ps size align):
 ps.length=fs.length/\1<=size/\size<=65536/\(align=1\/align=4\/align=8)/\size%align=0/\(ps.length:Int)<=size:=by
 unfold wy at h;split at h
 ·cases h
 ·rename_i s hs;split at h
  ·cases h
  ·rename_i hn;injection h with h1 h2 h3;obtain⟨g,_,c⟩:=Ga fs DY s F8 hE hs;have hl:s.long=false:=by
    cases e:s.long with
    |false=>rfl
    |true=>exact(hn (.inl e)).elim
   have hc:=c hl;have hu:¬65536<uv s.size s.align:=fun e=>hn (.inr e);obtain⟨u1,u2,u3⟩:=AA g.lo g.al;have:=g.ln;have hz:DY.ps.length=0:=rfl;have hf1:1<=fs.length:=(by cases fs with|nil=>exact(hf rfl).elim|cons=>simp);subst h1 h2 h3;exact⟨om,om,om,g.al,u3,om⟩
theorem rI.fits{N:List (List UInt8)}{l:List Sd}{es:List pW}(h:rI N l es):Fits es:=by
 induction h with
 |nil=>intro e he;cases he
 |snoc h hn hf hg hl ih=>
  intro e he;rw[aP]at he;rcases he with he|he
  ·exact ih e he
  ·simp only[aq,bd,cT]at he;subst he;obtain⟨_,a,b,c,d,_⟩:=Bd ih hf hl;exact⟨a,b,c,d⟩
theorem Kj{N:List (List UInt8)}{j:Nat}{k:List UInt8}(h:N[j]?=some k):(jd N).modify j (fun _=>(.str k,.bool true))=jd N:=by
 apply List.ext_getElem?;intro i;rw[List.getElem?_modify];by_cases e:j=i
 ·subst e;simp[jd,h]
 ·simp[e]
def agO(l:List Sd)(out:Out)(h':ah):Prop:=
 (∃i e,e≠0/\out= .ret (.iX [.N,.I i,.I e]))\/
 (∃tb nm st N es,out= .ret (.iX [.P tb,.I 0,.I 0])/\rG tb nm st h' N es/\(∀k,k∈N↔∃s∈l,s.name=k)/\rI N l es)
structure Xz(h:ah)(p:Option (Nat×Nat))(l:List Sd)(i:Nat)(x:St):Prop where
 n:x.n=81
 ds:x.ds=[]
 bI:x.bI=false
 r0:x.rg.get 0=some (.slice p l.length)
 r5:x.rg.get 5=some (.P (h.next+2))
 B1:x.rg.get 18=some (.slice p l.length)
 B2:x.rg.get 19=some (.I l.length)
 D9:x.rg.get 20=some (.I i)
 t:x.h.get (h.next+2)=some (.C [.map (some h.next),.map (some (h.next+1))])
 nm:∃N,x.h.get h.next=some (.map (jd N))/\∀k,k∈N↔∃s∈l.take i,s.name=k
 st:x.h.get (h.next+1)=some (.map [])
 k:aS h x.h
 nx:h.next+3<=x.h.next
structure XA(h:ah)(p:Option (Nat×Nat))(l:List Sd)(N:List (List UInt8))(i:Nat)(es:List pW)(x:St):Prop where
 n:x.n=81
 ds:x.ds=[]
 bI:x.bI=false
 r5:x.rg.get 5=some (.P (h.next+2))
 Of:x.rg.get 31=some (.slice p l.length)
 Mm:x.rg.get 32=some (.I l.length)
 Mn:x.rg.get 33=some (.I i)
 t:rG (h.next+2) h.next (h.next+1) x.h N es
 k:aS h x.h
end
section
attribute [local simp] aI
def ab1(N:List (List UInt8))(es:List pW)(l:List Sd)(i:Nat)(e:Int):Prop:=
 ∃s,l[i]?=some s/\rI N (l.take i) es/\((e=5/\(nh s.name es≠none\/s.fs=[]\/gn s.name=false))\/(nh s.name es=none/\s.fs≠[]/\gn s.name=true/\wy N es s.fs= .bad e))
def agP(n0:Nat)(l:List Sd)(out:Out)(h':ah):Prop:=
 (∃(i:Nat)(e:Int)(N:List (List UInt8))(es:List pW),out= .ret (.iX [.N,.I i,.I e])/\(∀k,k∈N↔∃s∈l,s.name=k)/\ab1 N es l i e)\/
 (∃tb nm st N es,out= .ret (.iX [.P tb,.I 0,.I 0])/\rG tb nm st h' N es/\(∀k,k∈N↔∃s∈l,s.name=k)/\rI N l es/\n0<=tb/\n0<=nm/\n0<=st/\∀e∈es,n0<=e.obj)
structure Ob(h:ah)(p:Option (Nat×Nat))(l:List Sd):Prop where
 a:l≠[]->∃a yg Po,p=some (a,0)/\h.get a=some (.cells yg Po (j9 l))/\a<h.next
 f:∀s∈l,s.fs≠[]->∃o yg Po,s.q=some (o,0)/\h.get o=some (.cells yg Po (pw s.fs))/\o<h.next
 len:∀s∈l,s.name.length<=1000000/\s.fs.length<=300/\∀f∈s.fs,f.1.length<=1000000/\f.2.length<=1000000
 n:l.length<=300
 z:l=[]->p=none
theorem ab2(h:ah)(p:Option (Nat×Nat))(l:List Sd)(hA:Ob h p l)(hF:cM h):aV env 58 [.slice p l.length] h (fun out h'=>agP h.next l out h'/\aS h h'):=by
 refine wb fn58 rfl ?_;have hn:=hA.n;simp[f58];refine bW (fun m x=>∃(i:Nat),i<=l.length/\m=l.length-i/\Xz h p l i x) l.length ?_ ?_
 ·exact⟨0,bX _,rfl,rfl,rfl,rfl,sp,sp,sp,sp,sp,sp,⟨[],by simp[jd],sp⟩,sp,kT,sp⟩
 rintro m ⟨rg,n',H,ds,bI⟩ ⟨i,hi,rfl,e1,e2,e3,r0,r5,B1,B2,D9,t,⟨N,nm,hN⟩,st,k,nx⟩
 dsimp only at e1 e2 e3 r0 r5 B1 B2 D9 t nm st k nx;subst e1 e2 e3;by_cases cX:i<l.length
 ·have fW:(i:Int)<(l.length:Int):=by omega
  have wi:IntKind.wrap .i64 ((i:Int)+1)=((i+1:Nat):Int):=by rw[wr om om];omega
  obtain⟨a,yg,Po,rfl,ga,la⟩:=hA.a fun e=>by rw[e]at cX;simp at cX
  have gaH:=(k.old a la).trans ga;have fa:=Ea l i l[i] (aj cX);have fb:i*2+2<=(j9 l).length:=by have:=mW l;omega
  have n1:h.next≠H.next/\h.next+1≠H.next/\h.next+2≠H.next:=by omega
  obtain⟨n1,n2,n3⟩:=n1;have hN':∀N':List (List UInt8),(∀k,k∈N'↔k∈N\/k=l[i].name)->∀k,k∈N'↔∃s∈l.take (i+1),s.name=k:=fun N' hh k=>by
   rw[hh,hN,dG,aj cX];simp only[Option.toList_some,aP,aR];constructor
   ·rintro(⟨s,hs,e⟩|e)
    ·exact⟨s,.inl hs,e⟩
    ·exact⟨l[i],.inr rfl,e.symm⟩
   ·rintro⟨s,hs|rfl,e⟩
    ·exact .inl ⟨s,hs,e⟩
    ·exact .inr e.symm
  rcases sU l[i].name N 0 with⟨h1,h2⟩|⟨h1,j,h2,h3⟩
  ·simp[r0,r5,B1,B2,D9,cX,fW,gaH,fa,fb];refine Dd ?_;simp[r0,r5,B1,B2,D9,t,nm,h2,n1,n1.symm,n2,n2.symm,n3,n3.symm];have y0:=n1.symm;have y1:=n2.symm;have y2:=n3.symm;refine dl ?_
   try simp[D9,wi]
   exact⟨_,om,i+1,cX,rfl,rfl,rfl,rfl,by simp[r0],by simp[r5],by simp[B1],by simp[B2],sp,by simp[t,n3,n3.symm],⟨N++[l[i].name],by simp[jd],hN' _ sp⟩,by simp[st,n2],kT,by simp<;>omega⟩
  ·have hm:=Kj h3;simp only[eY]at h2;simp[r0,r5,B1,B2,D9,cX,fW,gaH,fa,fb];refine Dd ?_;simp[r0,r5,B1,B2,D9,t,nm,h2,hm,n1,n1.symm,n2,n2.symm,n3,n3.symm];have y0:=n1.symm;have y1:=n2.symm;have y2:=n3.symm;refine dl ?_
   try simp[D9,wi]
   exact⟨_,om,i+1,cX,rfl,rfl,rfl,rfl,by simp[r0],by simp[r5],by simp[B1],by simp[B2],sp,by simp[t,n3,n3.symm],⟨N,sp,hN' _ (fun k=>⟨.inl,fun hh=>hh.elim id fun e=>e▸h1⟩)⟩,by simp[st,n2],kT,by simp<;>omega⟩
 ·have np:i=l.length:=by omega
  subst np;rw[dH]at hN;have T0:rG (h.next+2) h.next (h.next+1) H N []:=⟨t,nm,by rw[st];rfl,sp,om,om,om,sp,om⟩
  have fH:=k.fresh hF;simp[B1,B2,D9,r0];refine bW (fun m x=>∃(i:Nat)(es:List pW),i<=l.length/\m=l.length-i/\XA h p l N i es x/\rI N (l.take i) es/\∀e∈es,h.next<=e.obj) l.length ?_ ?_
  ·exact⟨0,[],bX _,rfl,⟨rfl,rfl,rfl,by simp[r5],sp,sp,sp,T0,k⟩,.nil,sp⟩
  clear T0 t nm st nx r0 r5 B1 B2 D9 hi
  rintro m ⟨rg,n',G,ds,bI⟩ ⟨i,es,hi,rfl,⟨e1,e2,e3,r5,Of,Mm,Mn,T,kG⟩,hB,hO⟩
  dsimp only at e1 e2 e3 r5 Of Mm Mn T kG;subst e1 e2 e3;have fG:=kG.fresh hF;have T':=T;obtain⟨t1,t2,t3,t4,t5,t6,t7,t8,t9⟩:=T;by_cases cX:i<l.length
  ·have fW:(i:Int)<(l.length:Int):=om;have wi:IntKind.wrap .i64 ((i:Int)+1)=((i+1:Nat):Int):=(by rw[wr om om];omega);obtain⟨a,yg,Po,rfl,ga,la⟩:=hA.a fun e=>by rw[e]at cX;simp at cX
   have gaG:=(kG.old a la).trans ga;have Xp:l[i]?=some l[i]:=aj cX;have AP:=bK cX;have fa:=Ea l i l[i] Xp;have fb:i*2+2<=(j9 l).length:=(by have:=mW l;omega);have n1:h.next≠G.next/\h.next+1≠G.next/\h.next+2≠G.next/\h.next+1≠G.next+11/\h.next+2≠G.next+11:=om;obtain⟨n1,n2,n3,n4,n5⟩:=n1;have f11:G.get (G.next+11)=none:=fG _ om;generalize l[i]=s at*;rcases x7 s.name es 0 with⟨h1,h2⟩|⟨e,h1,j,h2⟩
   ·simp[r5,Of,Mm,Mn,cX,fW,gaG,fa,fb];refine Dd ?_;have Uh:∀(b:Bool),(s.fs.length==0)=b↔(b=true↔s.fs=[]):=fun b=>by cases s.fs<;>cases b<;>simp
    have bad:∀e,e=(5:Int)->(nh s.name es≠none\/s.fs=[]\/gn s.name=false)->ab1 N es l i e:=fun e e5 hh=>⟨s,Xp,hB,.inl ⟨e5,hh⟩⟩
    simp[r5,Of,Mm,Mn,t1,t3,h2,n1,n1.symm,n2,n2.symm,n3,n3.symm,n4,n4.symm,n5,n5.symm,f11];have y0:=n1.symm;have y1:=n2.symm;have y2:=n3.symm;have y3:=n4.symm;have y4:=n5.symm;refine dl ?_;by_cases JS:s.fs=[]
    ·have z:s.fs.length=0:=(by rw[JS];rfl);simp[z];exact⟨.inl ⟨i,5,N,es,rfl,hN,bad 5 rfl (.inr (.inl JS))⟩,kT⟩
    ·have z:((s.fs.length:Int)==0)=false:=(by rw[aH];have:=List.length_pos_iff.2 JS;omega);simp[z];obtain⟨G2,hG2⟩:∃G2,G2=((((G.alloc (.C [.str [],.Z])).2.set G.next (.C [.str s.name,.slice s.q s.fs.length])).bump 13).set (G.next+11) (.C [.Z,.I 0,.I 0])).set (G.next+11) (.C [.Z,.I 0,.I 0]):=⟨_,rfl⟩
     have K2:aS G G2:=(by rw[hG2];exact kT);have g9:G2.get G.next=some (.C [.str s.name,.slice s.q s.fs.length]):=(by rw[hG2];simp);have n9:G.next<G2.next:=by rw[hG2];first|(simp;done)|(simp;omega)
     rw[<-hG2];clear hG2;have hlen:=hA.len s AP;refine(zj _ s.name hlen.1).mono fun out G3 hq=>?_;obtain⟨rfl,rfl⟩:=hq;cases hg:gn s.name with
     |false=>
      simp;exact⟨.inl ⟨i,5,N,es,rfl,hN,bad 5 rfl (.inr (.inr hg))⟩,kG.trans K2⟩
     |true=>
      obtain⟨o,rwo,eso,hq,go,lo⟩:=hA.f s AP JS;have go2:=((kG.trans K2).old o lo).trans go;have VX:o<G3.next:=by have:=(kG.trans K2).next;omega
      have T2:=T'.aJ K2;simp[r5,g9];rw[hq];refine(abD G3 (h.next+2) h.next (h.next+1) o N es s.name s.fs rwo eso T2 (K2.fresh fG) hB.fits go2 VX hlen.2.2 hlen.2.1).mono fun out G4 hq2=>?_;obtain⟨hL,K4⟩:=hq2;have T4:=T2.aJ K4;have KA:=(kG.trans K2).trans K4;have g94:=(K4.old _ n9).trans g9;cases hl:wy N es s.fs with
      |bad e=>
       rw[hl]at hL;have hL:_=_:=hL;subst hL;have e0:(e==0)=false:=(by simpa using Uc hl);have hKA:=KA.next;have e1:(e !=0)=true:=(by rw[bne,e0];rfl);simp[e0,e1];exact⟨.inl ⟨i,e,N,es,rfl,hN,⟨s,Xp,hB,.inr ⟨h1,JS,hg,hl⟩⟩⟩,kT⟩
      |JN ps size align=>
       rw[hl]at hL;simp only[Ub]at hL;obtain⟨sl,rfl,rO⟩:=hL;obtain⟨p1,p2,p3,p4,p5,p6⟩:=Bd hB.fits JS hl;obtain⟨po,rfl,gpo,po1,po2⟩:=rO.resolve_left fun e=>by
        have:=List.length_pos_iff.2 JS;rw[e.1]at p1;simp at p1;omega
       obtain⟨u1,u2,u3,u4,u5,u6,u7,u8,u9⟩:=T4;have Cj:=K2.next;have hk4:=K4.next;have q1:h.next≠G4.next/\h.next+1≠G4.next/\h.next+2≠G4.next/\G.next≠G4.next/\po≠G4.next/\po≠h.next+1:=om;obtain⟨q1,q2,q3,q4,q5,q6⟩:=q1;simp[r5];refine Dd ?_;simp[r5,Of,Mm,Mn,u1,u3,h2,g94,q1,q1.symm,q2,q2.symm,q3,q3.symm,q4,q4.symm];have y0:=q1.symm;have y1:=q2.symm;have y2:=q3.symm;have y3:=q4.symm;refine dl ?_
       try simp[Mn,wi]
       have hkG:=kG.next;refine⟨_,om,i+1,cX,rfl,es++[⟨s.name,po,ps,size,align⟩],⟨rfl,rfl,rfl,by simp[r5],by simp[Of],by simp[Mm],sp,⟨by simp[u1,q3,q3.symm],by simp[u2,q1,u9],by simp[D8,pW.val],?_,by simp;omega,by simp;omega,by simp;omega,?_,u9⟩,kT⟩,?_,?_⟩
       ·intro e he;rcases aP.1 he with he|he
        ·have ge:=u4 e he;have le:=u8 e he;have ne1:e.obj≠G4.next:=om;have ne2:e.obj≠h.next+1:=fun e2=>by rw[e2,u3]at ge;cases ge
         simp[ne1,ne2];exact ge
        ·simp only[aR]at he;subst he;simp[q5,q6];exact gpo
       ·intro e he;rcases aP.1 he with he|he
        ·have:=u8 e he;simp;omega
        ·simp only[aR]at he;subst he;simp;omega
       ·rw[dG,Xp];exact hB.snoc h1 JS hg hl
       ·intro e he;rcases aP.1 he with he|he
        ·exact hO e he
        ·simp only[aR]at he;subst he;simp only;omega
   ·simp[r5,Of,Mm,Mn,cX,fW,gaG,fa,fb];refine Dd ?_;simp[r5,Of,Mm,Mn,t1,t3,h2,pW.val,n1,n1.symm,n2,n2.symm,n3,n3.symm,n4,n4.symm,n5,n5.symm,f11];have y0:=n1.symm;have y1:=n2.symm;have y2:=n3.symm;have y3:=n4.symm;have y4:=n5.symm;refine dl ?_;exact⟨.inl ⟨i,5,N,es,rfl,hN,⟨s,Xp,hB,.inl ⟨rfl,.inl (by rw[h1];simp)⟩⟩⟩,kT⟩
  ·have np:i=l.length:=om;subst np;rw[dH]at hB;simp[Mm,Mn,r5];exact⟨.inr ⟨_,_,_,N,es,rfl,T',hN,hB,om,om,om,hO⟩,kG⟩
end
end Go.Proofs.YtgebeldoibkkpaaGreatDoor
