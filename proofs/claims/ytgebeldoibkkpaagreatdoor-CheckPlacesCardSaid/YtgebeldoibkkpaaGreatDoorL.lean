/- Lemmas for CheckPlaces; each states its own conditions. -/
import Derived.Test.YtgebeldoibkkpaaGreatDoorG
set_option maxRecDepth 100000
set_option maxHeartbeats 0
set_option linter.unusedVariables false
set_option linter.unusedSimpArgs false
set_option linter.unusedSectionVars false
namespace Go.Proofs.YtgebeldoibkkpaaGreatDoor
open Go.Am Tryz
section
attribute [local simp] aI
structure Hd where
 kd:Int
 ty:List UInt8
 op:Int
 n:Int
 sz:Int
 tu:Bool
 v:Option Nat
inductive TX where
 |mk (d:Hd) (l:List TX)
def TX.d:TX->Hd
 | .mk d _=>d
def TX.l:TX->List TX
 | .mk _ l=>l
abbrev TX.ty(e:TX):List UInt8:=e.d.ty
def A0(k:Int):Bool:=decide (2<=k)&&decide (k<=7)
def TX.place(e:TX):Bool:=A0 e.d.kd
inductive TS where
 |mk (kd:Int) (v:Option Nat) (to e:Option TX) (l:List TS)
structure Vr where
 nm:List UInt8
 ty:List UInt8
 sz:Int
 param:Bool
 taken:Bool
 sc:Bool
structure Sg where
 nm:List UInt8
 ty:List UInt8
 ps:List (List UInt8)
 pb:List Bool
structure Gl where
 nm:List UInt8
 ty:List UInt8
 sz:Int
structure Sc where
 N:List (List UInt8)
 es:List pW
 fm:List (List UInt8×List Fd)
 gs:List Gl
 fs:List Sg
structure Dn where
 vs:List Vr
 seen:List Nat
 vS:List (List UInt8)
 loops:Int
 bytes:Int
 over:Option Pl
inductive Rs(α:Type) where
 |ok (a:α) (d:Dn)
 |err (p:Pl)
def Rs.bind{α β:Type}(r:Rs α)(f:α->Dn->Rs β):Rs β:=match r with
 | .ok a d=>f a d
 | .err p=> .err p
@[simp] theorem Rs.lI{α β:Type}(a:α)(d:Dn)(f:α->Dn->Rs β):(Rs.ok a d).bind f=f a d:=rfl
@[simp] theorem Rs.ada{α β:Type}(p:Pl)(f:α->Dn->Rs β):(Rs.err p:Rs α).bind f= .err p:=rfl
def Rs.nL{α:Type}(b:Bool)(p:Pl)(r:Rs α):Rs α:=match b with
 |true=>r
 |false=> .err p
@[simp] theorem Rs.DA{α:Type}(p:Pl)(r:Rs α):Rs.nL true p r=r:=rfl
@[simp] theorem Rs.afu{α:Type}(p:Pl)(r:Rs α):Rs.nL false p r= .err p:=rfl
def Dn.tD(d:Dn)(b:Bool)(p:Pl):Dn:=match b,d.over with
 |false,none=>{d with over:=some p}
 |_,_=>d
def DB(s:List UInt8):Bool:=Lib.hasSuffix s [42]
def hdF(kd:Int)(ty:List UInt8):Hd:=⟨kd,ty,0,0,0,false,none⟩
section
variable(S:Sc)
def Ku(ty:List UInt8)(p:Pl)(d:Dn):Rs Int:=Rs.nL (!((uD S.N S.es ty).2.2==5)) p (.ok (uD S.N S.es ty).1 (d.tD ((uD S.N S.es ty).2.2==0) p))
def BN(ty:List UInt8):Bool:=scF S.N S.es ty
def VK(e:TX)(p:Pl)(d:Dn):Rs TX:=match e.place with
 |false=> .ok e d
 |true=>match(NO e.ty).2&&!DB e.ty with
  |true=> .ok (.mk ⟨8,(NO e.ty).1++[42],0,1,0,false,none⟩ [e]) d
  |false=>Rs.nL (BN S e.ty) p (.ok e d)
def yV(r:Rs TX)(p:Pl):Rs TX:=r.bind fun e d=>VK S e p d
def LN(r:Rs TX)(p:Pl):Rs TX:=(yV S r p).bind fun e d=>Rs.nL (vT e.ty) p (.ok e d)
def ye(r:Rs TX)(p:Pl):Rs TX:=(yV S r p).bind fun e d=>Rs.nL (vT e.ty||DB e.ty) p (.ok e d)
def R3:Ex->Bool
 | .num _ n=>n==0
 |_=>false
def cvF(e:TX)(ty:List UInt8)(n:Int):TX:=
 .mk ⟨15,ty,if(ty==[99,104,97,114]&&(e.ty==[105,110,116]||e.ty==[108,111,110,103]))=true then 3 else if(ty==[105,110,116]&&e.ty==[108,111,110,103])=true then 4 else 0,n,0,false,none⟩ [e]
def adb(e:TX)(x:Ex)(ty:List UInt8):Bool:=vT ty&&vT e.ty||DB ty&&(e.ty==ty||R3 x)
def JA(r:Rs TX)(x:Ex)(ty:List UInt8):Rs TX:=(yV S r x.pos).bind fun e d=>Rs.nL (adb e x ty) x.pos (.ok (cvF e ty 1) d)
def Yi(ty:List UInt8)(p:Pl)(d:Dn):Rs (List UInt8×Int):=Rs.nL (DB ty) p ((Ku S (NO ty).1 p d).bind fun n d=> .ok ((NO ty).1,n) d)
def qu(s:List UInt8):List (List UInt8×List Fd)->Option (List Fd)
 |[]=>none
 |x::l=>if x.1=s then some x.2 else qu s l
def Ce(nm:List UInt8):List Fd->Nat->Option Nat
 |[],_=>none
 |f::l,i=>if f.nm=nm then some i else Ce nm l (i+1)
def vx(S:Sc)(s nm:List UInt8)(fl:List Fd)(i:Nat):List UInt8×Int:=match nh s S.es with
 |none=>(match fl[i]? with|some f=>f.ty|none=>[],0)
 |some e=>match e.ps[i]? with
  |some q=>if e.ps.length=fl.length/\q.name=nm then(q.type,q.off)else(match fl[i]? with|some f=>f.ty|none=>[],0)
  |none=>(match fl[i]? with|some f=>f.ty|none=>[],0)
def flF(ty nm:List UInt8)(p:Pl)(d:Dn):Rs (List UInt8×Int):=Rs.nL (Lib.hasPrefix ty jE) p
 (match qu (Lib.trimPrefix ty jE) S.fm with
  |none=> .err p
  |some fl=>match Ce nm fl 0 with
   |none=> .err p
   |some i=> .ok (vx S (Lib.trimPrefix ty jE) nm fl i) d)
def z6(s:List UInt8)(vs:List Vr):List Nat->Option Nat
 |[]=>none
 |k::l=>match z6 s vs l with
  |some j=>some j
  |none=>match vs[k]? with
   |some v=>if v.nm=s then some k else none
   |none=>none
def yf(s:List UInt8):List (List UInt8)->Nat->Option Nat
 |[],_=>none
 |x::l,i=>if x=s then some i else yf s l (i+1)
def aau(vs:List Vr)(k:Nat):List UInt8:=match vs[k]? with
 |some v=>v.ty
 |none=>[]
def aav(gs:List Gl)(k:Nat):List UInt8:=match gs[k]? with
 |some v=>v.ty
 |none=>[]
def GZ(s:List UInt8)(p:Pl)(d:Dn):Rs TX:=match z6 s d.vs d.seen with
 |some k=> .ok (.mk ⟨2,aau d.vs k,0,0,0,false,some k⟩ []) d
 |none=>match yf s (S.gs.map Gl.nm) 0 with
  |some n=> .ok (.mk ⟨3,aav S.gs n,0,n,0,false,none⟩ []) d
  |none=> .err p
def Ei(op:List UInt8):Int:=
 if op=[43]then 11 else if op=[45]then 12 else if op=[42]then 13 else if op=[47]then 14 else if op=[37]then 15 else if op=[38]then 16 else if op=[124]then 17 else if op=[94]then 18
 else if op=[60,60]then 19 else if op=[62,62]then 20 else if op=[61,61]then 21 else if op=[33,61]then 22 else if op=[60]then 23 else if op=[60,61]then 24 else if op=[62]then 25 else 26
def Qh(a b:TX)(op:Int)(p:Pl)(d:Dn):Rs TX:=
 let tu:=op==11&&DB b.ty;let q:=match tu with|true=>b|false=>a
 let i:=match tu with|true=>a|false=>b
 Rs.nL ((op==11||op==12)&&vT i.ty) p ((Yi S q.ty p d).bind fun t d=> .ok (.mk ⟨12,q.ty,op,0,t.2,tu,none⟩ [a,b]) d)
def Yj(a b:TX)(xa xb:Ex)(op:Int)(p:Pl)(d:Dn):Rs TX:=
 let both:=vT a.ty&&vT b.ty
 match decide (21<=op)&&decide (op<=26)with
 |true=>Rs.nL (both||(op==21||op==22)&&(DB a.ty&&(a.ty==b.ty||R3 xb)||DB b.ty&&R3 xa)) p (.ok (.mk ⟨11,[105,110,116],op,0,0,false,none⟩ [a,b]) d)
 |false=>match both with
  |true=> .ok (.mk ⟨11,(xg a.ty (if op=19\/op=20 then[99,104,97,114]else b.ty)).1,op,0,0,false,none⟩ [a,b]) d
  |false=>Qh S a b op p d
def Dn.take(d:Dn)(k:Nat):Dn:={d with vs:=d.vs.modify k fun v=>{v with taken:=true}}
def adB(e:TX):Bool:=e.place&&(BN S e.ty||Lib.hasPrefix e.ty jE&&!Lib.hasSuffix e.ty [93])
def adF(e:TX)(p:Pl)(d:Dn):Rs TX:=Rs.nL (adB S e) p (.ok (.mk ⟨8,e.ty++[42],0,0,0,false,none⟩ [e]) (match e.d.kd==2,e.d.v with
 |true,some k=>d.take k
 |_,_=>d))
def ade(e:TX)(ty:List UInt8)(p:Pl)(d:Dn):Rs TX:=Rs.nL (BN S ty&&(vT ty==vT e.ty&&DB ty==DB e.ty)) p (.ok (cvF e ty 0) d)
def VL(e:TX)(nm:List UInt8)(p:Pl)(d:Dn):Rs TX:=Rs.nL e.place p ((flF S e.ty nm p d).bind fun t d=> .ok (.mk ⟨6,t.1,0,t.2,0,false,none⟩ [e]) d)
def VM(e:TX)(nm:List UInt8)(p:Pl)(d:Dn):Rs TX:=(Yi S e.ty p d).bind fun t d=>(flF S t.1 nm p d).bind fun t d=> .ok (.mk ⟨7,t.1,0,t.2,0,false,none⟩ [e]) d
mutual
def jY:Ex->Dn->Rs TX
 | .num _ n,d=> .ok (.mk ⟨1,if 2147483647<n then[108,111,110,103]else[105,110,116],0,n,0,false,none⟩ []) d
 | .var p s,d=>GZ S s p d
 | .un p op a,d=>if op=[33]then(ye S (jY a d) a.pos).bind fun e d=> .ok (.mk ⟨10,[105,110,116],0,0,0,false,none⟩ [e]) d
  else if op=[42]then(yV S (jY a d) a.pos).bind fun e d=>(Yi S e.ty p d).bind fun t d=> .ok (.mk ⟨4,t.1,0,0,0,false,none⟩ [e]) d
  else if op=[38]then(jY a d).bind fun e d=>adF S e p d
  else(LN S (jY a d) a.pos).bind fun e d=> .ok (.mk ⟨9,(xg e.ty [99,104,97,114]).1,if op=[45]then 1 else 2,0,0,false,none⟩ [e]) d
 | .bin p op a b,d=>if op=[38,38]then(ye S (jY a d) a.pos).bind fun e d=>(ye S (jY b d) b.pos).bind fun e2 d=> .ok (.mk ⟨13,[105,110,116],0,0,0,false,none⟩ [e,e2]) d
  else if op=[124,124]then(ye S (jY a d) a.pos).bind fun e d=>(ye S (jY b d) b.pos).bind fun e2 d=> .ok (.mk ⟨14,[105,110,116],0,0,0,false,none⟩ [e,e2]) d
  else(yV S (jY a d) a.pos).bind fun e d=>(yV S (jY b d) b.pos).bind fun e2 d=>Yj S e e2 a b (Ei op) p d
 | .cast p ty a,d=>(yV S (jY a d) a.pos).bind fun e d=>ade S e ty p d
 | .call p f xs,d=>match yf f (S.fs.map Sg.nm) 0 with
  |none=> .err p
  |some n=>match S.fs[n]? with
   |none=> .err p
   |some s=>Rs.nL (!(f==[109,97,105,110])) p (Rs.nL (s.ps.length==xs.length) p ((JB xs s.ps d).bind fun l d=> .ok (.mk ⟨16,s.ty,0,n,0,false,none⟩ l) d))
 | .index p a i,d=>(yV S (jY a d) a.pos).bind fun e d=>(LN S (jY i d) i.pos).bind fun j d=>(Yi S e.ty p d).bind fun t d=> .ok (.mk ⟨5,t.1,0,0,t.2,false,none⟩ [e,j]) d
 | .mr p nm a,d=>(jY a d).bind fun e d=>VL S e nm p d
 | .arrow p nm a,d=>(yV S (jY a d) a.pos).bind fun e d=>VM S e nm p d
 | .Cf _,d=> .ok (.mk ⟨17,[108,111,110,103],0,0,0,false,none⟩ []) d
 | .size p ty,d=>(Ku S ty p d).bind fun n d=> .ok (.mk ⟨1,[105,110,116],0,n,0,false,none⟩ []) d
def JB:List Ex->List (List UInt8)->Dn->Rs (List TX)
 |x::xs,t::ts,d=>(JA S (jY x d) x t).bind fun e d=>(JB xs ts d).bind fun l d=> .ok (e::l) d
 |_,_,d=> .ok [] d
end
def Dn.add(d:Dn)(nm ty:List UInt8)(n:Int)(par sc:Bool)(p:Pl):Dn:=
 let d1:=d.tD (decide (d.vs.length<200)) p;let d2:={d1 with bytes:=d1.bytes+(n+7)/8*8}
 let d3:=d2.tD (decide (d2.bytes<=65536)) p
 {d3 with vs:=d3.vs++[⟨nm,ty,n,par,false,sc⟩],seen:=d3.seen++[d3.vs.length]}
def R4(nm ty:List UInt8)(par:Bool)(p:Pl)(d:Dn):Rs Nat:=Rs.nL (!(d.vS.contains nm)) p
 ((Ku S ty p {d with vS:=d.vS++[nm]}).bind fun n e=> .ok e.vs.length (e.add nm ty n par (BN S ty) p))
mutual
def qM(rt:List UInt8):Sm->Dn->Rs TS
 | .block _ l,d=>(Cg rt l d).bind fun ts e=> .ok (.mk 1 none none none ts) {e with seen:=e.seen.take d.seen.length}
 | .empty _,d=> .ok (.mk 2 none none none []) d
 | .decl p ty nm e,d=>(R4 S nm ty false p d).bind fun k d=>match e with
  |none=> .ok (.mk 3 (some k) none none []) d
  |some x=>Rs.nL (BN S ty) p ((JA S (jY S x d) x ty).bind fun t d=> .ok (.mk 3 (some k) none (some t) []) d)
 | .assign p to e,d=>(jY S to d).bind fun t d=>Rs.nL (t.place&&BN S t.ty) p ((JA S (jY S e d) e t.ty).bind fun u d=> .ok (.mk 4 none (some t) (some u) []) d)
 | .eval _ e,d=>(yV S (jY S e d) e.pos).bind fun t d=> .ok (.mk 5 none none (some t) []) d
 | .ifs _ e s,d=>(ye S (jY S e d) e.pos).bind fun t d=>(qM rt s d).bind fun u d=> .ok (.mk 6 none none (some t) [u]) d
 | .LO _ e s s2,d=>(ye S (jY S e d) e.pos).bind fun t d=>(qM rt s d).bind fun u d=>(qM rt s2 d).bind fun u2 d=> .ok (.mk 6 none none (some t) [u,u2]) d
 | .LP _ e s,d=>(ye S (jY S e d) e.pos).bind fun t d=>(qM rt s {d with loops:=d.loops+1}).bind fun u d=> .ok (.mk 7 none none (some t) [u]) {d with loops:=d.loops-1}
 | .NP p,d=>Rs.nL (decide (0<d.loops)) p (.ok (.mk 8 none none none []) d)
 | .cont p,d=>Rs.nL (decide (0<d.loops)) p (.ok (.mk 9 none none none []) d)
 | .ret p none,d=>Rs.nL (rt==[118,111,105,100]) p (.ok (.mk 10 none none none []) d)
 | .ret p (some x),d=>Rs.nL (!(rt==[118,111,105,100])) p ((JA S (jY S x d) x rt).bind fun t d=> .ok (.mk 10 none none (some t) []) d)
 | .out _ e,d=>(LN S (jY S e d) e.pos).bind fun t d=> .ok (.mk 11 none none (some t) []) d
def Cg(rt:List UInt8):List Sm->Dn->Rs (List TS)
 |[],d=> .ok [] d
 |s::l,d=>(qM rt s d).bind fun t d=>(Cg rt l d).bind fun ts d=> .ok (t::ts) d
end
end
end
section
attribute [local simp] aI
def vP(vs:List Nat):Option Nat->Option (Nat×Nat)
 |none=>none
 |some k=>match vs[k]? with
  |some a=>some (a,0)
  |none=>none
def Hd.cs(d:Hd)(vs:List Nat)(av:AV):List AV:=[.I d.kd,.str d.ty,.I d.op,.I d.n,.I d.sz,.bool d.tu,.ptr (vP vs d.v),av]
inductive jK(X vs:List Nat)(h:ah):Nat->TX->Prop where
 |mk {id:Nat} {d:Hd} {l:List TX} {av:AV} {qs:List (Nat×TX)} (obj:h.get id=some (.C (d.cs vs av))) (nx:id∉X) (vk:∀k,d.v=some k->k<vs.length) (arr:dP X h av qs) (ha:qs.map Prod.snd=l) (sub:∀q,q∈qs->jK X vs h q.1 q.2):jK X vs h id (.mk d l)
theorem jK.move{X Y vs:List Nat}{h h':ah}(s:Move X Y h h'){id:Nat}{t:TX}(e:jK X vs h id t):jK Y vs h' id t:=by
 induction e with
 |mk obj nx vk arr ha sub ih=>exact .mk (s.aJ _ _ obj nx).1 (s.aJ _ _ obj nx).2 vk (arr.move s) ha ih
theorem G0{vs ws:List Nat}{v:Option Nat}(h:∀k,v=some k->k<vs.length):vP (vs++ws) v=vP vs v:=by
 cases v with
 |none=>rfl
 |some k=>simp[vP,iz (h k rfl)]
theorem jK.grow{X vs:List Nat}(ws:List Nat){h:ah}{id:Nat}{t:TX}(e:jK X vs h id t):jK X (vs++ws) h id t:=by
 induction e with
 |mk obj nx vk arr ha sub ih=>exact .mk (by unfold Hd.cs at*;rw[G0 vk];exact obj) nx (fun k hk=>by have:=vk k hk;simp;omega) arr ha ih
theorem jK.obj{X vs:List Nat}{h:ah}{id:Nat}{t:TX}(e:jK X vs h id t):∃av,h.get id=some (.C (t.d.cs vs av))/\id∉X/\(∀k,t.d.v=some k->k<vs.length)/\∃qs,dP X h av qs/\qs.map Prod.snd=t.l/\∀q,q∈qs->jK X vs h q.1 q.2:=by
 cases e with
 |mk obj nx vk arr ha sub=>exact⟨_,obj,nx,vk,_,arr,ha,sub⟩
def rR(X vs:List Nat)(h:ah)(v:AV)(o:Option TX):Prop:=(v= .N/\o=none)\/∃id e,v= .P id/\o=some e/\jK X vs h id e
theorem rR.move{X Y vs:List Nat}{h h':ah}(s:Move X Y h h'){v:AV}{o:Option TX}(e:rR X vs h v o):rR Y vs h' v o:=by
 rcases e with e|⟨id,e,h1,h2,h3⟩
 ·exact .inl e
 ·exact .inr ⟨id,e,h1,h2,h3.move s⟩
theorem rR.grow{X vs:List Nat}(ws:List Nat){h:ah}{v:AV}{o:Option TX}(e:rR X vs h v o):rR X (vs++ws) h v o:=by
 rcases e with e|⟨id,e,h1,h2,h3⟩
 ·exact .inl e
 ·exact .inr ⟨id,e,h1,h2,h3.grow ws⟩
inductive ui(X vs:List Nat)(h:ah):Nat->TS->Prop where
 |mk {id:Nat} {kd:Int} {v:Option Nat} {to e:Option TX} {l:List TS} {tv ev lv:AV} {qs:List (Nat×TS)} (obj:h.get id=some (.C [.I kd,.ptr (vP vs v),tv,ev,lv])) (nx:id∉X) (vk:∀k,v=some k->k<vs.length) (ht:rR X vs h tv to) (he:rR X vs h ev e)
  (arr:dP X h lv qs) (ha:qs.map Prod.snd=l) (sub:∀q,q∈qs->ui X vs h q.1 q.2):ui X vs h id (.mk kd v to e l)
theorem ui.move{X Y vs:List Nat}{h h':ah}(s:Move X Y h h'){id:Nat}{t:TS}(e:ui X vs h id t):ui Y vs h' id t:=by
 induction e with
 |mk obj nx vk ht he arr ha sub ih=>exact .mk (s.aJ _ _ obj nx).1 (s.aJ _ _ obj nx).2 vk (ht.move s) (he.move s) (arr.move s) ha ih
theorem ui.grow{X vs:List Nat}(ws:List Nat){h:ah}{id:Nat}{t:TS}(e:ui X vs h id t):ui X (vs++ws) h id t:=by
 induction e with
 |mk obj nx vk ht he arr ha sub ih=>exact .mk (by rw[G0 vk];exact obj) nx (fun k hk=>by have:=vk k hk;simp;omega) (ht.grow ws) (he.grow ws) arr ha ih
def kI(X:List Nat)(h:ah)(av:AV)(es n:Nat)(cs:List AV):Prop:=(n=0/\cs=[]/\av= .Z)\/∃b yg,av= .S b n/\b∉X/\h.get b=some (.cells yg es cs)
theorem kI.move{X Y:List Nat}{h h':ah}(s:Move X Y h h'){av:AV}{es n:Nat}{cs:List AV}(p:kI X h av es n cs):kI Y h' av es n cs:=by
 rcases p with p|⟨b,yg,e,hb,g⟩
 ·exact .inl p
 ·exact .inr ⟨b,yg,e,(s.aJ _ _ g hb).2,(s.aJ _ _ g hb).1⟩
def rF(l:List Fd):List AV:=(l.map fun f=>[.str f.ty,.str f.nm]).flatten
def xh(l:List Gl):List AV:=(l.map fun g=>[.str g.nm,.str g.ty,.I g.sz]).flatten
def gd(l:List (List UInt8))(i:Nat):List (AV×AV):=match l with
 |[]=>[]
 |s::r=>(.str s,.I i)::gd r (i+1)
structure CB where
 r:Nat
 o:Nat
 tr:AV
 jm:AV
 jF:AV
 mn:Int
 tb:Nat
 nm:Nat
 st:Nat
 fm:Nat
 gm:Nat
 um:Nat
 fo:List Nat
 n:Nat
 f:Nat
 Qi:AV
 NQ:AV
 Kv:Nat
structure CV where
 vs:List Nat
 va:AV
 sa:AV
def eR:Nat:=70000
structure Sc.Ok(S:Sc):Prop where
 fit:Fits S.es
 pl:∀e∈S.es,e.ps≠[]/\e.ps.length<=300/\∀q∈e.ps,q.type.length<=eR
 fm:∀x∈S.fm,x.2.length<=300/\∀f∈x.2,f.ty.length<=eR
 fe:∀x∈S.fm,∃e,nh x.1 S.es=some e
 gs:S.gs.length<=300/\∀g∈S.gs,g.ty.length<=eR
 fs:S.fs.length<=300/\∀g∈S.fs,g.ty.length<=eR/\g.ps.length<=300/\∀t∈g.ps,t.length<=eR
structure Dn.Ok(d:Dn):Prop where
 vs:∀v∈d.vs,v.ty.length<=eR/\0<=v.sz/\v.sz<=65536
 seen:∀k∈d.seen,k<d.vs.length
 sl:d.seen.length<=d.vs.length
 loops:-1000<=d.loops/\d.loops<=1000
 bytes:0<=d.bytes/\d.bytes<=70000*(d.vs.length+1)
structure Stat(S:Sc)(B:CB)(X0:List Nat)(h0:ah):Prop where
 ok:S.Ok
 Ft:rG B.tb B.nm B.st h0 S.N S.es
 tx:B.tb∉X0/\B.nm∉X0/\B.st∉X0/\∀e∈S.es,e.obj∉X0
 o:h0.get B.o=some (.C [B.tr,B.jm,B.jF,.I B.mn])
 ox:B.o∉X0
 ga:kI X0 h0 B.jm 3 S.gs.length (xh S.gs)
 fl:B.fo.length=S.fs.length
 fa:kI X0 h0 B.jF 1 S.fs.length (B.fo.map fun a=> .P a)
 fm:∃es,h0.get B.fm=some (.map es)/\(∀s,(qu s S.fm=none/\∀H,fq H (.str s) es 0=some none)\/∃fl j av,qu s S.fm=some fl/\(∀H,fq H (.str s) es 0=some (some (j,av)))/\kI X0 h0 av 2 fl.length (rF fl))
 gm:h0.get B.gm=some (.map (gd (S.gs.map Gl.nm) 0))
 um:h0.get B.um=some (.map (gd (S.fs.map Sg.nm) 0))
 mx:B.fm∉X0/\B.gm∉X0/\B.um∉X0
 fo:∀n s a,S.fs[n]?=some s->B.fo[n]?=some a->n≠B.n->a∉X0/\∃p b v w,h0.get a=some (.C [.str s.nm,.str s.ty,p,b,v,w])/\kI X0 h0 p 1 s.ps.length (s.ps.map .str)/\kI X0 h0 b 1 s.pb.length (s.pb.map .bool)
 fn:B.fo[B.n]?=some B.f
 fc:∀s,S.fs[B.n]?=some s->kI X0 h0 B.Qi 1 s.ps.length (s.ps.map .str)/\kI X0 h0 B.NQ 1 s.pb.length (s.pb.map .bool)
def kJ(X:List Nat)(h:ah)(v:AV):Option Pl->Prop
 |none=>v= .N
 |some p=>∃q,v= .P q/\q∉X/\h.get q=some (.C [.I p.1,.I p.2])
theorem kJ.move{X Y:List Nat}{h h':ah}(s:Move X Y h h'){v:AV}{o:Option Pl}(e:kJ X h v o):kJ Y h' v o:=by
 cases o with
 |none=>exact e
 |some p=>
  obtain⟨q,h1,h2,h3⟩:=e;exact⟨q,h1,(s.aJ _ _ h3 h2).2,(s.aJ _ _ h3 h2).1⟩
def CB.ob(B:CB)(V:CV)(d:Dn)(ov:AV):List AV:=[.P B.o,.P B.tb,.map (some B.fm),.map (some B.gm),.map (some B.um),.P B.f,.map (some B.Kv),V.sa,.I d.loops,.I d.bytes,ov]
def Vr.cs(v:Vr):List AV:=[.str v.nm,.str v.ty,.I v.sz,.bool v.param,.bool v.taken,.bool v.sc]
structure Loc(B:CB)(V:CV)(i:Nat):Prop where
 r:i≠B.r
 f:i≠B.f
 n:i≠B.Kv
 v:i∉V.vs
 va:i∉aK V.va
 sa:i∉aK V.sa
structure R5(B:CB)(V:CV)(X:List Nat):Prop where
 r:B.r∈X
 f:B.f∈X
 n:B.Kv∈X
 v:∀a∈V.vs,a∈X
 va:∀a∈aK V.va,a∈X
 sa:∀a∈aK V.sa,a∈X
def mu(h:ah)(V:CV)(d:Dn):Prop:=(V.sa= .Z/\d.seen=[])\/∃b L,V.sa= .S b d.seen.length/\h.get b=some (.cells true 1 L)/\L.take d.seen.length=d.seen.map (fun k=> .ptr (vP V.vs (some k)))/\d.seen.length<=L.length/\L.length<=1000
structure dF(S:Sc)(B:CB)(X0:List Nat)(h0:ah)(X:List Nat)(V:CV)(d:Dn)(h:ah):Prop where
 mv:Move X0 X h0 h
 fr:cM h
 xl:∀x∈X,x<h.next
 c:∃ov,h.get B.r=some (.C (B.ob V d ov))/\kJ X h ov d.over
 f:∃s,S.fs[B.n]?=some s/\h.get B.f=some (.C [.str s.nm,.str s.ty,B.Qi,B.NQ,V.va,.N])
 nm:h.get B.Kv=some (.map (jd d.vS))
 vl:V.vs.length=d.vs.length
 vs:∀(k a:Nat)(v:Vr),V.vs[k]?=some a->d.vs[k]?=some v->h.get a=some (.C v.cs)
 nd:V.vs.Nodup
 va:dP [] h V.va (V.vs.map fun a=>(a,()))
 sa:mu h V d
 ne:∀a∈aK V.va,a∉aK V.sa
 own:R5 B V X
 ok:d.Ok
theorem Move.refl(X:List Nat)(h:ah):Move X X h h:=⟨fun _ _ g hi=>⟨g,hi⟩⟩
theorem R5.sub{B:CB}{V:CV}{X Y:List Nat}(o:R5 B V X)(h:∀x∈X,x∈Y):R5 B V Y:=⟨h _ o.r,h _ o.f,h _ o.n,fun a ha=>h _ (o.v a ha),fun a ha=>h _ (o.va a ha),fun a ha=>h _ (o.sa a ha)⟩
section
variable{S:Sc}{B:CB}{X0:List Nat}{h0:ah}{X Y:List Nat}{V:CV}{d:Dn}{h:ah}
theorem dF.step(c:dF S B X0 h0 X V d h){h':ah}(m:Move X Y h h')(fr:cM h')(xl:∀x∈Y,x<h'.next)(own:R5 B V Y)
 (old:∀i o,h.get i=some o->i=B.r\/i=B.f\/i=B.Kv\/i∈V.vs\/i∈aK V.va\/i∈aK V.sa->h'.get i=some o):dF S B X0 h0 Y V d h':=by
 obtain⟨mv,_,_,⟨ov,c1,c2⟩,⟨s,f1,f2⟩,nm,vl,vs,nd,va,sa,ne,_,ok⟩:=c;refine⟨mv.comp m,fr,xl,⟨ov,old _ _ c1 (.inl rfl),c2.move m⟩,⟨s,f1,old _ _ f2 (.inr (.inl rfl))⟩,old _ _ nm (.inr (.inr (.inl rfl))),vl,fun k a v h1 h2=>old _ _ (vs k a v h1 h2) (.inr (.inr (.inr (.inl (bg h1))))),nd,?_,?_,ne,own,ok⟩
 ·rcases va with va|⟨b,e,hb,g⟩
  ·exact .inl va
  ·exact .inr ⟨b,e,hb,old _ _ g (by rw[e];simp[aK])⟩
 ·rcases sa with sa|⟨b,L,e,g,t⟩
  ·exact .inl sa
  ·exact .inr ⟨b,L,e,old _ _ g (by rw[e];simp[aK]),t⟩
theorem dF.aJ(c:dF S B X0 h0 X V d h){h':ah}(k:aS h h'):dF S B X0 h0 X V d h':=
 c.step (Move.k c.fr k) (k.fresh c.fr) (fun x hx=>aw (c.xl x hx) k.next) c.own fun i o g _=>(k.old i (au c.fr g)).trans g
theorem Loc.fresh(c:dF S B X0 h0 X V d h){i:Nat}(hi:i∉X):Loc B V i:=by
 have o:=c.own;exact⟨fun e=>hi (e▸o.r),fun e=>hi (e▸o.f),fun e=>hi (e▸o.n),fun e=>hi (o.v _ e),fun e=>hi (o.va _ e),fun e=>hi (o.sa _ e)⟩
theorem dF.more(c:dF S B X0 h0 X V d h){h':ah}(k:aS h h'){i:Nat}(h1:h.next<=i)(h2:i<h'.next):dF S B X0 h0 (i::X) V d h'/\Loc B V i/\Move X (i::X) h h'/\i∉X:=by
 have hx:i∉X:=fun hx=>by have:=c.xl i hx;omega
 have m:Move X (i::X) h h':=Move.of c.fr (k.x []) sp fun y hy=>by
  rcases aq.1 hy with rfl|hy
  ·exact .inr h1
  ·exact .inl hy
 refine⟨c.step m (k.fresh c.fr) (fun x hx=>?_) (c.own.sub fun x hx=>ay _ hx) fun i o g _=>(k.old i (au c.fr g)).trans g,Loc.fresh c hx,m,hx⟩;rcases aq.1 hx with rfl|hx
 ·exact h2
 ·exact aw (c.xl x hx) k.next
structure Mv(B:CB)(V:CV)(X Y:List Nat)(h h':ah):Prop extends Move X Y h h' where
 lk:∀i o,Loc B V i->h.get i=some o->h'.get i=some o
 no:∀i,i<h.next->Loc B V i->h.get i=none->h'.get i=none
 nx:h.next<=h'.next
theorem Mv.refl(B:CB)(V:CV)(X:List Nat)(h:ah):Mv B V X X h h:=⟨Move.refl X h,fun _ _ _ g=>g,fun _ _ _ g=>g,ao _⟩
theorem Mv.k{B:CB}{V:CV}{X:List Nat}{h h':ah}(f:cM h)(k:aS h h'):Mv B V X X h h':=⟨Move.k f k,fun i o _ g=>(k.old i (au f g)).trans g,fun i l _ g=>(k.old i l).trans g,k.next⟩
theorem Mv.comp{B:CB}{V:CV}{X Y Z:List Nat}{h h' h'':ah}(m:Mv B V X Y h h')(m':Mv B V Y Z h' h''):Mv B V X Z h h'':=⟨m.toMove.comp m'.toMove,fun i o l g=>m'.lk i o l (m.lk i o l g),fun i l c g=>m'.no i (aw l m.nx) c (m.no i l c g),bk m.nx m'.nx⟩
theorem Mv.less{B:CB}{V:CV}{X Y:List Nat}{h:ah}(hy:∀y,y∈Y->y∈X):Mv B V X Y h h:=⟨Move.less hy,fun _ _ _ g=>g,fun _ _ _ g=>g,ao _⟩
theorem Mv.set{B:CB}{V:CV}{X:List Nat}{h:ah}{i:Nat}(hx:i∈X)(hl:∀j,Loc B V j->j≠i)(o:ej):Mv B V X X h (h.set i o):=
 ⟨Move.on o hx,fun j o l g=>by rw[ah.aM,az (hl j l)];exact g,fun j _ l g=>by rw[ah.aM,az (hl j l)];exact g,ao _⟩
theorem Mv.put{B:CB}{V:CV}{X Y:List Nat}{hb h:ah}{i:Nat}(m:Mv B V X Y hb h)(hi:i∈Y)(h0:hb.get i=none)(hn:hb.next<=i)(o:ej):Mv B V X Y hb (h.set i o):=
 ⟨m.toMove.comp (Move.on o hi),fun j o l g=>by rw[ah.aM,az (fun e=>by rw[e,h0]at g;cases g)];exact m.lk j o l g,fun j lt l g=>by rw[ah.aM,az om];exact m.no j lt l g,m.nx⟩
theorem dF.put(c:dF S B X0 h0 X V d h){i:Nat}(hi:i∈X)(l:Loc B V i)(o:ej):dF S B X0 h0 X V d (h.set i o)/\Move X X h (h.set i o):=by
 have m:Move X X h (h.set i o):=Move.on o hi;refine⟨c.step m (fun j hj=>?_) (fun x hx=>c.xl x hx) c.own fun j o' g hj=>?_,m⟩
 ·have:=c.xl i hi;rw[ah.aM,az (by simp at hj;omega)];exact c.fr j hj
 ·rw[ah.aM,az]
  ·exact g
  ·rintro rfl
   rcases hj with hj|hj|hj|hj|hj|hj
   ·exact l.r hj
   ·exact l.f hj
   ·exact l.n hj
   ·exact l.v hj
   ·exact l.va hj
   ·exact l.sa hj
theorem dF.less(c:dF S B X0 h0 Y V d h)(hs:∀x∈X,x∈Y)(own:R5 B V X):dF S B X0 h0 X V d h:=
 c.step (Move.less hs) c.fr (fun x hx=>c.xl x (hs x hx)) own fun _ _ g _=>g
theorem dF.drop{i:Nat}(c:dF S B X0 h0 (i::X) V d h)(l:Loc B V i):dF S B X0 h0 X V d h:=by
 have o:=c.own;refine c.less (fun x hx=>ay _ hx) ⟨?_,?_,?_,fun a ha=>?_,fun a ha=>?_,fun a ha=>?_⟩
 ·exact(aq.1 o.r).resolve_left fun e=>l.r e.symm
 ·exact(aq.1 o.f).resolve_left fun e=>l.f e.symm
 ·exact(aq.1 o.n).resolve_left fun e=>l.n e.symm
 ·exact(aq.1 (o.v a ha)).resolve_left fun e=>l.v (e▸ha)
 ·exact(aq.1 (o.va a ha)).resolve_left fun e=>l.va (e▸ha)
 ·exact(aq.1 (o.sa a ha)).resolve_left fun e=>l.sa (e▸ha)
theorem Mv.of{B:CB}{V:CV}{X Y:List Nat}{h h':ah}(m:Move X Y h h')(f:cM h)(k:aS h h'):Mv B V X Y h h':=⟨m,fun i o _ g=>(k.old i (au f g)).trans g,fun i l _ g=>(k.old i l).trans g,k.next⟩
theorem dF.new(c:dF S B X0 h0 X V d h){i:Nat}(g:h.get i=none)(lt:i<h.next)(o:ej):dF S B X0 h0 X V d (h.set i o)/\Move X X h (h.set i o):=by
 have ks:∀j o',h.get j=some o'->(h.set i o).get j=some o':=fun j o' g'=>by rw[ah.aM,az fun e=>by rw[e,g]at g';cases g'];exact g'
 refine⟨c.step (Move.new o g) (fun j hj=>?_) (fun x hx=>c.xl x hx) c.own fun j o' g' _=>ks j o' g',Move.new o g⟩;rw[ah.aM,az (by simp at hj;omega)];exact c.fr j hj
theorem Mv.fill{B:CB}{V:CV}{X Y:List Nat}{hb h:ah}{i:Nat}(m:Mv B V X Y hb h)(f:cM hb)(hn:hb.next<=i)(o:ej):Mv B V X Y hb (h.set i o):=
 ⟨⟨fun j o' g hj=>⟨by rw[ah.aM,az (by have:=au f g;omega)];exact(m.aJ j o' g hj).1,(m.aJ j o' g hj).2⟩⟩,fun j o' l g=>by rw[ah.aM,az (by have:=au f g;omega)];exact m.lk j o' l g,fun j lt l g=>by rw[ah.aM,az om];exact m.no j lt l g,m.nx⟩
theorem dF.mkD(c:dF S B X0 h0 X V d h){hb:ah}(m:Mv B V X X hb h)(f:cM hb)(hX:∀x∈X,x<hb.next){i j:Nat}(gi:h.get i=none)(gj:h.get j=none)(li:hb.next<=i)(lj:hb.next<=j)(li2:i<h.next)(lj2:j<h.next)(ij:i≠j){qs:List (Nat×TX)}(hq:qs≠[])(sub:∀q∈qs,jK X V.vs h q.1 q.2)(D:Hd)(hv:D.v=none):
 dF S B X0 h0 X V d ((h.set i (.cells true 1 (qs.map fun q=> .P q.1))).set j (.C (D.cs V.vs (.S i qs.length))))/\jK X V.vs ((h.set i (.cells true 1 (qs.map fun q=> .P q.1))).set j (.C (D.cs V.vs (.S i qs.length)))) j (.mk D (qs.map Prod.snd))/\
  Mv B V X X hb ((h.set i (.cells true 1 (qs.map fun q=> .P q.1))).set j (.C (D.cs V.vs (.S i qs.length)))):=by
 obtain⟨c1,m1⟩:=c.new gi li2 (.cells true 1 (qs.map fun q=> .P q.1));have gj1:(h.set i (.cells true 1 (qs.map fun q=> .P q.1))).get j=none:=by rw[ah.aM,az (iw ij)];exact gj
 obtain⟨c2,m2⟩:=c1.new gj1 lj2 (.C (D.cs V.vs (.S i qs.length)));have nx:∀k,hb.next<=k->k∉X:=fun k hk hx=>by have:=hX k hx;omega
 refine⟨c2,.mk sp (nx j lj) (by simp[hv]) (.inr ⟨i,rfl,nx i li,by simp[ij]⟩) rfl fun q hq=>(sub q hq).move (m1.comp m2),(m.fill f li _).fill f lj _⟩
abbrev zq(p:Pl):AV:= .iface 80 (.agg [.I p.1,.I p.2,.I 5])
def eL{α:Type}(S:Sc)(B:CB)(X0:List Nat)(h0:ah)(X:List Nat)(V:CV)(W:α->List Nat->List Nat->ah->AV->Prop)(h:ah)(Q:Out->ah->Prop):Rs α->Prop
 | .ok a d=>∀v h',dF S B X0 h0 X V d h'->W a X V.vs h' v->Mv B V X X h h'->Q (.ret v) h'
 | .err p=>∀h',Move X X h h'->cM h'->Q (.iS (zq p)) h'
theorem eL.at{α:Type}{W:α->List Nat->List Nat->ah->AV->Prop}{Q:Out->ah->Prop}{r:Rs α}{h1:ah}(hQ:eL S B X0 h0 X V W h Q r)(m:Mv B V X X h h1):eL S B X0 h0 X V W h1 Q r:=by
 cases r with
 |ok a d=>exact fun v h' c hv m'=>hQ v h' c hv (m.comp m')
 |err p=>exact fun h' m' f=>hQ h' (m.toMove.comp m') f
theorem eL.bind{α β:Type}{W1:α->List Nat->List Nat->ah->AV->Prop}{W2:β->List Nat->List Nat->ah->AV->Prop}{Q Q':Out->ah->Prop}{r:Rs α}{f:α->Dn->Rs β}{h1:ah}(hQ:eL S B X0 h0 X V W2 h Q (r.bind f))(m:Mv B V X X h h1)
 (hp:∀p h2,Q (.iS (zq p)) h2->Q' (.iS (zq p)) h2)
 (hk:∀a d v h2,r= .ok a d->eL S B X0 h0 X V W2 h2 Q (f a d)->dF S B X0 h0 X V d h2->W1 a X V.vs h2 v->Mv B V X X h1 h2->Q' (.ret v) h2):eL S B X0 h0 X V W1 h1 Q' r:=by
 cases r with
 |ok a d=>exact fun v h' c hv m'=>hk a d v h' rfl (eL.at hQ (m.comp m')) c hv m'
 |err p=>exact fun h' m' f=>hp p h' (hQ h' (m.toMove.comp m') f)
theorem eL.vU{α β:Type}{W1:α->List Nat->List Nat->ah->AV->Prop}{W2:β->List Nat->List Nat->ah->AV->Prop}{Q Q':Out->ah->Prop}{r:Rs α}{f:α->Dn->Rs β}{h1:ah}(hQ:eL S B X0 h0 X V W2 h Q (r.bind f))(hs:∀x∈X,x∈Y)(m:Mv B V X Y h h1)
 (hp:∀p h2,Q (.iS (zq p)) h2->Q' (.iS (zq p)) h2)
 (hk:∀a d v h2,r= .ok a d->eL S B X0 h0 X V W2 h Q (f a d)->dF S B X0 h0 Y V d h2->W1 a Y V.vs h2 v->Mv B V X Y h h2->Mv B V Y Y h1 h2->Q' (.ret v) h2):eL S B X0 h0 Y V W1 h1 Q' r:=by
 cases r with
 |ok a d=>exact fun v h' c hv m'=>hk a d v h' rfl hQ c hv (m.comp m') m'
 |err p=>exact fun h' m' f=>hp p h' (hQ h' ((m.toMove.comp m').comp (Move.less hs)) f)
def WT(e:TX)(X vs:List Nat)(h:ah)(v:AV):Prop:=∃id,v= .P id/\jK X vs h id e
def WI(n:Int)(_ _:List Nat)(_:ah)(v:AV):Prop:=v= .I n
def WP(t:List UInt8×Int)(_ _:List Nat)(_:ah)(v:AV):Prop:=v= .iX [.str t.1,.I t.2]
end
end
section
attribute [local simp] aI
mutual
def Ex.al(P:Pl->Prop)(T:List UInt8->Prop):Ex->Prop
 | .num p _=>P p
 | .var p _=>P p
 | .un p _ a=>P p/\a.al P T
 | .bin p _ a b=>P p/\a.al P T/\b.al P T
 | .cast p ty a=>P p/\T ty/\a.al P T
 | .call p _ xs=>P p/\alL P T xs
 | .index p a i=>P p/\a.al P T/\i.al P T
 | .mr p _ a=>P p/\a.al P T
 | .arrow p _ a=>P p/\a.al P T
 | .Cf p=>P p
 | .size p ty=>P p/\T ty
def alL(P:Pl->Prop)(T:List UInt8->Prop):List Ex->Prop
 |[]=>True
 |e::es=>e.al P T/\alL P T es
end
theorem Ex.al.fM{P:Pl->Prop}{T:List UInt8->Prop}{x:Ex}(h:x.al P T):P x.pos:=by
 cases x<;>simp[Ex.al,Ex.pos]at*<;>first|exact h|exact h.1
def Rs.H{α:Type}(r:Rs α)(V:α->Dn->Prop)(E:Pl->Prop):Prop:=match r with
 | .ok a d=>V a d
 | .err p=>E p
theorem Rs.bq{α β:Type}{r:Rs α}{f:α->Dn->Rs β}{V:α->Dn->Prop}{W:β->Dn->Prop}{E:Pl->Prop}(h:r.H V E)(hf:∀a d,V a d->(f a d).H W E):(r.bind f).H W E:=by
 cases r with
 |ok a d=>exact hf a d h
 |err p=>exact h
theorem Rs.cQ{α:Type}{r:Rs α}{b:Bool}{p:Pl}{V:α->Dn->Prop}{E:Pl->Prop}(hp:E p)(h:b=true->r.H V E):(Rs.nL b p r).H V E:=by
 cases b with
 |true=>exact h rfl
 |false=>exact hp
theorem Rs.R6{α:Type}{r:Rs α}{V W:α->Dn->Prop}{E:Pl->Prop}(h:r.H V E)(hV:∀a d,V a d->W a d):r.H W E:=by
 cases r with
 |ok a d=>exact hV a d h
 |err p=>exact h
def Dn.ov(P:Pl->Prop)(d:Dn):Prop:=∀p,d.over=some p->P p
abbrev Rs.pl{α:Type}(r:Rs α)(P:Pl->Prop):Prop:=r.H (fun _ d=>d.ov P) P
theorem Dn.A1{P:Pl->Prop}{d:Dn}(h:d.ov P){p:Pl}(hp:P p)(b:Bool):(d.tD b p).ov P:=by
 unfold Dn.tD;split
 ·intro q hq;simp only[bw]at hq;exact hq▸hp
 ·exact h
section
variable{S:Sc}{P:Pl->Prop}{T:List UInt8->Prop}
theorem LQ{d:Dn}(h:d.ov P){p:Pl}(hp:P p)(ty:List UInt8):(Ku S ty p d).pl P:=Rs.cQ hp fun _=>Dn.A1 h hp _
theorem aaw{d:Dn}(h:d.ov P){p:Pl}(hp:P p)(e:TX):(VK S e p d).pl P:=by
 unfold VK;split
 ·exact h
 ·split
  ·exact h
  ·exact Rs.cQ hp fun _=>h
theorem rS{r:Rs TX}(h:r.pl P){p:Pl}(hp:P p):(yV S r p).pl P:=Rs.bq h fun e d hd=>aaw hd hp e
theorem NR{r:Rs TX}(h:r.pl P){p:Pl}(hp:P p):(LN S r p).pl P:=Rs.bq (rS h hp) fun _ _ hd=>Rs.cQ hp fun _=>hd
theorem z7{r:Rs TX}(h:r.pl P){p:Pl}(hp:P p):(ye S r p).pl P:=Rs.bq (rS h hp) fun _ _ hd=>Rs.cQ hp fun _=>hd
theorem VN{r:Rs TX}(h:r.pl P){x:Ex}(hp:P x.pos)(ty:List UInt8):(JA S r x ty).pl P:=Rs.bq (rS h hp) fun _ _ hd=>Rs.cQ hp fun _=>hd
theorem G1{d:Dn}(h:d.ov P){p:Pl}(hp:P p)(ty:List UInt8):(Yi S ty p d).pl P:=Rs.cQ hp fun _=>Rs.bq (LQ h hp _) fun _ _ hd=>hd
theorem R7{d:Dn}(h:d.ov P){p:Pl}(hp:P p)(ty nm:List UInt8):(flF S ty nm p d).pl P:=Rs.cQ hp fun _=>by
 split
 ·exact hp
 ·split
  ·exact hp
  ·exact h
theorem VO{d:Dn}(h:d.ov P){p:Pl}(hp:P p)(s:List UInt8):(GZ S s p d).pl P:=by
 unfold GZ;split
 ·exact h
 ·split
  ·exact h
  ·exact hp
theorem aax{d:Dn}(h:d.ov P){p:Pl}(hp:P p)(a b:TX)(op:Int):(Qh S a b op p d).pl P:=Rs.cQ hp fun _=>Rs.bq (G1 h hp _) fun _ _ hd=>hd
theorem aay{d:Dn}(h:d.ov P){p:Pl}(hp:P p)(a b:TX)(x y:Ex)(op:Int):(Yj S a b x y op p d).pl P:=by
 unfold Yj;dsimp only;split
 ·exact Rs.cQ hp fun _=>h
 ·split
  ·exact h
  ·exact aax h hp a b op
theorem aaz{d:Dn}(h:d.ov P){p:Pl}(hp:P p)(e:TX):(adF S e p d).pl P:=Rs.cQ hp fun _=>by
 show Dn.ov P (match e.d.kd==2,e.d.v with
  |true,some k=>d.take k
  |_,_=>d)
 split
 ·exact h
 ·exact h
theorem VP{d:Dn}(h:d.ov P){p:Pl}(hp:P p)(e:TX)(nm:List UInt8):(VL S e nm p d).pl P:=Rs.cQ hp fun _=>Rs.bq (R7 h hp _ _) fun _ _ hd=>hd
theorem VQ{d:Dn}(h:d.ov P){p:Pl}(hp:P p)(e:TX)(nm:List UInt8):(VM S e nm p d).pl P:=Rs.bq (G1 h hp _) fun _ _ hd=>Rs.bq (R7 hd hp _ _) fun _ _ hd=>hd
mutual
theorem sQ:∀(x:Ex)(d:Dn),d.ov P->x.al P T->(jY S x d).pl P
 | .num p n,d,h,a=>by simp only[jY];exact h
 | .var p s,d,h,a=>by simp only[jY];exact VO h a s
 | .un p op a,d,h,⟨hp,ha⟩=>by
  have i:=sQ a d h ha;simp only[jY];split
  ·exact Rs.bq (z7 i ha.fM) fun _ _ hd=>hd
  ·split
   ·exact Rs.bq (rS i ha.fM) fun _ _ hd=>Rs.bq (G1 hd hp _) fun _ _ hd=>hd
   ·split
    ·exact Rs.bq i fun _ _ hd=>aaz hd hp _
    ·exact Rs.bq (NR i ha.fM) fun _ _ hd=>hd
 | .bin p op a b,d,h,⟨hp,ha,hb⟩=>by
  have i:=sQ a d h ha;simp only[jY];split
  ·exact Rs.bq (z7 i ha.fM) fun _ _ hd=>Rs.bq (z7 (sQ b _ hd hb) hb.fM) fun _ _ hd=>hd
  ·split
   ·exact Rs.bq (z7 i ha.fM) fun _ _ hd=>Rs.bq (z7 (sQ b _ hd hb) hb.fM) fun _ _ hd=>hd
   ·exact Rs.bq (rS i ha.fM) fun _ _ hd=>Rs.bq (rS (sQ b _ hd hb) hb.fM) fun _ _ hd=>aay hd hp _ _ _ _ _
 | .cast p ty a,d,h,⟨hp,_,ha⟩=>by
  simp only[jY];exact Rs.bq (rS (sQ a d h ha) ha.fM) fun _ _ hd=>Rs.cQ hp fun _=>hd
 | .call p f xs,d,h,⟨hp,ha⟩=>by
  simp only[jY];split
  ·exact hp
  ·split
   ·exact hp
   ·exact Rs.cQ hp fun _=>Rs.cQ hp fun _=>Rs.bq (R8 xs _ d h ha) fun _ _ hd=>hd
 | .index p a i,d,h,⟨hp,ha,hb⟩=>by
  simp only[jY];exact Rs.bq (rS (sQ a d h ha) ha.fM) fun _ _ hd=>Rs.bq (NR (sQ i _ hd hb) hb.fM) fun _ _ hd=>Rs.bq (G1 hd hp _) fun _ _ hd=>hd
 | .mr p nm a,d,h,⟨hp,ha⟩=>by
  simp only[jY];exact Rs.bq (sQ a d h ha) fun _ _ hd=>VP hd hp _ _
 | .arrow p nm a,d,h,⟨hp,ha⟩=>by
  simp only[jY];exact Rs.bq (rS (sQ a d h ha) ha.fM) fun _ _ hd=>VQ hd hp _ _
 | .Cf p,d,h,a=>by simp only[jY];exact h
 | .size p ty,d,h,a=>by
  simp only[jY];exact Rs.bq (LQ h a.1 ty) fun _ _ hd=>hd
theorem R8:∀(xs:List Ex)(ts:List (List UInt8))(d:Dn),d.ov P->alL P T xs->(JB S xs ts d).pl P
 |x::xs,t::ts,d,h,⟨ha,hb⟩=>by
  simp only[JB];exact Rs.bq (VN (sQ x d h ha) ha.fM t) fun _ _ hd=>Rs.bq (R8 xs ts _ hd hb) fun _ _ hd=>hd
 |[],_,d,h,_=>by simp only[JB];exact h
 |_::_,[],d,h,_=>by simp only[JB];exact h
end
end
theorem O6{s:List UInt8}{a:Bool}{m:Int}:(xi (lJ s a m).1).length<=s.length/\(0<(lJ s a m).1.jG->(xi ⟨(lJ s a m).1.base,(lJ s a m).1.name,(lJ s a m).1.jG-1,(lJ s a m).1.arr,(lJ s a m).1.many⟩).length+1<=s.length):=by
 have tl:=uj s 42;unfold lJ;simp only;split
 ·rename_i hp;have h7:7<=(Lib.trimRightB s 42).length:=(jh.1 hp).length_le;have hn:(Lib.trimPrefix (Lib.trimRightB s 42) jE).length=(Lib.trimRightB s 42).length-7:=by
   unfold Lib.trimPrefix;rw[aW hp,bU];rfl
  unfold xi;simp only;split
  ·simp[iC];omega
  ·simp[iC,hn];omega
 ·unfold xi;simp;omega
theorem Cu(s:List UInt8):(NO s).1.length<=s.length:=by
 have c1:=DC s;unfold NO;split
 ·simp
 ·rename_i gJ;have hr:∃a m,rd s=lJ (qv s).1 a m:=by
   unfold rd at gJ⊢;cases h:yx s with
   |none=>rw[h]at gJ;exact(gJ rfl).elim
   |some p=>exact⟨p.1,p.2,rfl⟩
  obtain⟨a,m,hr⟩:=hr;obtain⟨e1,e2⟩:=@O6 (qv s).1 a m;rw[hr];split
  ·exact bk e1 c1
  ·split
   ·rename_i h0;have:=e2 h0;exact bk (by simp only;omega) c1
   ·simp
theorem Fu(a b:List UInt8):(xg a b).1.length<=4:=by
 unfold xg;split
 ·split<;>simp
 ·simp
section
variable{S:Sc}{P:Pl->Prop}
structure NS(n k:Nat)(e:TX):Prop where
 len:e.ty.length<=eR+n
 v:e.d.kd=2->∃j,e.d.v=some j/\j<k
structure BO(d d':Dn):Prop where
 vl:d'.vs.length=d.vs.length
 ok:d'.Ok
theorem NS.mono{n m k:Nat}{e:TX}(h:NS n k e)(hm:n<=m):NS m k e:=⟨bk h.len om,h.v⟩
theorem Dn.Ok.over{d:Dn}(h:d.Ok)(o:Option Pl):Dn.Ok {d with over:=o}:=⟨h.vs,h.seen,h.sl,h.loops,h.bytes⟩
theorem Dn.Ok.tD{d:Dn}(h:d.Ok)(b:Bool)(p:Pl):(d.tD b p).Ok:=by
 unfold Dn.tD;split
 ·exact h.over _
 ·exact h
theorem Dn.rp(d:Dn)(b:Bool)(p:Pl):(d.tD b p).vs=d.vs/\(d.tD b p).seen=d.seen/\(d.tD b p).vS=d.vS/\(d.tD b p).loops=d.loops/\(d.tD b p).bytes=d.bytes:=by
 unfold Dn.tD;split<;>simp
theorem Dn.Ok.take{d:Dn}(h:d.Ok)(k:Nat):(d.take k).Ok:=by
 refine⟨?_,?_,?_,h.loops,?_⟩
 ·intro v hv;simp only[Dn.take]at hv;obtain⟨i,hi,rfl⟩:=kg hv;rw[List.getElem_modify];simp only[jH]at hi;have:=h.vs _ (bK hi);split<;>exact this
 ·intro j hj;simp only[Dn.take,jH];exact h.seen j hj
 ·simp only[Dn.take,jH];exact h.sl
 ·simp only[Dn.take,jH];exact h.bytes
abbrev Rs.tk(r:Rs TX)(n:Nat)(d:Dn):Prop:=r.H (fun e d'=>NS n d.vs.length e/\BO d d') fun _=>True
theorem R9{d:Dn}(h:d.Ok)(p:Pl)(ty:List UInt8):(Ku S ty p d).H (fun _ d'=>BO d d') fun _=>True:=Rs.cQ trivial fun _=>⟨by rw[(Dn.rp d _ p).1],h.tD _ _⟩
theorem aaA{d d':Dn}{n:Nat}{e:TX}(h:NS n d.vs.length e/\BO d d')(p:Pl):(VK S e p d').tk (n+1) d:=by
 unfold VK;split
 ·exact⟨h.1.mono om,h.2⟩
 ·split
  ·refine⟨⟨?_,fun hk=>by simp[TX.d]at hk⟩,h.2⟩;have:=Cu e.ty;have:=h.1.len;simp[TX.ty,TX.d]at*;omega
  ·exact Rs.cQ trivial fun _=>⟨h.1.mono om,h.2⟩
theorem qF{d:Dn}{n:Nat}{r:Rs TX}(h:r.tk n d)(p:Pl):(yV S r p).tk (n+1) d:=Rs.bq h fun _ _ hd=>aaA hd p
theorem NT{d:Dn}{n:Nat}{r:Rs TX}(h:r.tk n d)(p:Pl):(LN S r p).tk (n+1) d:=Rs.bq (qF h p) fun _ _ hd=>Rs.cQ trivial fun _=>hd
theorem z8{d:Dn}{n:Nat}{r:Rs TX}(h:r.tk n d)(p:Pl):(ye S r p).tk (n+1) d:=Rs.bq (qF h p) fun _ _ hd=>Rs.cQ trivial fun _=>hd
theorem VR{d:Dn}{n:Nat}{r:Rs TX}(h:r.tk n d)(x:Ex){ty:List UInt8}(ht:ty.length<=eR):(JA S r x ty).tk 0 d:=Rs.bq (qF h _) fun _ _ hd=>Rs.cQ trivial fun _=>⟨⟨by simpa[cvF,TX.ty,TX.d]using ht,fun hk=>by simp[cvF,TX.d]at hk⟩,hd.2⟩
theorem BO.refl{d:Dn}(h:d.Ok):BO d d:=⟨rfl,h⟩
theorem BO.trans{a b c:Dn}(h:BO a b)(h':BO b c):BO a c:=⟨h'.vl.trans h.vl,h'.ok⟩
theorem Aa{r:Rs TX}{n:Nat}{d d1:Dn}(h:BO d d1)(h':r.tk n d1):r.tk n d:=Rs.R6 h' fun _ _ ⟨t,k⟩=>⟨⟨t.len,fun hk=>h.vl▸t.v hk⟩,h.trans k⟩
theorem G6{d d1:Dn}(h:BO d d1)(ty:List UInt8)(p:Pl):(Yi S ty p d1).H (fun t d'=>t.1.length<=ty.length/\BO d d') fun _=>True:=Rs.cQ trivial fun _=>Rs.bq (R9 h.ok p _) fun _ _ hd=>⟨Cu ty,h.trans hd⟩
theorem NU{nm:List UInt8}:∀{l:List Fd}{i j:Nat},Ce nm l i=some j->∃k f,j=i+k/\l[k]?=some f/\f.nm=nm
 |[],i,j,h=>by simp[Ce]at h
 |f::l,i,j,h=>by
  unfold Ce at h;split at h
  ·rename_i e;injection h with h;exact⟨0,f,om,rfl,e⟩
  ·obtain⟨k,g,h1,h2,h3⟩:=NU h;exact⟨k+1,g,om,by simpa using h2,h3⟩
theorem yW{s:List UInt8}:∀{l:List (List UInt8×List Fd)}{fl:List Fd},qu s l=some fl->∃x∈l,x.1=s/\x.2=fl
 |[],fl,h=>by simp[qu]at h
 |x::l,fl,h=>by
  unfold qu at h;split at h
  ·rename_i e;injection h with h;exact⟨x,sp,e,h⟩
  ·obtain⟨y,h1,h2⟩:=yW h;exact⟨y,by simp[h1],h2⟩
theorem LR(hS:S.Ok){s nm:List UInt8}{fl:List Fd}{i:Nat}(hf:qu s S.fm=some fl):(vx S s nm fl i).1.length<=eR:=by
 have d0:(match fl[i]? with|some f=>f.ty|none=>([]:List UInt8)).length<=eR:=by
  split
  ·rename_i f hfi;obtain⟨x,h1,h2,rfl⟩:=yW hf;exact(hS.fm x h1).2 f (bg hfi)
  ·simp
 unfold vx;split
 ·exact d0
 ·rename_i e he;split
  ·rename_i q hq;split
   ·exact(hS.pl e (su he).1).2.2 q (bg hq)
   ·exact d0
  ·exact d0
theorem Sa(hS:S.Ok){d d1:Dn}(h:BO d d1)(ty nm:List UInt8)(p:Pl):(flF S ty nm p d1).H (fun t d'=>t.1.length<=eR/\BO d d') fun _=>True:=Rs.cQ trivial fun _=>by
 split
 ·trivial
 ·rename_i fl hf;split
  ·trivial
  ·exact⟨LR hS hf,h⟩
theorem G7{s:List UInt8}{vs:List Vr}:∀{l:List Nat}{k:Nat},z6 s vs l=some k->∃v,vs[k]?=some v/\v.nm=s/\k∈l
 |[],k,h=>by simp[z6]at h
 |j::l,k,h=>by
  unfold z6 at h;split at h
  ·rename_i i hi;injection h with h;subst h;obtain⟨v,h1,h2,h3⟩:=G7 hi;exact⟨v,h1,h2,by simp[h3]⟩
  ·split at h
   ·rename_i v hv;split at h
    ·rename_i e;injection h with h;subst h;exact⟨v,hv,e,sp⟩
    ·cases h
   ·cases h
theorem Ab{s:List UInt8}:∀{l:List (List UInt8)}{i j:Nat},yf s l i=some j->∃k,j=i+k/\l[k]?=some s
 |[],i,j,h=>by simp[yf]at h
 |x::l,i,j,h=>by
  unfold yf at h;split at h
  ·rename_i e;injection h with h;exact⟨0,om,by simp[e]⟩
  ·obtain⟨k,h1,h2⟩:=Ab h;exact⟨k+1,om,by simpa using h2⟩
theorem VS(hS:S.Ok){d:Dn}(h:d.Ok)(s:List UInt8)(p:Pl):(GZ S s p d).tk 1 d:=by
 unfold GZ;split
 ·rename_i k hk;obtain⟨v,h1,h2,h3⟩:=G7 hk;refine⟨⟨?_,fun _=>⟨k,rfl,(aU.1 h1).1⟩⟩,BO.refl h⟩;have:=(h.vs v (bg h1)).1;simp[TX.ty,TX.d,aau,h1];omega
 ·split
  ·rename_i n hn;obtain⟨k,h1,h2⟩:=Ab hn;refine⟨⟨?_,fun hk=>by simp[TX.d]at hk⟩,BO.refl h⟩;simp only[TX.ty,TX.d,aav];split
   ·rename_i g hg;have:=hS.gs.2 g (bg hg);omega
   ·simp
  ·trivial
theorem aaB{d d1:Dn}{n:Nat}{a b:TX}(ha:NS n d.vs.length a)(hb:NS n d.vs.length b)(h:BO d d1)(op:Int)(p:Pl):(Qh S a b op p d1).tk n d:=Rs.cQ trivial fun _=>Rs.bq (G6 h _ p) fun t d' hd=>by
 refine⟨⟨?_,fun hk=>by simp[TX.d]at hk⟩,hd.2⟩;show(TX.ty (match op==11&&DB b.ty with
  |true=>b
  |false=>a)).length<=eR+n
 split
 ·exact hb.len
 ·exact ha.len
theorem aaC{d d1:Dn}{n:Nat}{a b:TX}(ha:NS n d.vs.length a)(hb:NS n d.vs.length b)(h:BO d d1)(x y:Ex)(op:Int)(p:Pl):(Yj S a b x y op p d1).tk n d:=by
 unfold Yj;dsimp only;split
 ·exact Rs.cQ trivial fun _=>⟨⟨by simp[TX.ty,TX.d,eR];omega,fun hk=>by simp[TX.d]at hk⟩,h⟩
 ·split
  ·refine⟨⟨?_,fun hk=>by simp[TX.d]at hk⟩,h⟩;have:=Fu a.ty (if op=19\/op=20 then[99,104,97,114]else b.ty);simp only[TX.ty,TX.d,eR]at*;omega
  ·exact aaB ha hb h op p
theorem aaD{d d1:Dn}{n:Nat}{e:TX}(h:NS n d.vs.length e/\BO d d1)(p:Pl):(adF S e p d1).tk (n+1) d:=Rs.cQ trivial fun _=>by
 refine⟨⟨?_,fun hk=>by simp[TX.d]at hk⟩,?_⟩
 ·have:=h.1.len;simp[TX.ty,TX.d]at*;omega
 ·split
  ·exact⟨by simp[Dn.take,h.2.vl],h.2.ok.take _⟩
  ·exact h.2
abbrev TL(t:List UInt8):Prop:=t.length<=eR
mutual
theorem pj(hS:S.Ok):∀(x:Ex)(d:Dn),d.Ok->x.al P TL->(jY S x d).tk x.nodes d
 | .num p n,d,h,a=>by
  simp only[jY];refine⟨⟨?_,fun hk=>by simp[TX.d]at hk⟩,BO.refl h⟩;simp only[TX.ty,TX.d];split<;>simp[eR]<;>omega
 | .var p s,d,h,a=>by simp only[jY];exact VS hS h s p
 | .un p op a,d,h,⟨hp,ha⟩=>by
  have i:=pj hS a d h ha;simp only[jY];split
  ·exact Rs.bq (z8 i _) fun _ _ hd=>⟨⟨by simp[TX.ty,TX.d,eR];omega,fun hk=>by simp[TX.d]at hk⟩,hd.2⟩
  ·split
   ·refine Rs.bq (qF i _) fun e _ hd=>Rs.bq (G6 hd.2 _ p) fun t _ ht=>⟨⟨?_,fun hk=>by simp[TX.d]at hk⟩,ht.2⟩
    have h1:=hd.1.len;have h2:=ht.1;simp only[TX.ty,TX.d,Ex.nodes]at*;omega
   ·split
    ·exact Rs.bq i fun _ _ hd=>aaD hd p
    ·refine Rs.bq (NT i _) fun e _ hd=>⟨⟨?_,fun hk=>by simp[TX.d]at hk⟩,hd.2⟩
     have:=Fu e.ty [99,104,97,114];simp only[TX.ty,TX.d,eR]at*;omega
 | .bin p op a b,d,h,⟨hp,ha,hb⟩=>by
  have i:=pj hS a d h ha;simp only[jY];split
  ·exact Rs.bq (z8 i _) fun _ d1 hd=>Rs.bq (z8 (Aa hd.2 (pj hS b d1 hd.2.ok hb)) _) fun _ _ hd=>⟨⟨by simp[TX.ty,TX.d,eR];omega,fun hk=>by simp[TX.d]at hk⟩,hd.2⟩
  ·split
   ·exact Rs.bq (z8 i _) fun _ d1 hd=>Rs.bq (z8 (Aa hd.2 (pj hS b d1 hd.2.ok hb)) _) fun _ _ hd=>⟨⟨by simp[TX.ty,TX.d,eR];omega,fun hk=>by simp[TX.d]at hk⟩,hd.2⟩
   ·exact Rs.bq (qF i _) fun e d1 hd=>Rs.bq (qF (Aa hd.2 (pj hS b d1 hd.2.ok hb)) _) fun e2 _ NV=>aaC (hd.1.mono (by simp only[Ex.nodes];omega)) (NV.1.mono (by simp only[Ex.nodes];omega)) NV.2 _ _ _ _
 | .cast p ty a,d,h,⟨hp,ht,ha⟩=>by
  simp only[jY];exact Rs.bq (qF (pj hS a d h ha) _) fun _ _ hd=>Rs.cQ trivial fun _=>⟨⟨by have h3:ty.length<=eR:=ht;show ty.length<=eR+_;omega,fun hk=>by simp[cvF,TX.d]at hk⟩,hd.2⟩
 | .call p f xs,d,h,⟨hp,ha⟩=>by
  simp only[jY];split
  ·trivial
  ·split
   ·trivial
   ·rename_i s hs;have h1:=hS.fs.2 s (bg hs);exact Rs.cQ trivial fun _=>Rs.cQ trivial fun _=>Rs.bq (Sb hS xs _ d h ha h1.2.2) fun _ _ hd=>⟨⟨by simp[TX.ty,TX.d];omega,fun hk=>by simp[TX.d]at hk⟩,hd⟩
 | .index p a i,d,h,⟨hp,ha,hb⟩=>by
  simp only[jY];refine Rs.bq (qF (pj hS a d h ha) _) fun e d1 hd=>Rs.bq (NT (Aa hd.2 (pj hS i d1 hd.2.ok hb)) _) fun _ _ NV=>Rs.bq (G6 NV.2 _ p) fun t _ ht=>⟨⟨?_,fun hk=>by simp[TX.d]at hk⟩,ht.2⟩
  have h1:=hd.1.len;have h2:=ht.1;simp only[TX.ty,TX.d,Ex.nodes]at*;omega
 | .mr p nm a,d,h,⟨hp,ha⟩=>by
  simp only[jY];exact Rs.bq (pj hS a d h ha) fun _ _ hd=>Rs.cQ trivial fun _=>Rs.bq (Sa hS hd.2 _ _ _) fun _ _ ht=>⟨⟨by simp[TX.ty,TX.d];have:=ht.1;omega,fun hk=>by simp[TX.d]at hk⟩,ht.2⟩
 | .arrow p nm a,d,h,⟨hp,ha⟩=>by
  simp only[jY];exact Rs.bq (qF (pj hS a d h ha) _) fun _ _ hd=>Rs.bq (G6 hd.2 _ _) fun _ _ ht=>Rs.bq (Sa hS ht.2 _ _ _) fun _ _ ht=>⟨⟨by simp[TX.ty,TX.d];have:=ht.1;omega,fun hk=>by simp[TX.d]at hk⟩,ht.2⟩
 | .Cf p,d,h,a=>by
  simp only[jY];exact⟨⟨by simp[TX.ty,TX.d,eR];omega,fun hk=>by simp[TX.d]at hk⟩,BO.refl h⟩
 | .size p ty,d,h,a=>by
  simp only[jY];exact Rs.bq (R9 h _ ty) fun _ _ hd=>⟨⟨by simp[TX.ty,TX.d,eR];omega,fun hk=>by simp[TX.d]at hk⟩,hd⟩
theorem Sb(hS:S.Ok):∀(xs:List Ex)(ts:List (List UInt8))(d:Dn),d.Ok->alL P TL xs->(∀t∈ts,t.length<=eR)->(JB S xs ts d).H (fun _ d'=>BO d d') fun _=>True
 |x::xs,t::ts,d,h,⟨ha,hb⟩,ht=>by
  simp only[JB];exact Rs.bq (VR (pj hS x d h ha) x (ht t sp)) fun _ d1 hd=>Rs.bq (Sb hS xs ts d1 hd.2.ok hb fun t h=>ht t (by simp[h])) fun _ _ he=>hd.2.trans he
 |[],_,d,h,_,_=>by simp only[JB];exact BO.refl h
 |_::_,[],d,h,_,_=>by simp only[JB];exact BO.refl h
end
end
end
section
attribute [local simp] aI
theorem BP(s p:List UInt8)(h:ah)(hs:s.length<=9000000000)(hp:p.length<=9000000000):aV env 158 [.str s,.str p] h (fun out h'=>out= .ret (.bool (Lib.hasSuffix s p))/\h'=h):=by
 refine wb fn158 rfl ?_;simp[f158];refine wb fn190 rfl ?_;rw[<-Lib.hasSuffix_of_drop];by_cases h1:p.length<=s.length
 ·have zB:(p.length:Int)<=(s.length:Int):=by omega
  have w1:IntKind.wrap .i64 ((s.length:Int)-(p.length:Int))=((s.length-p.length:Nat):Int):=by rw[wr om om];omega
  simp[f190,h1,zB,w1]
 ·have zB:¬(p.length:Int)<=(s.length:Int):=by omega
  simp[f190,h1,zB]
theorem G8(s p:List UInt8)(h:ah):aV env 99 [.str s,.str p] h (fun out h'=>out= .ret (.bool (Lib.hasPrefix s p))/\h'=h):=by
 refine wb fn99 rfl ?_;simp[f99];refine wb fn133 rfl ?_;rw[<-Lib.hasPrefix_of_take];by_cases h1:p.length<=s.length
 ·have zB:(p.length:Int)<=(s.length:Int):=by omega
  simp[f133,h1,zB]
 ·have zB:¬(p.length:Int)<=(s.length:Int):=by omega
  simp[f133,h1,zB]
theorem xj(s:List UInt8)(h:ah)(hs:s.length<=9000000000):aV env 120 [.str s] h (fun out h'=>out= .ret (.bool (DB s))/\h'=h):=by
 refine wb fn120 rfl ?_;simp[f120];refine(BP s [42] h hs sp).mono fun out h2 hq=>?_;obtain⟨rfl,rfl⟩:=hq;simp[DB]
theorem VT(p:Pl)(r:AV)(h:ah)(Q:Out->ah->Prop)(hQ:∀h',aS h h'->Q (.iS (zq p)) h'):aV env 63 [r,.agg [.I p.1,.I p.2]] h Q:=by
 refine wb fn63 rfl ?_;simp[f63];refine hQ _ ?_;exact kT
theorem gy(p:Pl)(b:Bool)(r:Option (Nat×Nat))(h:ah)(Q:Out->ah->Prop)(h0:∀h',b=false->aS h h'->Q (.iS (zq p)) h')(h1:∀h',b=true->aS h h'->Q (.ret (.iX [])) h'):aV env 33 [.ptr r,.bool b,.agg [.I p.1,.I p.2]] h Q:=by
 refine wb fn33 rfl ?_;simp[f33];cases b with
 |true=>
  simp;refine h1 _ rfl ?_;exact kT
 |false=>
  simp;refine VT p _ _ _ fun h2 k2=>?_;simp;refine h0 _ rfl (aS.trans ?_ k2);exact kT
section
variable{S:Sc}{B:CB}{X0:List Nat}{h0:ah}{X Y:List Nat}{V:CV}{d:Dn}{h h1:ah}
theorem jI{α:Type}{W:α->List Nat->List Nat->ah->AV->Prop}{Q Q':Out->ah->Prop}{r:Rs α}{b:Bool}{p:Pl}(c:dF S B X0 h0 X V d h1)(hQ:eL S B X0 h0 X V W h Q (Rs.nL b p r))(m:Mv B V X X h h1)
 (hp:∀h2,Q (.iS (zq p)) h2->Q' (.iS (zq p)) h2) (hk:∀h2,b=true->eL S B X0 h0 X V W h2 Q r->dF S B X0 h0 X V d h2->aS h1 h2->Q' (.ret (.iX [])) h2):aV env 33 [.P B.r,.bool b,.agg [.I p.1,.I p.2]] h1 Q':=by
 refine gy p b _ h1 Q' (fun h2 e k=>?_) (fun h2 e k=>?_)
 ·subst e;exact hp h2 (hQ h2 (m.toMove.comp (Move.k c.fr k)) (k.fresh c.fr))
 ·subst e;exact hk h2 rfl (eL.at hQ (m.comp (Mv.k c.fr k))) (c.aJ k) k
theorem pq{α:Type}{W:α->List Nat->List Nat->ah->AV->Prop}{Q Q':Out->ah->Prop}{r:Rs α}{b:Bool}{p:Pl}(c:dF S B X0 h0 Y V d h1)(hQ:eL S B X0 h0 X V W h Q (Rs.nL b p r))(hs:∀x∈X,x∈Y)(m:Mv B V X Y h h1)
 (hp:∀h2,Q (.iS (zq p)) h2->Q' (.iS (zq p)) h2) (hk:∀h2,b=true->eL S B X0 h0 X V W h Q r->dF S B X0 h0 Y V d h2->aS h1 h2->Mv B V X Y h h2->Q' (.ret (.iX [])) h2):aV env 33 [.P B.r,.bool b,.agg [.I p.1,.I p.2]] h1 Q':=by
 refine gy p b _ h1 Q' (fun h2 e k=>?_) (fun h2 e k=>?_)
 ·subst e;exact hp h2 (hQ h2 ((m.toMove.comp (Move.k c.fr k)).comp (Move.less hs)) (k.fresh c.fr))
 ·subst e;exact hk h2 rfl hQ (c.aJ k) k (m.comp (Mv.k c.fr k))
theorem dF.out(c:dF S B X0 h0 Y V d h)(own:R5 B V X)(hs:∀x∈X,x∈Y){o:Nat}(Se:o∉X){D:Hd}{av:AV}{qs:List (Nat×TX)}(go:h.get o=some (.C (D.cs V.vs av)))(ar:dP Y h av qs)(sub:∀q∈qs,jK Y V.vs h q.1 q.2)(hv:∀k,D.v=some k->k<V.vs.length):
 dF S B X0 h0 X V d h/\jK X V.vs h o (.mk D (qs.map Prod.snd)):=
 ⟨c.less hs own,.mk go Se hv (ar.move (Move.less hs)) rfl fun q hq=>(sub q hq).move (Move.less hs)⟩
theorem dF.Sf(c:dF S B X0 h0 X V d h){V':CV}{d':Dn}{ov:AV}(hv:V'.vs=V.vs/\V'.va=V.va/\aK V'.sa=aK V.sa)(hd:d'.vs=d.vs/\d'.vS=d.vS)(sa:mu (h.set B.r (.C (B.ob V' d' ov))) V' d')(Sh:kJ X (h.set B.r (.C (B.ob V' d' ov))) ov d'.over)(ok:d'.Ok):
 dF S B X0 h0 X V' d' (h.set B.r (.C (B.ob V' d' ov)))/\Mv B V X X h (h.set B.r (.C (B.ob V' d' ov))):=by
 obtain⟨mv,fr,xl,⟨ov0,c1,c2⟩,⟨s,f1,f2⟩,nm,vl,vs,nd,va,_,ne,own,_⟩:=c;have m:Mv B V X X h (h.set B.r (.C (B.ob V' d' ov))):=Mv.set own.r (fun j l=>l.r) _;have ms:∀i o,h.get i=some o->i≠B.r->(h.set B.r (.C (B.ob V' d' ov))).get i=some o:=fun i o g hi=>by rw[ah.aM,az hi];exact g
 have nf:B.f≠B.r:=fun e=>by rw[e,c1]at f2;simp[CB.ob]at f2
 have nn:B.Kv≠B.r:=fun e=>by rw[e,c1]at nm;simp at nm
 obtain⟨v1,v2,v3⟩:=hv;refine⟨⟨mv.comp m.toMove,fun j hj=>?_,fun x hx=>xl x hx,⟨ov,sp,Sh⟩,⟨s,f1,by rw[v2];exact ms _ _ f2 nf⟩,by rw[hd.2];exact ms _ _ nm nn,by rw[v1,hd.1];exact vl,fun k a v h1 h2=>?_,by rw[v1];exact nd,?_,sa,by rw[v2,v3];exact ne,⟨own.r,own.f,own.n,by rw[v1];exact own.v,by rw[v2];exact own.va,by rw[v3];exact own.sa⟩,ok⟩,m⟩
 ·have:=xl _ own.r;rw[ah.aM,az (by simp at hj;omega)];exact fr j hj
 ·rw[v1]at h1;rw[hd.1]at h2;have g:=vs k a v h1 h2;refine ms _ _ g fun e=>?_;rw[e,c1]at g;simp[CB.ob,Vr.cs]at g
 ·rw[v1,v2];rcases va with va|⟨b,e,hb,g⟩
  ·exact .inl va
  ·refine .inr ⟨b,e,hb,ms _ _ g fun e=>?_⟩;rw[e,c1]at g;simp at g
theorem mu.set(sa:mu h V d){i:Nat}{o o':ej}(g:h.get i=some o')(hi:∀L,o'≠ .cells true 1 L):mu (h.set i o) V d:=by
 rcases sa with sa|⟨b,L,e,g1,t⟩
 ·exact .inl sa
 ·refine .inr ⟨b,L,e,?_,t⟩;rw[ah.aM,az]
  ·exact g1
  ·rintro rfl
   rw[g]at g1;injection g1 with g1;exact hi L g1
theorem DD(c:dF S B X0 h0 X V d h)(b:Bool)(p:Pl)(Q:Out->ah->Prop)(hQ:∀h2,dF S B X0 h0 X V (d.tD b p) h2->Mv B V X X h h2->Q (.ret (.iX [])) h2):
 aV env 59 [.P B.r,.bool b,.agg [.I p.1,.I p.2]] h Q:=by
 refine wb fn59 rfl ?_;obtain⟨ov,c1,c2⟩:=c.c;have Yk:=au c.fr c1;have rn:B.r≠h.next:=om
 have K1:aS h (h.alloc (.C [.I p.1,.I p.2])).2:=kT;have C1:=c.aJ K1;have M1:Mv B V X X h _:=Mv.k c.fr K1;have qx:h.next∉X:=fun hx=>by have:=c.xl _ hx;omega
 have c3:=(K1.old _ Yk).trans c1;have gq:(h.alloc (.C [.I p.1,.I p.2])).2.get h.next=some (.C [.I p.1,.I p.2]):=sp
 simp only[CB.ob]at c1;simp[f59];cases b with
 |true=>
  simp;have e:d.tD true p=d:=by unfold Dn.tD;split<;>simp_all
  rw[e]at hQ;exact hQ _ C1 M1
 |false=>
  cases ho:d.over with
  |some q=>
   have e:d.tD false p=d:=(by unfold Dn.tD;rw[ho]);rw[e]at hQ;rw[ho]at c2;obtain⟨q',rfl,_,_⟩:=c2;simp[c1,rn,rn.symm];exact hQ _ C1 M1
  |none=>
   rw[ho]at c2;have c2:ov= .N:=c2;subst c2;have e:d.tD false p={d with over:=some p}:=(by unfold Dn.tD;rw[ho]);rw[e]at hQ;simp[c1,rn,rn.symm];have key:=C1.Sf (V':=V) (d':={d with over:=some p}) (ov:= .P h.next) ⟨rfl,rfl,rfl⟩ ⟨rfl,rfl⟩ (mu.set (d:={d with over:=some p}) C1.sa c3 sp) ⟨h.next,rfl,qx,by rw[ah.aM,az rn.symm];exact gq⟩ (c.ok.over _);simp only[CB.ob]at key;exact hQ _ key.1 (M1.comp key.2)
end
end
section
attribute [local simp] aI
theorem NW{N:List (List UInt8)}{es:List pW}{ty:List UInt8}(hE:Fits es):0<=(uD N es ty).1/\(uD N es ty).1<=65536:=by
 by_cases e:(uD N es ty).2.2=0
 ·have:=DF hE e;omega
 ·have h0:(uD N es ty).1=0:=by
   unfold uD at e⊢;split
   ·rename_i a;rw[aW a]at e;split
    ·rename_i b;rw[aW b]at e;split
     ·rename_i c;rw[aW c]at e;split
      ·rfl
      ·rename_i f;rw[az f]at e;exact(e rfl).elim
     ·rename_i c;rw[az c]at e;exact(e rfl).elim
    ·rfl
   ·rfl
  omega
section
variable{S:Sc}{B:CB}{X0:List Nat}{h0:ah}{X Y:List Nat}{V:CV}{d:Dn}{h h1:ah}
theorem Stat.Si(hS:Stat S B X0 h0)(c:dF S B X0 h0 X V d h):rG B.tb B.nm B.st h S.N S.es:=by
 obtain⟨t,n,s,o,lt,ln,ls,lo,ne⟩:=hS.Ft;obtain⟨x1,x2,x3,x4⟩:=hS.tx;have g1:=(c.mv.aJ _ _ t x1).1;have g2:=(c.mv.aJ _ _ n x2).1;have g3:=(c.mv.aJ _ _ s x3).1;exact⟨g1,g2,g3,fun e he=>(c.mv.aJ _ _ (o e he) (x4 e he)).1,au c.fr g1,au c.fr g2,au c.fr g3,fun e he=>au c.fr (c.mv.aJ _ _ (o e he) (x4 e he)).1,ne⟩
theorem sw(hS:Stat S B X0 h0)(c:dF S B X0 h0 X V d h)(ty:List UInt8)(hl:ty.length<=100000)(Q:Out->ah->Prop)(hQ:∀h2,aS h h2->Q (.ret (.bool (BN S ty))) h2):
 aV env 62 [.P B.r,.str ty] h Q:=by
 refine wb fn62 rfl ?_;obtain⟨ov,c1,c2⟩:=c.c;simp only[CB.ob]at c1;simp[f62,c1];refine(Fv _ _ _ _ _ _ ty (hS.Si c) c.fr om).mono fun out h3 hq=>?_;obtain⟨rfl,k3⟩:=hq;simp;exact hQ _ k3
theorem G9(hS:Stat S B X0 h0)(c:dF S B X0 h0 X V d h)(ty:List UInt8)(hl:ty.length<=100000)(p:Pl)(Q:Out->ah->Prop)(hQ:eL S B X0 h0 X V WI h Q (Ku S ty p d)):
 aV env 61 [.P B.r,.str ty,.agg [.I p.1,.I p.2]] h Q:=by
 refine wb fn61 rfl ?_;obtain⟨ov,c1,c2⟩:=c.c;have rn:B.r≠h.next:=by have:=au c.fr c1;omega
 simp only[CB.ob]at c1;have K1:aS h (h.alloc (.C [.I p.1,.I p.2])).2:=kT;have C1:=c.aJ K1;have gq:(h.alloc (.C [.I p.1,.I p.2])).2.get h.next=some (.C [.I p.1,.I p.2]):=sp
 simp[f61,c1,rn,rn.symm];generalize (h.alloc (.C [.I p.1,.I p.2])).2=h2 at*;refine(Ha _ _ _ _ _ _ ty (hS.Si C1) C1.fr hS.ok.fit om).mono fun out h3 hq=>?_;obtain⟨rfl,k3⟩:=hq;have g3:=(k3.old _ (au C1.fr gq)).trans gq;have C3:=C1.aJ k3;have M3:Mv B V X X h h3:=(Mv.k c.fr (K1.trans k3))
 unfold Ku at hQ;generalize uD S.N S.es ty=z at*;obtain⟨n,al,er⟩:=z;simp[A2,g3];simp only at hQ;refine jI C3 hQ M3 (fun h4 q=>by simpa using q) fun h4 hb wm C4 k4=>?_;have g4:=(k4.old _ (au C3.fr g3)).trans g3;simp[g4];refine DD C4 _ p _ fun h5 C5 M5=>?_;simp;exact wm _ _ C5 rfl M5
end
end
section
attribute [local simp] aI
section
variable{S:Sc}{B:CB}{X0:List Nat}{h0:ah}{X Y:List Nat}{V:CV}{d:Dn}{h h1:ah}
theorem Ac{id:Nat}{D:Hd}{vs:List Nat}{av:AV}(g:h.get id=some (.C (D.cs vs av))):aV env 91 [.P id] h (fun out h'=>out= .ret (.bool (A0 D.kd))/\h'=h):=by
 refine wb fn91 rfl ?_;simp only[Hd.cs]at g;by_cases h1:2<=D.kd<;>by_cases h2:D.kd<=7<;>simp[f91,g,A0,h1,h2]
theorem jV.obj{id:Nat}{x:Ex}(e:jV X h id x):∃av,h.get id=some (.C (x.dx av x.dJ))/\id∉X/\∃qs,dP X h av qs/\qs.map Prod.snd=x.args/\∀q,q∈qs->jV X h q.1 q.2:=by
 cases e with
 |mk obj nx arr ha sub=>exact⟨_,obj,nx,_,arr,ha,sub⟩
theorem aaE(x:Ex):R3 x=(x.kd==1&&x.nI==0):=by cases x<;>rfl
theorem xk{id:Nat}{x:Ex}(e:jV X h id x):aV env 121 [.P id] h (fun out h'=>out= .ret (.bool (R3 x))/\h'=h):=by
 refine wb fn121 rfl ?_;obtain⟨av,g,_⟩:=e.obj;simp only[Ex.dx]at g;rw[aaE];generalize x.kd=k at*;generalize x.nI=n at*;cases h1:(k==1)<;>simp[f121,g,h1]
theorem jK.node{H:ah}{vs:List Nat}{id:Nat}{D:Hd}{av:AV}{qs:List (Nat×TX)}(m:Move X X h H)(sub:∀q∈qs,jK X vs h q.1 q.2)(obj:H.get id=some (.C (D.cs vs av)))(hid:id∉X)(arr:dP X H av qs)(vk:∀k,D.v=some k->k<vs.length):jK X vs H id (.mk D (qs.map Prod.snd)):=
 .mk obj hid vk arr rfl fun q hq=>(sub q hq).move m
theorem dF.Qj(c:dF S B X0 h0 X V d h){id:Nat}{e:TX}(t:jK X V.vs h id e)(D:Hd)(hv:D.v=none):
 dF S B X0 h0 X V d ((h.alloc (.cells true 1 [.P id])).2.alloc (.C (D.cs V.vs (.S h.next 1)))).2/\jK X V.vs ((h.alloc (.cells true 1 [.P id])).2.alloc (.C (D.cs V.vs (.S h.next 1)))).2 (h.next+1) (.mk D [e])/\
  Mv B V X X h ((h.alloc (.cells true 1 [.P id])).2.alloc (.C (D.cs V.vs (.S h.next 1)))).2:=by
 have K:aS h ((h.alloc (.cells true 1 [.P id])).2.alloc (.C (D.cs V.vs (.S h.next 1)))).2:=kT;have m:Mv B V X X h _:=Mv.k c.fr K;have nx:∀i,h.next<=i->i∉X:=fun i hi hx=>by have:=c.xl i hx;omega
 refine⟨c.aJ K,jK.node (qs:=[(id,e)]) m.toMove (by simpa using t) sp (nx _ om) (.inr ⟨h.next,rfl,nx _ om,sp⟩) (by simp[hv]),m⟩
theorem dF.mk2(c:dF S B X0 h0 X V d h){id sR:Nat}{e e2:TX}(t:jK X V.vs h id e)(t2:jK X V.vs h sR e2)(D:Hd)(hv:D.v=none):
 dF S B X0 h0 X V d ((h.alloc (.cells true 1 [.P id,.P sR])).2.alloc (.C (D.cs V.vs (.S h.next 2)))).2/\jK X V.vs ((h.alloc (.cells true 1 [.P id,.P sR])).2.alloc (.C (D.cs V.vs (.S h.next 2)))).2 (h.next+1) (.mk D [e,e2])/\
  Mv B V X X h ((h.alloc (.cells true 1 [.P id,.P sR])).2.alloc (.C (D.cs V.vs (.S h.next 2)))).2:=by
 have K:aS h ((h.alloc (.cells true 1 [.P id,.P sR])).2.alloc (.C (D.cs V.vs (.S h.next 2)))).2:=kT;have m:Mv B V X X h _:=Mv.k c.fr K;have nx:∀i,h.next<=i->i∉X:=fun i hi hx=>by have:=c.xl i hx;omega
 refine⟨c.aJ K,jK.node (qs:=[(id,e),(sR,e2)]) m.toMove (by simpa using⟨t,t2⟩) sp (nx _ om) (.inr ⟨h.next,rfl,nx _ om,sp⟩) (by simp[hv]),m⟩
theorem dF.mk0(c:dF S B X0 h0 X V d h)(D:Hd)(hv:∀k,D.v=some k->k<V.vs.length):
 dF S B X0 h0 X V d (h.alloc (.C (D.cs V.vs (.Z)))).2/\jK X V.vs (h.alloc (.C (D.cs V.vs (.Z)))).2 h.next (.mk D [])/\Mv B V X X h (h.alloc (.C (D.cs V.vs (.Z)))).2:=by
 have K:aS h (h.alloc (.C (D.cs V.vs (.Z)))).2:=kT;have m:Mv B V X X h _:=Mv.k c.fr K;have nx:∀i,h.next<=i->i∉X:=fun i hi hx=>by have:=c.xl i hx;omega
 refine⟨c.aJ K,jK.node (qs:=[]) m.toMove sp sp (nx _ om) (.inl ⟨rfl,rfl⟩) hv,m⟩
theorem qw(c:dF S B X0 h0 X V d h){id:Nat}{e:TX}(t:jK X V.vs h id e)(ty:List UInt8)(Q:Out->ah->Prop)(hQ:∀wE h2,dF S B X0 h0 X V d h2->jK X V.vs h2 wE (cvF e ty 1)->Mv B V X X h h2->h.next<=wE->Q (.ret (.P wE)) h2):
 aV env 122 [.P id,.str ty] h Q:=by
 refine wb fn122 rfl ?_;obtain⟨av,g,_⟩:=t.obj;simp only[Hd.cs]at g;have key:=fun op=>c.Qj t ⟨15,ty,op,1,0,false,none⟩ rfl;simp only[Hd.cs,vP]at key;cases h1:(ty==[99,104,97,114])<;>cases h2:(ty==[105,110,116])<;>cases h3:(e.d.ty==[105,110,116])<;>cases h4:(e.d.ty==[108,111,110,103])<;>simp[f122,g,h1,h2,h3,h4]<;>exact hQ _ _ (key _).1 (by have k2:=(key (if(ty==[99,104,97,114]&&(e.ty==[105,110,116]||e.ty==[108,111,110,103]))=true then 3 else if(ty==[105,110,116]&&e.ty==[108,111,110,103])=true then 4 else 0)).2.1;simp only[TX.ty,h1,h2,h3,h4]at k2;unfold cvF;simp only[TX.ty,h1,h2,h3,h4];exact k2) (key _).2.2 om
end
end
section
attribute [local simp] aI
def KE(S:Sc)(B:CB)(X0:List Nat)(h0:ah)(x:Ex):Prop:=∀(X:List Nat)(V:CV)(d:Dn)(h:ah)(id:Nat)(Q:Out->ah->Prop),dF S B X0 h0 X V d h->jV X0 h0 id x->eL S B X0 h0 X V WT h Q (jY S x d)->aV env 90 [.P B.r,.P id] h Q
section
variable{S:Sc}{B:CB}{X0:List Nat}{h0:ah}{X Y:List Nat}{V:CV}{d:Dn}{h h1:ah}{P:Pl->Prop}
theorem Sj(hS:Stat S B X0 h0)(c:dF S B X0 h0 X V d h){id:Nat}{e:TX}(t:jK X V.vs h id e)(hl:e.ty.length<=90000)(p:Pl)(Q:Out->ah->Prop)(hQ:eL S B X0 h0 X V WT h Q (VK S e p d)):
 aV env 130 [.P B.r,.P id,.agg [.I p.1,.I p.2]] h Q:=by
 refine wb fn130 rfl ?_;have K1:aS h (h.alloc (.C [.I p.1,.I p.2])).2:=kT;have C1:=c.aJ K1;have M1:Mv B V X X h _:=Mv.k c.fr K1;have T1:=t.move M1.toMove;have gq:(h.alloc (.C [.I p.1,.I p.2])).2.get h.next=some (.C [.I p.1,.I p.2]):=sp
 simp[f130];replace hQ:=hQ.at M1;generalize (h.alloc (.C [.I p.1,.I p.2])).2=h2 at*;generalize h.next=qa at*;clear K1 M1 t c;obtain⟨av,g,nx,vk,qs,arr,ha,sub⟩:=T1.obj;refine(Ac g).mono fun out h3 hq=>?_;obtain⟨rfl,rfl⟩:=hq;unfold VK TX.place at hQ;cases hp:A0 e.d.kd with
 |false=>
  rw[hp]at hQ;simp;exact hQ _ _ C1 ⟨id,rfl,T1⟩ (Mv.refl _ _ _ _)
 |true=>
  rw[hp]at hQ;have g':=g;simp only[Hd.cs]at g';simp[g'];refine(NX _ _ (show e.ty.length<=100000 from om)).mono fun out h4 hq=>?_;obtain⟨rfl,k4⟩:=hq;have M4:Mv B V X X h3 h4:=Mv.k C1.fr k4;have T4:=T1.move M4.toMove;have C4:=C1.aJ k4;have g4:=(k4.old _ (au C1.fr g')).trans g';have gq4:=(k4.old _ (au C1.fr gq)).trans gq;have lel:=Cu e.ty;replace hQ:=hQ.at M4;clear C1 T1 M4 k4 g g' gq;cases h5:(NO e.ty).2 with
  |false=>
   simp only[h5,gX]at hQ;simp[h5];refine jr [0,1,2,3,4,5,7,6,8] kr (by simp[ew,fh];rfl) kr ?_;simp[g4,gq4];have KB:=(aS.refl h4).bump 9;refine sw hS (C4.aJ KB) _ (show e.ty.length<=100000 from om) _ fun h6 k6=>?_;have EF:=KB.trans k6;have NY:=(EF.old _ (au C4.fr gq4)).trans gq4;have g6:=(EF.old _ (au C4.fr g4)).trans g4;simp;refine dm ?_;refine jI (C4.aJ EF) hQ (Mv.k C4.fr EF) (fun h7 q=>⟨dc,fun _=>by simpa using q⟩) fun h7 hb EG C7 k7=>?_;have VU:=(k7.old _ (au (C4.aJ EF).fr NY)).trans NY;have g7:=(k7.old _ (au (C4.aJ EF).fr g6)).trans g6;simp;refine dm ?_;have k47:=EF.trans k7;exact EG _ _ C7 ⟨id,rfl,T4.move (Move.k C4.fr k47)⟩ (Mv.refl _ _ _ _)
  |true=>
   simp[h5,g4];refine(xj _ _ (show e.ty.length<=9000000000 from om)).mono fun out h6 hq=>?_;obtain⟨rfl,rfl⟩:=hq;cases h7:DB e.ty with
   |true=>
    have h7':DB e.d.ty=true:=h7;simp only[h5,h7,fi,Bool.not_true]at hQ;simp;refine jr [0,1,2,3,4,5,7,6,8] kr (by simp[ew,fh];rfl) kr ?_;simp[g4,gq4];have KB:=(aS.refl h6).bump 9;refine sw hS (C4.aJ KB) _ (show e.ty.length<=100000 from om) _ fun h8 k6=>?_;have EF:=KB.trans k6;have NY:=(EF.old _ (au C4.fr gq4)).trans gq4;have g6:=(EF.old _ (au C4.fr g4)).trans g4;simp;refine dm ?_;refine jI (C4.aJ EF) hQ (Mv.k C4.fr EF) (fun h7 q=>⟨dc,fun _=>by simpa using q⟩) fun h7 hb EG C7 k7=>?_;have VU:=(k7.old _ (au (C4.aJ EF).fr NY)).trans NY;have g7:=(k7.old _ (au (C4.aJ EF).fr g6)).trans g6;simp;refine dm ?_;have k47:=EF.trans k7;exact EG _ _ C7 ⟨id,rfl,T4.move (Move.k C4.fr k47)⟩ (Mv.refl _ _ _ _)
   |false=>
    simp only[h5,h7,fi,uy]at hQ;obtain⟨av4,o4,nx4,vk4,qs4,O7,ha4,afv⟩:=T4.obj;simp only[Hd.cs]at o4;have e4:av4=av:=(by rw[g4]at o4;simpa using o4.symm);subst e4;obtain⟨ab,n4,rfl⟩:∃ab n,av4= .slice ab n:=(by rcases O7 with⟨_,rfl⟩|⟨b,rfl,_⟩<;>exact⟨_,_,rfl⟩);have le:(NO e.ty).1.length<=4611686018427387903:=om;simp[g4,le];have K2:aS h6 ((h6.alloc (.C [.I 0,.str [],.I 0,.I 0,.I 0,.bool false,.N,.Z])).2.set h6.next (.C (e.d.cs V.vs (.slice ab n4)))):=kT;have C2:=C4.aJ K2;have M2:Mv B V X X h6 _:=Mv.k C4.fr K2;have T2:jK X V.vs ((h6.alloc (.C [.I 0,.str [],.I 0,.I 0,.I 0,.bool false,.N,.Z])).2.set h6.next (.C (e.d.cs V.vs (.slice ab n4)))) h6.next (.mk e.d (qs4.map Prod.snd)):=jK.node M2.toMove afv sp (fun hx=>by have:=C4.xl _ hx;omega) (O7.move M2.toMove) vk4;have ee:TX.mk e.d (qs4.map Prod.snd)=e:=(by rw[ha4];cases e;rfl);rw[ee]at T2;have key:=C2.Qj T2 ⟨8,(NO e.ty).1++[42],0,1,0,false,none⟩ rfl;simp only[Hd.cs,vP]at key;exact hQ _ _ key.1 ⟨_,rfl,key.2.1⟩ (M2.comp key.2.2)
end
end
section
attribute [local simp] aI
section
variable{S:Sc}{B:CB}{X0:List Nat}{h0:ah}{X Y:List Nat}{V:CV}{d:Dn}{h h1:ah}{P:Pl->Prop}
theorem eL.tail{α:Type}{W:α->List Nat->List Nat->ah->AV->Prop}{Q Q':Out->ah->Prop}{r:Rs α}(hQ:eL S B X0 h0 X V W h Q r)(hp:∀p h2,Q (.iS (zq p)) h2->Q' (.iS (zq p)) h2)(hk:∀v h2,cM h2->Mv B V X X h h2->Q (.ret v) h2->Q' (.ret v) h2):eL S B X0 h0 X V W h Q' r:=by
 cases r with
 |ok a d=>exact fun v h' c hv m=>hk v h' c.fr m (hQ v h' c hv m)
 |err p=>exact fun h' m f=>hp p h' (hQ h' m f)
theorem jV.ob{id:Nat}{x:Ex}(e:jV X h id x):∃(kd:Int)(p:Pl)(op nm:List UInt8)(n:Int)(ty:List UInt8)(av:AV)(t:Int),h.get id=some (.C [.I kd,.I p.1,.I p.2,.str op,.str nm,.I n,.str ty,av,.I t])/\id∉X/\
 kd=x.kd/\p=x.pos/\op=x.Fw/\nm=x.vV/\n=x.nI/\ty=x.vW/\∃qs,dP X h av qs/\qs.map Prod.snd=x.args/\∀q,q∈qs->jV X h q.1 q.2:=by
 obtain⟨av,g,nx,r⟩:=e.obj;exact⟨_,_,_,_,_,_,_,_,g,nx,rfl,rfl,rfl,rfl,rfl,rfl,r⟩
theorem Hb(hS:Stat S B X0 h0){x:Ex}(hx:x.al P TL)(hd:d.Ok){e:TX}{d1:Dn}(hr:jY S x d= .ok e d1):NS x.nodes d.vs.length e/\BO d d1:=by
 have:=pj hS.ok x d hd hx;rw[hr]at this;exact this
theorem vy(hS:Stat S B X0 h0){x:Ex}(hx:x.al P TL)(hd:d.Ok){e:TX}{d1:Dn}{p:Pl}(hr:yV S (jY S x d) p= .ok e d1):NS (x.nodes+1) d.vs.length e/\BO d d1:=by
 have:=qF (S:=S) (pj hS.ok x d hd hx) p;rw[hr]at this;exact this
theorem EH{n k:Nat}{e:TX}(t:NS n k e)(hn:n<=10001):e.ty.length<=90000:=by
 have:=t.len;unfold eR at this;omega
theorem qG(hS:Stat S B X0 h0){x:Ex}(IH:KE S B X0 h0 x)(hx:x.al P TL)(hn:x.nodes<=10000)(c:dF S B X0 h0 X V d h){idx:Nat}(er:jV X0 h0 idx x)(Q:Out->ah->Prop)(hQ:eL S B X0 h0 X V WT h Q (yV S (jY S x d) x.pos)):
 aV env 92 [.P B.r,.P idx] h Q:=by
 refine wb fn92 rfl ?_;obtain⟨kd,p,op,nm,n,ty,av,tl,gx,nx,_,hp,_⟩:=(er.move c.mv).ob;rw[<-hp]at hQ;simp[f92];refine jr [0,1,2,4,5,6,7,3,8,9] kr (by simp[ew,fh];rfl) kr ?_;simp[gx];have KB:=(aS.refl h).bump 10;refine IH X V d _ idx _ (c.aJ KB) er (eL.bind hQ (Mv.k c.fr KB) (fun p h2 q=>⟨dc,fun _=>by simpa using q⟩) fun e d1 v h2 hr jk c2 w2 m2=>?_);obtain⟨me,rfl,t2⟩:=w2;have tF:=((Mv.k c.fr KB).comp m2|>.aJ _ _ gx nx).1;simp;refine dm ?_;refine Sj hS c2 t2 (EH (Hb hS hx c.ok hr).1 om) p _ (eL.tail jk (fun p h2 q=>⟨dc,fun _=>by simpa using q⟩) fun v h3 _ m3 q=>?_);have yX:=(m3.aJ _ _ tF nx).1;simp;refine dm ?_;exact q
theorem A6(hS:Stat S B X0 h0){x:Ex}(IH:KE S B X0 h0 x)(hx:x.al P TL)(hn:x.nodes<=10000)(c:dF S B X0 h0 X V d h){idx:Nat}(er:jV X0 h0 idx x)(Q:Out->ah->Prop)(hQ:eL S B X0 h0 X V WT h Q (LN S (jY S x d) x.pos)):
 aV env 94 [.P B.r,.P idx] h Q:=by
 refine wb fn94 rfl ?_;simp[f94];refine qG hS IH hx hn c er _ (eL.bind hQ (Mv.refl _ _ _ _) (fun p h2 q=>by simpa using q) fun e d1 v h2 hr jk c2 w2 m2=>?_);obtain⟨me,rfl,t2⟩:=w2;obtain⟨kd,p,op,nm,n,ty,av,tl,gx,nx,_,hp,_⟩:=(er.move c2.mv).ob;obtain⟨Sk,g2,yY,_⟩:=t2.obj;simp only[Hd.cs]at g2;rw[<-hp]at jk;simp;refine jr [0,1,2,3,4,6,7,8,9,5,10] kr (by simp[ew,fh];rfl) kr ?_;simp[gx,g2];have KB:=(aS.refl h2).bump 11;refine(lP _ _).mono fun out h3 hq=>?_;obtain⟨rfl,rfl⟩:=hq;simp;refine dm ?_;refine jI (c2.aJ KB) jk (Mv.k c2.fr KB) (fun h4 q=>⟨dc,fun _=>by simpa using q⟩) fun h4 hb wm c4 k4=>?_;have tJ:=KB.trans k4;have BQ:=(tJ.old _ (au c2.fr gx)).trans gx;have g4:=(tJ.old _ (au c2.fr g2)).trans g2;simp;refine dm ?_;exact wm _ _ c4 ⟨me,rfl,t2.move (Move.k c2.fr tJ)⟩ (Mv.refl _ _ _ _)
end
end
section
attribute [local simp] aI
section
variable{S:Sc}{B:CB}{X0:List Nat}{h0:ah}{X Y:List Nat}{V:CV}{d:Dn}{h h1:ah}{P:Pl->Prop}
theorem yZ(hS:Stat S B X0 h0){x:Ex}(IH:KE S B X0 h0 x)(hx:x.al P TL)(hn:x.nodes<=10000)(c:dF S B X0 h0 X V d h){idx:Nat}(er:jV X0 h0 idx x)(Q:Out->ah->Prop)(hQ:eL S B X0 h0 X V WT h Q (ye S (jY S x d) x.pos)):
 aV env 93 [.P B.r,.P idx] h Q:=by
 refine wb fn93 rfl ?_;simp[f93];refine qG hS IH hx hn c er _ (eL.bind hQ (Mv.refl _ _ _ _) (fun p h2 q=>by simpa using q) fun e d1 v h2 hr jk c2 w2 m2=>?_);obtain⟨me,rfl,t2⟩:=w2;obtain⟨kd,p,op,nm,n,ty,av,tl,gx,nx,_,hp,_⟩:=(er.move c2.mv).ob;obtain⟨Sk,g2,yY,_⟩:=t2.obj;simp only[Hd.cs]at g2;have ln:=EH (vy hS hx c.ok hr).1 om;rw[<-hp]at jk;simp;refine jr [0,1,2,3,4,13,14,15,16,5,6,7,8,9,10,11,12,17] kr (by simp[ew,fh];rfl) kr ?_;simp[gx,g2];have KB:=(aS.refl h2).bump 18;refine(lP _ _).mono fun out h3 hq=>?_;obtain⟨rfl,rfl⟩:=hq;cases hA:vT e.d.ty with
 |true=>
  simp only[TX.ty,hA,uz]at jk;simp[hA,gx,g2];refine dm ?_;refine jI (c2.aJ KB) jk (Mv.k c2.fr KB) (fun h4 q=>⟨dc,fun _=>by simpa using q⟩) fun h4 hb wm c4 k4=>?_;have tJ:=KB.trans k4;have BQ:=(tJ.old _ (au c2.fr gx)).trans gx;have g4:=(tJ.old _ (au c2.fr g2)).trans g2;simp;refine dm ?_;exact wm _ _ c4 ⟨me,rfl,t2.move (Move.k c2.fr tJ)⟩ (Mv.refl _ _ _ _)
 |false=>
  simp only[TX.ty,hA,oU]at jk;simp[hA,gx,g2];refine dm ?_;refine(xj _ _ (show e.ty.length<=9000000000 from om)).mono fun out h3 hq=>?_;obtain⟨rfl,rfl⟩:=hq;simp[gx,g2];refine dm ?_;refine jI (c2.aJ KB) jk (Mv.k c2.fr KB) (fun h4 q=>⟨dc,fun _=>by simpa using q⟩) fun h4 hb wm c4 k4=>?_;have tJ:=KB.trans k4;have BQ:=(tJ.old _ (au c2.fr gx)).trans gx;have g4:=(tJ.old _ (au c2.fr g2)).trans g2;simp;refine dm ?_;exact wm _ _ c4 ⟨me,rfl,t2.move (Move.k c2.fr tJ)⟩ (Mv.refl _ _ _ _)
theorem uR(hS:Stat S B X0 h0)(c:dF S B X0 h0 X V d h)(ty:List UInt8)(hl:ty.length<=90000)(p:Pl)(Q:Out->ah->Prop)(hQ:eL S B X0 h0 X V WP h Q (Yi S ty p d)):
 aV env 128 [.P B.r,.str ty,.agg [.I p.1,.I p.2]] h Q:=by
 refine wb fn128 rfl ?_;have K1:aS h (h.alloc (.C [.I p.1,.I p.2])).2:=kT;have C1:=c.aJ K1;have M1:Mv B V X X h _:=Mv.k c.fr K1;have gq:(h.alloc (.C [.I p.1,.I p.2])).2.get h.next=some (.C [.I p.1,.I p.2]):=sp
 simp[f128];replace hQ:=hQ.at M1;generalize (h.alloc (.C [.I p.1,.I p.2])).2=h2 at*;generalize h.next=qa at*;clear K1 M1 c;refine jr [0,1,3,2,4] kr (by simp[ew,fh];rfl) kr ?_;simp[gq];have KB:=(aS.refl h2).bump 5;refine(xj _ _ (show ty.length<=9000000000 from om)).mono fun out h3 hq=>?_;obtain⟨rfl,rfl⟩:=hq;simp;refine dm ?_;refine jI (C1.aJ KB) hQ (Mv.k C1.fr KB) (fun h4 q=>⟨dc,fun _=>by simpa using q⟩) fun h4 hb wm c4 k4=>?_;have tJ:=KB.trans k4;have g4:=(tJ.old _ (au C1.fr gq)).trans gq;simp;refine dm ?_;refine(NX _ _ (show ty.length<=100000 from om)).mono fun out h5 hq=>?_;obtain⟨rfl,k5⟩:=hq;have g5:=(k5.old _ (au c4.fr g4)).trans g4;have le:=Cu ty;simp[g5];refine G9 hS (c4.aJ k5) _ om p _ (eL.bind wm (Mv.k c4.fr k5) (fun p h2 q=>by simpa using q) fun n d6 v h6 hr hQ6 c6 w6 m6=>?_);have w6:v= .I n:=w6;subst w6;simp;exact hQ6 _ _ c6 rfl (Mv.refl _ _ _ _)
end
end
section
attribute [local simp] aI
section
variable{S:Sc}{B:CB}{X0:List Nat}{h0:ah}{X Y:List Nat}{V:CV}{d:Dn}{h h1:ah}{P:Pl->Prop}
theorem Hi(hS:Stat S B X0 h0){x:Ex}(IH:KE S B X0 h0 x)(hx:x.al P TL)(hn:x.nodes<=10000)(c:dF S B X0 h0 X V d h){idx:Nat}(er:jV X0 h0 idx x){ty:List UInt8}(Gp:ty.length<=90000)(Q:Out->ah->Prop)(hQ:eL S B X0 h0 X V WT h Q (JA S (jY S x d) x ty)):
 aV env 89 [.P B.r,.P idx,.str ty] h Q:=by
 refine wb fn89 rfl ?_;simp[f89];refine qG hS IH hx hn c er _ (eL.bind hQ (Mv.refl _ _ _ _) (fun p h2 q=>by simpa using q) fun e d1 v h2 hr jk c2 w2 m2=>?_);obtain⟨me,rfl,t2⟩:=w2;have er2:=er.move c2.mv;obtain⟨kd,p,op,nm,n,ty',av,tl,gx,nx,_,hp,_⟩:=er2.ob;obtain⟨Sk,g2,yY,_⟩:=t2.obj;simp only[Hd.cs]at g2;rw[<-hp]at jk;simp;refine jr [0,1,26,27,28,29,2,3,4,5,6,7,8,9,10,11,12,13,14,15,16,17,18,19,20,21,22,23,24,25,30] kr (by simp[ew,fh];rfl) kr ?_;simp[gx,g2];have KB:=(aS.refl h2).bump 31;have erB:jV X (h2.bump 31) idx x:=er2.move (Move.k c2.fr KB);unfold adb at jk;refine(lP _ _).mono fun out h3 hq=>?_;obtain⟨rfl,rfl⟩:=hq;generalize hA:vT ty=bA at*;generalize hB:vT e.d.ty=bB at*;generalize hC:DB ty=bC at*;generalize hD:(e.d.ty==ty)=bD at*;generalize hE:R3 x=bE at*;cases bA with
 |true=>
  simp[gx,g2];refine dm ?_;refine(lP _ _).mono fun out h3 hq=>?_;obtain⟨rfl,rfl⟩:=hq;simp only[hB];cases bB with
  |true=>
   simp only[fi,uz]at jk;simp[gx,g2];refine dm ?_;refine jI (c2.aJ KB) jk (Mv.k c2.fr KB) (fun h4 q=>⟨dc,fun _=>by simpa using q⟩) fun h4 hb wm c4 k4=>?_;have tJ:=KB.trans k4;have BQ:=(tJ.old _ (au c2.fr gx)).trans gx;have g4:=(tJ.old _ (au c2.fr g2)).trans g2;simp;refine dm ?_;refine qw c4 (t2.move (Move.k c2.fr tJ)) ty _ fun Ml h5 c5 t5 m5 _=>?_;simp;exact wm _ _ c5 ⟨Ml,rfl,t5⟩ m5
  |false=>
   simp[gx,g2];refine dm ?_;refine(xj _ _ (show ty.length<=9000000000 from om)).mono fun out h3 hq=>?_;obtain⟨rfl,rfl⟩:=hq;simp only[hC];cases bC with
   |false=>
    simp only[gX,Bool.or_false,Bool.and_false]at jk;simp[gx,g2];refine dm ?_;refine jI (c2.aJ KB) jk (Mv.k c2.fr KB) (fun h4 q=>⟨dc,fun _=>by simpa using q⟩) fun h4 hb wm c4 k4=>?_;have tJ:=KB.trans k4;have BQ:=(tJ.old _ (au c2.fr gx)).trans gx;have g4:=(tJ.old _ (au c2.fr g2)).trans g2;simp;refine dm ?_;refine qw c4 (t2.move (Move.k c2.fr tJ)) ty _ fun Ml h5 c5 t5 m5 _=>?_;simp;exact wm _ _ c5 ⟨Ml,rfl,t5⟩ m5
   |true=>
    simp only[fi,oU,gX,Bool.and_false]at jk;simp[gx,g2,hD];refine dm ?_;cases bD with
    |true=>
     simp only[uz]at jk;simp[gx,g2];refine dm ?_;refine jI (c2.aJ KB) jk (Mv.k c2.fr KB) (fun h4 q=>⟨dc,fun _=>by simpa using q⟩) fun h4 hb wm c4 k4=>?_;have tJ:=KB.trans k4;have BQ:=(tJ.old _ (au c2.fr gx)).trans gx;have g4:=(tJ.old _ (au c2.fr g2)).trans g2;simp;refine dm ?_;refine qw c4 (t2.move (Move.k c2.fr tJ)) ty _ fun Ml h5 c5 t5 m5 _=>?_;simp;exact wm _ _ c5 ⟨Ml,rfl,t5⟩ m5
    |false=>
     simp only[oU]at jk;simp[gx,g2];refine dm ?_;refine(xk erB).mono fun out h3 hq=>?_;obtain⟨rfl,rfl⟩:=hq;simp only[hE];simp[gx,g2];refine dm ?_;refine jI (c2.aJ KB) jk (Mv.k c2.fr KB) (fun h4 q=>⟨dc,fun _=>by simpa using q⟩) fun h4 hb wm c4 k4=>?_;have tJ:=KB.trans k4;have BQ:=(tJ.old _ (au c2.fr gx)).trans gx;have g4:=(tJ.old _ (au c2.fr g2)).trans g2;simp;refine dm ?_;refine qw c4 (t2.move (Move.k c2.fr tJ)) ty _ fun Ml h5 c5 t5 m5 _=>?_;simp;exact wm _ _ c5 ⟨Ml,rfl,t5⟩ m5
 |false=>
  simp[gx,g2];refine dm ?_;refine(xj _ _ (show ty.length<=9000000000 from om)).mono fun out h3 hq=>?_;obtain⟨rfl,rfl⟩:=hq;simp only[hC];cases bC with
  |false=>
   simp only[gX,Bool.or_false,Bool.and_false]at jk;simp[gx,g2];refine dm ?_;refine jI (c2.aJ KB) jk (Mv.k c2.fr KB) (fun h4 q=>⟨dc,fun _=>by simpa using q⟩) fun h4 hb wm c4 k4=>?_;have tJ:=KB.trans k4;have BQ:=(tJ.old _ (au c2.fr gx)).trans gx;have g4:=(tJ.old _ (au c2.fr g2)).trans g2;simp;refine dm ?_;refine qw c4 (t2.move (Move.k c2.fr tJ)) ty _ fun Ml h5 c5 t5 m5 _=>?_;simp;exact wm _ _ c5 ⟨Ml,rfl,t5⟩ m5
  |true=>
   simp only[fi,oU,gX,Bool.and_false]at jk;simp[gx,g2,hD];refine dm ?_;cases bD with
   |true=>
    simp only[uz]at jk;simp[gx,g2];refine dm ?_;refine jI (c2.aJ KB) jk (Mv.k c2.fr KB) (fun h4 q=>⟨dc,fun _=>by simpa using q⟩) fun h4 hb wm c4 k4=>?_;have tJ:=KB.trans k4;have BQ:=(tJ.old _ (au c2.fr gx)).trans gx;have g4:=(tJ.old _ (au c2.fr g2)).trans g2;simp;refine dm ?_;refine qw c4 (t2.move (Move.k c2.fr tJ)) ty _ fun Ml h5 c5 t5 m5 _=>?_;simp;exact wm _ _ c5 ⟨Ml,rfl,t5⟩ m5
   |false=>
    simp only[oU]at jk;simp[gx,g2];refine dm ?_;refine(xk erB).mono fun out h3 hq=>?_;obtain⟨rfl,rfl⟩:=hq;simp only[hE];simp[gx,g2];refine dm ?_;refine jI (c2.aJ KB) jk (Mv.k c2.fr KB) (fun h4 q=>⟨dc,fun _=>by simpa using q⟩) fun h4 hb wm c4 k4=>?_;have tJ:=KB.trans k4;have BQ:=(tJ.old _ (au c2.fr gx)).trans gx;have g4:=(tJ.old _ (au c2.fr g2)).trans g2;simp;refine dm ?_;refine qw c4 (t2.move (Move.k c2.fr tJ)) ty _ fun Ml h5 c5 t5 m5 _=>?_;simp;exact wm _ _ c5 ⟨Ml,rfl,t5⟩ m5
end
end
section
attribute [local simp] aI
theorem Ad:∀(fs:List Fd)(i:Nat)(f:Fd),fs[i]?=some f->List.take 2 (List.drop (i*2) (rF fs))=[.str f.ty,.str f.nm]/\(rF fs)[i*2]?=some (.str f.ty)
 |[],i,f,h=>by simp at h
 |p::ps,0,f,h=>by
  simp only[ed,bw]at h;subst h;simp[rF]
 |p::ps,i+1,f,h=>by
  have:=Ad ps i f (by simpa using h);rw[show(i+1)*2=i*2+1+1 by omega];simpa[rF]using this
theorem rT:∀fs:List Fd,(rF fs).length=fs.length*2
 |[]=>rfl
 |p::ps=>by
  have:=rT ps;simp only[rF,cY,j1,bO,ai,bz]at this⊢;omega
theorem JC:∀(ps:List A7)(i:Nat)(q:A7),ps[i]?=some q->(flat ps)[i*3]?=some (.str q.name)/\(flat ps)[i*3+1]?=some (.str q.type)/\(flat ps)[i*3+2]?=some (.I q.off)
 |[],i,f,h=>by simp at h
 |p::ps,0,f,h=>by
  simp only[ed,bw]at h;subst h;simp[flat,A7.cs]
 |p::ps,i+1,f,h=>by
  have:=JC ps i f (by simpa using h);rw[show(i+1)*3=i*3+1+1+1 by omega];simpa[flat,A7.cs]using this
section
variable{S:Sc}{B:CB}{X0:List Nat}{h0:ah}{X Y:List Nat}{V:CV}{d:Dn}{h h1:ah}{P:Pl->Prop}
def fdI(nm:List UInt8)(fl:List Fd):Int:=match Ce nm fl 0 with
 |some i=>i
 |none=>-1
theorem Sl{q:Nat}{ty fn nm:List UInt8}(g:h.get q=some (.C [.str nm]))(Q:Out->ah->Prop)(lt:q<h.next)(hQ:∀h2,aS h h2->Q (.ret (.bool (fn==nm))) h2):aV env 166 [.agg [.str ty,.str fn],.P q] h Q:=by
 refine wb fn166 rfl ?_;have n1:q≠h.next:=om
 simp[f166,g,n1,n1.symm];refine hQ _ ?_;exact kT
theorem DG{q:Nat}{nm:List UInt8}{av:AV}{fl:List Fd}(g:h.get q=some (.C [.str nm]))(ar:kI X h av 2 fl.length (rF fl))(fr:cM h)(hl:fl.length<=300)(Q:Out->ah->Prop)(hQ:∀h2,aS h h2->Q (.ret (.I (fdI nm fl))) h2):
 aV env 165 [av,.func 166 [.P q]] h Q:=by
 refine wb fn165 rfl ?_;obtain⟨ab,rQ⟩:∃ab,av= .slice ab fl.length:=by
  rcases ar with⟨e,_,rfl⟩|⟨b,yg,rfl,_,_⟩
  ·exact⟨none,by rw[e]⟩
  ·exact⟨some (b,0),rfl⟩
 simp[f165,rQ];refine bW (fun m x=>∃i,i<=fl.length/\m=fl.length-i/\Ce nm (fl.drop i) i=Ce nm fl 0/\x.n=19/\x.ds=[]/\x.bI=false/\aS h x.h/\x.rg.get 0=some av/\x.rg.get 1=some (.func 166 [.P q])/\x.rg.get 7=some (.I fl.length)/\x.rg.get 8=some (.I i)) fl.length ?_ ?_
 ·exact⟨0,om,rfl,rfl,rfl,rfl,rfl,aS.refl _,by simp[rQ],sp,sp,sp⟩
 rintro m ⟨rg,n,H,ds,bI⟩ ⟨i,hi,rfl,hf,e1,e2,e3,k,r0,r1,r7,r8⟩
 dsimp only at e1 e2 e3 k r0 r1 r7 r8;subst e1 e2 e3;by_cases cX:i<fl.length
 ·obtain⟨b,yg,e,_,gb⟩:=ar.resolve_left fun e=>by omega
  rw[e]at r0;have VV:=(k.old _ (au fr gb)).trans gb;have gf:=(k.old _ (au fr g)).trans g;obtain⟨fa,_⟩:=Ad fl i fl[i] (aj cX);have fb:i*2+2<=(rF fl).length:=by have:=rT fl;omega
  have fW:(i:Int)<(fl.length:Int):=by omega
  have wi:IntKind.wrap .i64 ((i:Int)+1)=((i+1:Nat):Int):=by rw[wr om om];omega
  rw[ca cX,Ce]at hf;simp[r0,r1,r7,r8,cX,fW,VV,fa,fb];refine Sl gf _ (au (k.fresh fr) gf) fun h2 k2=>?_;by_cases hn:fl[i].nm=nm
  ·rw[aW hn]at hf;have e2:(fl[i].nm==nm)=true:=(by simp[hn]);have:=hQ _ (k.trans k2);unfold fdI at this;rw[<-hf]at this;simp[e2,r0,r1,r7,r8];exact this
  ·rw[az hn]at hf;have e2:(fl[i].nm==nm)=false:=(by simp[hn]);simp[e2,r0,r1,r7,r8,wi];exact⟨_,om,i+1,cX,rfl,hf,k.trans k2,e.symm,om⟩
 ·have np:i=fl.length:=by omega
  subst np;have fW:¬(fl.length:Int)<(fl.length:Int):=by omega
  rw[eQ,Ce]at hf;have:=hQ _ k;unfold fdI at this;rw[<-hf]at this;simp[r0,r1,r7,r8];exact this
end
end
section
attribute [local simp] aI
section
variable{S:Sc}{B:CB}{X0:List Nat}{h0:ah}{X Y:List Nat}{V:CV}{d:Dn}{h h1:ah}{P:Pl->Prop}
theorem NZ(hS:Stat S B X0 h0)(c:dF S B X0 h0 X V d h)(ty nm:List UInt8)(p:Pl)(Q:Out->ah->Prop)(hQ:eL S B X0 h0 X V WP h Q (flF S ty nm p d)):
 aV env 129 [.P B.r,.str ty,.str nm,.agg [.I p.1,.I p.2]] h Q:=by
 refine wb fn129 rfl ?_;have K1:aS h ((h.alloc (.C [.str nm])).2.alloc (.C [.I p.1,.I p.2])).2:=kT;have C1:=c.aJ K1;have M1:Mv B V X X h _:=Mv.k c.fr K1;have gn1:((h.alloc (.C [.str nm])).2.alloc (.C [.I p.1,.I p.2])).2.get h.next=some (.C [.str nm]):=sp
 have gq:((h.alloc (.C [.str nm])).2.alloc (.C [.I p.1,.I p.2])).2.get (h.next+1)=some (.C [.I p.1,.I p.2]):=sp
 simp[f129];replace hQ:=hQ.at M1;generalize ((h.alloc (.C [.str nm])).2.alloc (.C [.I p.1,.I p.2])).2=h2 at*;generalize h.next+1=qa at*;generalize h.next=qn at*;clear K1 M1 c;refine aV.fw pr136 zX ?_;unfold flF at hQ;have ek:([115,116,114,117,99,116,32]:List UInt8)=jE:=rfl;rw[ek];generalize hs:Lib.trimPrefix ty jE=s at*;simp[gq];refine jI C1 hQ (Mv.refl _ _ _ _) (fun h4 q=>by simpa using q) fun h3 hb qW C3 k3=>?_;have gn3:=(k3.old _ (au C1.fr gn1)).trans gn1;have Yl:=(k3.old _ (au C1.fr gq)).trans gq;obtain⟨ov,c1,c2⟩:=C3.c;simp only[CB.ob]at c1;obtain⟨es,gm0,hm⟩:=hS.fm;have gm3:=(C3.mv.aJ _ _ gm0 hS.mx.1).1;have gm4:∀(o:ej)(i:Nat),i≠B.fm->(h3.set i o).get B.fm=some (.map es):=fun o i hi=>by rw[ah.aM,az hi.symm];exact gm3
 rcases hm s with⟨hf,hm⟩|⟨fl,j,av,hf,hm,VW⟩
 ·rw[hf]at qW;simp[c1,gm3,hm];refine DG (X:=X) (fl:=[]) gn3 (.inl ⟨rfl,rfl,rfl⟩) C3.fr sp _ fun h5 k5=>?_;have Un:=(k5.old _ (au C3.fr Yl)).trans Yl;simp[fdI,Ce,Un];refine gy p false _ _ _ (fun h6 _ k6=>?_) (fun h6 hh _=>by cases hh);have k56:=k5.trans k6;simp;exact qW _ (Move.k C3.fr k56) (k56.fresh C3.fr)
 ·rw[hf]at qW;have He:=yW hf;obtain⟨xf,xm,x1,x2⟩:=He;have ok:=hS.ok.fm xf xm;rw[x2]at ok;have adf:=VW.move C3.mv;have xL:∃ab,av= .slice ab fl.length:=by
   rcases adf with⟨e,_,rfl⟩|⟨b,yg,rfl,_,_⟩
   ·exact⟨none,by rw[e]⟩
   ·exact⟨some (b,0),rfl⟩
  obtain⟨ab,rfl⟩:=xL;simp[c1,gm3,hm];refine DG gn3 adf C3.fr ok.1 _ fun h5 k5=>?_;have Un:=(k5.old _ (au C3.fr Yl)).trans Yl;have gn5:=(k5.old _ (au C3.fr gn3)).trans gn3;have C5:=C3.aJ k5;replace qW:=qW.at (Mv.k C3.fr k5)
  simp only at qW;cases hi:Ce nm fl 0 with
  |none=>
   rw[hi]at qW;simp[fdI,hi,Un];refine gy p false _ _ _ (fun h6 _ k6=>?_) (fun h6 hh _=>by cases hh);simp;exact qW _ (Move.k C5.fr k6) (k6.fresh C5.fr)
  |some i=>
   rw[hi]at qW;obtain⟨i',f,Kw,hfi,B7⟩:=NU hi;have Kw:i=i':=om;subst Kw;simp[fdI,hi,Un];refine gy p true _ _ _ (fun h6 hh _=>by cases hh) (fun h6 _ k6=>?_);have NY:=(k6.old _ (au C5.fr Un)).trans Un;have gn6:=(k6.old _ (au C5.fr gn5)).trans gn5;have C6:=C5.aJ k6;replace qW:=qW.at (Mv.k C5.fr k6)
   obtain⟨ov6,c6,_⟩:=C6.c;simp only[CB.ob]at c6;simp[c6];obtain⟨e,he⟩:=hS.ok.fe xf xm;rw[x1]at he;have pl:=hS.ok.pl e (su he).1;refine(O8 _ _ _ _ _ _ s e (hS.Si C6) he pl.1 pl.2.1).mono fun out h7 hq=>?_;obtain⟨o,rfl,go,lo,VX,k7⟩:=hq;have C7:=C6.aJ k7;have VU:=(k7.old _ (au C6.fr NY)).trans NY;have gn7:=(k7.old _ (au C6.fr gn6)).trans gn6;obtain⟨ov7,c7,_⟩:=C7.c;simp only[CB.ob]at c7;have gm7:=(C7.mv.aJ _ _ gm0 hS.mx.1).1;have afw:=VW.move C7.mv;replace qW:=qW.at (Mv.k C6.fr k7)
   have cX:i<fl.length:=(aU.1 hfi).1;obtain⟨b7,rw7,e7,_,O9⟩:=afw.resolve_left fun e=>by omega
   injection e7 with e7 _;subst e7;have fdl:=rT fl;obtain⟨fa,fa2⟩:=Ad fl i f hfi;have fW:(i:Int)<(fl.length:Int):=om;have KB:=(aS.refl h7).bump 19;by_cases hlen:e.ps.length=fl.length
   ·obtain⟨q,hq⟩:∃q,e.ps[i]?=some q:=⟨_,aj om⟩
    obtain⟨f1,f2,f3⟩:=JC e.ps i q hq;have fl3:=oM e.ps;have b1:i<e.ps.length:=om;simp[hlen];refine Dd ?_;by_cases Hf:q.name=nm
    ·have aaF:(q.name==nm)=true:=(by simp[Hf]);have pk:vx S s nm fl i=(q.type,q.off):=by
      unfold vx;simp only[he,hq];rw[aW ⟨hlen,Hf⟩]
     simp only[pk]at qW;simp[c7,gm7,hm,go,gn7,cX,fW,f1,f2,f3,aaF];refine dl ?_;refine Dd ?_;simp[go,cX,fW,f1,f2,f3];refine dm ?_;have Qk:=KB.bump 12;exact qW _ _ (C7.aJ Qk) rfl (Mv.k C7.fr Qk)
    ·have aaF:(q.name==nm)=false:=(by simp[Hf]);have pk:vx S s nm fl i=(f.ty,0):=by
      unfold vx;simp only[he,hq,hfi];rw[az fun e=>Hf e.2]
     simp only[pk]at qW;simp[c7,gm7,hm,go,gn7,O9,fa2,cX,fW,f1,f2,f3,aaF];refine dl ?_;exact qW _ _ (C7.aJ KB) rfl (Mv.k C7.fr KB)
   ·have pk:vx S s nm fl i=(f.ty,0):=by
     unfold vx;simp only[he,hfi];split
     ·rw[az fun e=>hlen e.1]
     ·rfl
    simp only[pk]at qW;have nJ:((e.ps.length:Int)==(fl.length:Int))=false:=(by rw[aH];omega);have EI:((e.ps.length:Int) !=(fl.length:Int))=true:=(by rw[bne,nJ];rfl);simp;refine Dd ?_;simp[c7,gm7,hm,nJ,EI,O9,fa2,cX,fW];refine dl ?_;exact qW _ _ (C7.aJ KB) rfl (Mv.k C7.fr KB)
end
end
end Go.Proofs.YtgebeldoibkkpaaGreatDoor
