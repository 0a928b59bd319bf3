/- Lemmas for CheckTurns; each states its own conditions. -/
import Derived.Test.YtaekaifihehgdaaGreatDoorG
set_option maxRecDepth 100000
set_option maxHeartbeats 0
set_option linter.unusedSimpArgs false
set_option linter.unusedVariables false
namespace Go.Proofs.YtaekaifihehgdaaGreatDoor
open Go.Am Tryz
section
structure Hd where
 kd:Int
 ty:List UInt8
 op:Int
 n:Int
 sz:Int
 tu:Bool
 v:Option Nat
inductive TX where
 |mk (d:Hd) (l:List TX)
def TX.d:TX->Hd
 | .mk d _=>d
def TX.l:TX->List TX
 | .mk _ l=>l
abbrev TX.ty(e:TX):List UInt8:=e.d.ty
def zq(k:Int):Bool:=decide (2<=k)&&decide (k<=7)
def TX.place(e:TX):Bool:=zq e.d.kd
inductive TS where
 |mk (kd:Int) (v:Option Nat) (to e:Option TX) (l:List TS)
structure Vr where
 nm:List UInt8
 ty:List UInt8
 sz:Int
 param:Bool
 taken:Bool
 sc:Bool
structure Sg where
 nm:List UInt8
 ty:List UInt8
 ps:List (List UInt8)
 pb:List Bool
structure Gl where
 nm:List UInt8
 ty:List UInt8
 sz:Int
structure Sc where
 N:List (List UInt8)
 es:List jV
 fm:List (List UInt8×List Fd)
 gs:List Gl
 fs:List Sg
structure Dn where
 vs:List Vr
 seen:List Nat
 oT:List (List UInt8)
 loops:Int
 bytes:Int
 over:Option Pl
inductive Rs(α:Type) where
 |ok (a:α) (d:Dn)
 |err (p:Pl)
def Rs.bind{α β:Type}(r:Rs α)(f:α->Dn->Rs β):Rs β:=match r with
 | .ok a d=>f a d
 | .err p=> .err p
@[simp]theorem Rs.fP{α β:Type}(a:α)(d:Dn)(f:α->Dn->Rs β):(Rs.ok a d).bind f=f a d:=rfl
@[simp]theorem Rs.SK{α β:Type}(p:Pl)(f:α->Dn->Rs β):(Rs.err p:Rs α).bind f= .err p:=rfl
def Rs.fV{α:Type}(b:Bool)(p:Pl)(r:Rs α):Rs α:=match b with
 |true=>r
 |false=> .err p
@[simp]theorem Rs.sM{α:Type}(p:Pl)(r:Rs α):Rs.fV true p r=r:=rfl
@[simp]theorem Rs.T5{α:Type}(p:Pl)(r:Rs α):Rs.fV false p r= .err p:=rfl
def Dn.nz(d:Dn)(b:Bool)(p:Pl):Dn:=match b,d.over with
 |false,none=>{d with over:=some p}
 |_,_=>d
def BC(s:List UInt8):Bool:=Lib.hasSuffix s [42]
section
variable(S:Sc)
def Cj(ty:List UInt8)(p:Pl)(d:Dn):Rs Int:=Rs.fV (!((oA S.N S.es ty).2.2==5)) p (.ok (oA S.N S.es ty).1 (d.nz ((oA S.N S.es ty).2.2==0) p))
def sN(ty:List UInt8):Bool:=GR S.N S.es ty
def Nu(e:TX)(p:Pl)(d:Dn):Rs TX:=match e.place with
 |false=> .ok e d
 |true=>match(Iy e.ty).2&&!BC e.ty with
  |true=> .ok (.mk ⟨8,(Iy e.ty).1++[42],0,1,0,false,none⟩ [e]) d
  |false=>Rs.fV (sN S e.ty) p (.ok e d)
def wV(r:Rs TX)(p:Pl):Rs TX:=r.bind λe d=>Nu S e p d
def FD(r:Rs TX)(p:Pl):Rs TX:=(wV S r p).bind λe d=>Rs.fV (tP e.ty) p (.ok e d)
def ux(r:Rs TX)(p:Pl):Rs TX:=(wV S r p).bind λe d=>Rs.fV (tP e.ty||BC e.ty) p (.ok e d)
def FE:Ex->Bool
 | .num _ n=>n==0
 |_=>false
def N6(e:TX)(ty:List UInt8)(n:Int):TX:=
 .mk ⟨15,ty,if(ty==[99,104,97,114]&&(e.ty==[105,110,116]||e.ty==[108,111,110,103]))=true then 3 else if(ty==[105,110,116]&&e.ty==[108,111,110,103])=true then 4 else 0,n,0,false,none⟩ [e]
def N7(e:TX)(x:Ex)(ty:List UInt8):Bool:=tP ty&&tP e.ty||BC ty&&(e.ty==ty||FE x)
def BD(r:Rs TX)(x:Ex)(ty:List UInt8):Rs TX:=(wV S r x.pos).bind λe d=>Rs.fV (N7 e x ty) x.pos (.ok (N6 e ty 1) d)
def N8(ty:List UInt8)(p:Pl)(d:Dn):Rs (List UInt8×Int):=Rs.fV (BC ty) p ((Cj S (Iy ty).1 p d).bind λn d=> .ok ((Iy ty).1,n) d)
def lN(s:List UInt8):List (List UInt8×List Fd)->Option (List Fd)
 |[]=>none
 |x::l=>if x.1=s then some x.2 else lN s l
def xH(nm:List UInt8):List Fd->Nat->Option Nat
 |[],_=>none
 |f::l,i=>if f.nm=nm then some i else xH nm l (i+1)
def pO(S:Sc)(s nm:List UInt8)(fl:List Fd)(i:Nat):List UInt8×Int:=match ij s S.es with
 |none=>(match fl[i]? with|some f=>f.ty|none=>[],0)
 |some e=>match e.ps[i]? with
  |some q=>if e.ps.length=fl.length/\q.name=nm then(q.type,q.off)else(match fl[i]? with|some f=>f.ty|none=>[],0)
  |none=>(match fl[i]? with|some f=>f.ty|none=>[],0)
def N9(ty nm:List UInt8)(p:Pl)(d:Dn):Rs (List UInt8×Int):=Rs.fV (Lib.hasPrefix ty iN) p
 (match lN (Lib.trimPrefix ty iN) S.fm with
  |none=> .err p
  |some fl=>match xH nm fl 0 with
   |none=> .err p
   |some i=> .ok (pO S (Lib.trimPrefix ty iN) nm fl i) d)
def xI(s:List UInt8)(vs:List Vr):List Nat->Option Nat
 |[]=>none
 |k::l=>match xI s vs l with
  |some j=>some j
  |none=>match vs[k]? with
   |some v=>if v.nm=s then some k else none
   |none=>none
def oy(s:List UInt8):List (List UInt8)->Nat->Option Nat
 |[],_=>none
 |x::l,i=>if x=s then some i else oy s l (i+1)
def QS(vs:List Vr)(k:Nat):List UInt8:=match vs[k]? with
 |some v=>v.ty
 |none=>[]
def QT(gs:List Gl)(k:Nat):List UInt8:=match gs[k]? with
 |some v=>v.ty
 |none=>[]
def Ck(s:List UInt8)(p:Pl)(d:Dn):Rs TX:=match xI s d.vs d.seen with
 |some k=> .ok (.mk ⟨2,QS d.vs k,0,0,0,false,some k⟩ []) d
 |none=>match oy s (S.gs.map Gl.nm) 0 with
  |some n=> .ok (.mk ⟨3,QT S.gs n,0,n,0,false,none⟩ []) d
  |none=> .err p
def B9(op:List UInt8):Int:=
 if op=[43]then 11 else if op=[45]then 12 else if op=[42]then 13 else if op=[47]then 14 else if op=[37]then 15 else if op=[38]then 16 else if op=[124]then 17 else if op=[94]then 18
 else if op=[60,60]then 19 else if op=[62,62]then 20 else if op=[61,61]then 21 else if op=[33,61]then 22 else if op=[60]then 23 else if op=[60,61]then 24 else if op=[62]then 25 else 26
def BE(a b:TX)(op:Int)(p:Pl)(d:Dn):Rs TX:=
 let tu:=op==11&&BC b.ty;let q:=match tu with|true=>b|false=>a
 let i:=match tu with|true=>a|false=>b
 Rs.fV ((op==11||op==12)&&tP i.ty) p ((N8 S q.ty p d).bind λt d=> .ok (.mk ⟨12,q.ty,op,0,t.2,tu,none⟩ [a,b]) d)
def Oa(a b:TX)(e f:Ex)(op:Int)(p:Pl)(d:Dn):Rs TX:=
 let both:=tP a.ty&&tP b.ty
 match decide (21<=op)&&decide (op<=26)with
 |true=>Rs.fV (both||(op==21||op==22)&&(BC a.ty&&(a.ty==b.ty||FE f)||BC b.ty&&FE e)) p (.ok (.mk ⟨11,[105,110,116],op,0,0,false,none⟩ [a,b]) d)
 |false=>match both with
  |true=> .ok (.mk ⟨11,(tQ a.ty (if op=19\/op=20 then[99,104,97,114]else b.ty)).1,op,0,0,false,none⟩ [a,b]) d
  |false=>BE S a b op p d
def Dn.take(d:Dn)(k:Nat):Dn:={d with vs:=d.vs.modify k λv=>{v with taken:=true}}
def T6(e:TX):Bool:=e.place&&(sN S e.ty||Lib.hasPrefix e.ty iN&&!Lib.hasSuffix e.ty [93])
def QU(e:TX)(p:Pl)(d:Dn):Rs TX:=Rs.fV (T6 S e) p (.ok (.mk ⟨8,e.ty++[42],0,0,0,false,none⟩ [e]) (match e.d.kd==2,e.d.v with
 |true,some k=>d.take k
 |_,_=>d))
def LC(e:TX)(ty:List UInt8)(p:Pl)(d:Dn):Rs TX:=Rs.fV (sN S ty&&(tP ty==tP e.ty&&BC ty==BC e.ty)) p (.ok (N6 e ty 0) d)
def JJ(e:TX)(nm:List UInt8)(p:Pl)(d:Dn):Rs TX:=Rs.fV e.place p ((N9 S e.ty nm p d).bind λt d=> .ok (.mk ⟨6,t.1,0,t.2,0,false,none⟩ [e]) d)
def JK(e:TX)(nm:List UInt8)(p:Pl)(d:Dn):Rs TX:=(N8 S e.ty p d).bind λt d=>(N9 S t.1 nm p d).bind λt d=> .ok (.mk ⟨7,t.1,0,t.2,0,false,none⟩ [e]) d
mutual
def jv:Ex->Dn->Rs TX
 | .num _ n,d=> .ok (.mk ⟨1,if 2147483647<n then[108,111,110,103]else[105,110,116],0,n,0,false,none⟩ []) d
 | .var p s,d=>Ck S s p d
 | .un p op a,d=>if op=[33]then(ux S (jv a d) a.pos).bind λe d=> .ok (.mk ⟨10,[105,110,116],0,0,0,false,none⟩ [e]) d
  else if op=[42]then(wV S (jv a d) a.pos).bind λe d=>(N8 S e.ty p d).bind λt d=> .ok (.mk ⟨4,t.1,0,0,0,false,none⟩ [e]) d
  else if op=[38]then(jv a d).bind λe d=>QU S e p d
  else(FD S (jv a d) a.pos).bind λe d=> .ok (.mk ⟨9,(tQ e.ty [99,104,97,114]).1,if op=[45]then 1 else 2,0,0,false,none⟩ [e]) d
 | .bin p op a b,d=>if op=[38,38]then(ux S (jv a d) a.pos).bind λe d=>(ux S (jv b d) b.pos).bind λe2 d=> .ok (.mk ⟨13,[105,110,116],0,0,0,false,none⟩ [e,e2]) d
  else if op=[124,124]then(ux S (jv a d) a.pos).bind λe d=>(ux S (jv b d) b.pos).bind λe2 d=> .ok (.mk ⟨14,[105,110,116],0,0,0,false,none⟩ [e,e2]) d
  else(wV S (jv a d) a.pos).bind λe d=>(wV S (jv b d) b.pos).bind λe2 d=>Oa S e e2 a b (B9 op) p d
 | .cast p ty a,d=>(wV S (jv a d) a.pos).bind λe d=>LC S e ty p d
 | .call p f xs,d=>match oy f (S.fs.map Sg.nm) 0 with
  |none=> .err p
  |some n=>match S.fs[n]? with
   |none=> .err p
   |some s=>Rs.fV (!(f==[109,97,105,110])) p (Rs.fV (s.ps.length==xs.length) p ((CN xs s.ps d).bind λl d=> .ok (.mk ⟨16,s.ty,0,n,0,false,none⟩ l) d))
 | .index p a i,d=>(wV S (jv a d) a.pos).bind λe d=>(FD S (jv i d) i.pos).bind λj d=>(N8 S e.ty p d).bind λt d=> .ok (.mk ⟨5,t.1,0,0,t.2,false,none⟩ [e,j]) d
 | .fN p nm a,d=>(jv a d).bind λe d=>JJ S e nm p d
 | .arrow p nm a,d=>(wV S (jv a d) a.pos).bind λe d=>JK S e nm p d
 | .qp _,d=> .ok (.mk ⟨17,[108,111,110,103],0,0,0,false,none⟩ []) d
 | .size p ty,d=>(Cj S ty p d).bind λn d=> .ok (.mk ⟨1,[105,110,116],0,n,0,false,none⟩ []) d
def CN:List Ex->List (List UInt8)->Dn->Rs (List TX)
 |x::xs,t::a,d=>(BD S (jv x d) x t).bind λe d=>(CN xs a d).bind λl d=> .ok (e::l) d
 |_,_,d=> .ok [] d
end
def Dn.add(d:Dn)(nm ty:List UInt8)(n:Int)(par sc:Bool)(p:Pl):Dn:=
 let d1:=d.nz (decide (d.vs.length<200)) p;let d2:={d1 with bytes:=d1.bytes+(n+7)/8*8}
 let d3:=d2.nz (decide (d2.bytes<=65536)) p
 {d3 with vs:=d3.vs++[⟨nm,ty,n,par,false,sc⟩],seen:=d3.seen++[d3.vs.length]}
def JL(nm ty:List UInt8)(par:Bool)(p:Pl)(d:Dn):Rs Nat:=Rs.fV (!(d.oT.contains nm)) p
 ((Cj S ty p {d with oT:=d.oT++[nm]}).bind λn e=> .ok e.vs.length (e.add nm ty n par (sN S ty) p))
mutual
def jk(rt:List UInt8):Sm->Dn->Rs TS
 | .block _ l,d=>(wW rt l d).bind λa e=> .ok (.mk 1 none none none a) {e with seen:=e.seen.take d.seen.length}
 | .empty _,d=> .ok (.mk 2 none none none []) d
 | .decl p ty nm e,d=>(JL S nm ty false p d).bind λk d=>match e with
  |none=> .ok (.mk 3 (some k) none none []) d
  |some x=>Rs.fV (sN S ty) p ((BD S (jv S x d) x ty).bind λt d=> .ok (.mk 3 (some k) none (some t) []) d)
 | .assign p to e,d=>(jv S to d).bind λt d=>Rs.fV (t.place&&sN S t.ty) p ((BD S (jv S e d) e t.ty).bind λu d=> .ok (.mk 4 none (some t) (some u) []) d)
 | .eval _ e,d=>(wV S (jv S e d) e.pos).bind λt d=> .ok (.mk 5 none none (some t) []) d
 | .ifs _ e s,d=>(ux S (jv S e d) e.pos).bind λt d=>(jk rt s d).bind λu d=> .ok (.mk 6 none none (some t) [u]) d
 | .wD _ e s s2,d=>(ux S (jv S e d) e.pos).bind λt d=>(jk rt s d).bind λu d=>(jk rt s2 d).bind λb d=> .ok (.mk 6 none none (some t) [u,b]) d
 | .wE _ e s,d=>(ux S (jv S e d) e.pos).bind λt d=>(jk rt s {d with loops:=d.loops+1}).bind λu d=> .ok (.mk 7 none none (some t) [u]) {d with loops:=d.loops-1}
 | .xq p,d=>Rs.fV (decide (0<d.loops)) p (.ok (.mk 8 none none none []) d)
 | .cont p,d=>Rs.fV (decide (0<d.loops)) p (.ok (.mk 9 none none none []) d)
 | .ret p none,d=>Rs.fV (rt==[118,111,105,100]) p (.ok (.mk 10 none none none []) d)
 | .ret p (some x),d=>Rs.fV (!(rt==[118,111,105,100])) p ((BD S (jv S x d) x rt).bind λt d=> .ok (.mk 10 none none (some t) []) d)
 | .out _ e,d=>(FD S (jv S e d) e.pos).bind λt d=> .ok (.mk 11 none none (some t) []) d
def wW(rt:List UInt8):List Sm->Dn->Rs (List TS)
 |[],d=> .ok [] d
 |s::l,d=>(jk rt s d).bind λt d=>(wW rt l d).bind λa d=> .ok (t::a) d
end
end
end
section
def vP(vs:List Nat):Option Nat->Option (Nat×Nat)
 |none=>none
 |some k=>match vs[k]? with
  |some a=>some (a,0)
  |none=>none
def Hd.cs(d:Hd)(vs:List Nat)(av:AV):List AV:=[.I d.kd,.str d.ty,.I d.op,.I d.n,.I d.sz,.bool d.tu,.ptr (vP vs d.v),av]
inductive jd(X vs:List Nat)(h:ah):Nat->TX->Prop where
 |mk {id:Nat} {d:Hd} {l:List TX} {av:AV} {qs:List (Nat×TX)} (obj:h.get id=some (.C (d.cs vs av))) (nx:id∉X) (vk:∀k,d.v=some k->k<vs.length) (arr:cQ X h av qs) (ha:qs.map Prod.snd=l) (sub:∀q,q∈qs->jd X vs h q.1 q.2):jd X vs h id (.mk d l)
theorem jd.move{X Y vs:cB}{h h':ah}(s:Move X Y h h'){id:Nat}{t:TX}(e:jd X vs h id t):jd Y vs h' id t:=by
 induction e with
 |mk obj nx a arr b sub f=>exact .mk (s.aH _ _ obj nx).1 (s.aH _ _ obj nx).2 a (arr.move s) b f
theorem D2{vs ws:cB}{v:Option Nat}(h:∀k,v=some k->k<vs.length):vP (vs++ws) v=vP vs v:=by
 cases v with
 |none=>rfl
 |some k=>simp[vP,cS (h k rfl)]
theorem jd.grow{X vs:cB}(ws:cB){h:ah}{id:Nat}{t:TX}(e:jd X vs h id t):jd X (vs++ws) h id t:=by
 induction e with
 |mk obj nx a arr b sub f=>exact .mk (by unfold Hd.cs at*;rw[D2 a];exact obj) nx (λk g=>by have:=a k g;simp;omega) arr b f
theorem jd.obj{X vs:cB}{h:ah}{id:Nat}{t:TX}(e:jd X vs h id t):∃av,h.get id=some (.C (t.d.cs vs av))/\id∉X/\(∀k,t.d.v=some k->k<vs.length)/\∃qs,cQ X h av qs/\qs.map Prod.snd=t.l/\∀q,q∈qs->jd X vs h q.1 q.2:=by
 cases e with
 |mk obj nx a arr b sub=>exact⟨_,obj,nx,a,_,arr,b,sub⟩
def qB(X vs:List Nat)(h:ah)(v:AV)(o:Option TX):Prop:=(v= .N/\o=none)\/∃id e,v= .P id/\o=some e/\jd X vs h id e
theorem qB.move{X Y vs:cB}{h h':ah}(s:Move X Y h h'){v:AV}{o:Option TX}(e:qB X vs h v o):qB Y vs h' v o:=by
 rcases e with e|⟨id,e,a,b,f⟩
 ·exact .inl e
 ·exact .inr ⟨id,e,a,b,f.move s⟩
theorem qB.grow{X vs:cB}(ws:cB){h:ah}{v:AV}{o:Option TX}(e:qB X vs h v o):qB X (vs++ws) h v o:=by
 rcases e with e|⟨id,e,a,b,f⟩
 ·exact .inl e
 ·exact .inr ⟨id,e,a,b,f.grow ws⟩
inductive sO(X vs:List Nat)(h:ah):Nat->TS->Prop where
 |mk {id:Nat} {kd:Int} {v:Option Nat} {to e:Option TX} {l:List TS} {tv ev lv:AV} {qs:List (Nat×TS)} (obj:h.get id=some (.C [.I kd,.ptr (vP vs v),tv,ev,lv])) (nx:id∉X) (vk:∀k,v=some k->k<vs.length) (ht:qB X vs h tv to) (he:qB X vs h ev e)
  (arr:cQ X h lv qs) (ha:qs.map Prod.snd=l) (sub:∀q,q∈qs->sO X vs h q.1 q.2):sO X vs h id (.mk kd v to e l)
theorem sO.move{X Y vs:cB}{h h':ah}(s:Move X Y h h'){id:Nat}{t:TS}(e:sO X vs h id t):sO Y vs h' id t:=by
 induction e with
 |mk obj nx a ht he arr b sub f=>exact .mk (s.aH _ _ obj nx).1 (s.aH _ _ obj nx).2 a (ht.move s) (he.move s) (arr.move s) b f
theorem sO.grow{X vs:cB}(ws:cB){h:ah}{id:Nat}{t:TS}(e:sO X vs h id t):sO X (vs++ws) h id t:=by
 induction e with
 |mk obj nx a ht he arr b sub f=>exact .mk (by rw[D2 a];exact obj) nx (λk g=>by have:=a k g;simp;omega) (ht.grow ws) (he.grow ws) arr b f
def jH(X:List Nat)(h:ah)(av:AV)(es n:Nat)(cs:List AV):Prop:=(n=0/\cs=[]/\av= .Z)\/∃b a,av= .S b n/\b∉X/\h.get b=some (.cells a es cs)
theorem jH.move{X Y:cB}{h h':ah}(s:Move X Y h h'){av:AV}{es n:Nat}{cs:eu}(p:jH X h av es n cs):jH Y h' av es n cs:=by
 rcases p with p|⟨b,a,e,f,g⟩
 ·exact .inl p
 ·exact .inr ⟨b,a,e,(s.aH _ _ g f).2,(s.aH _ _ g f).1⟩
def qq(l:List Fd):List AV:=(l.map λf=>[.str f.ty,.str f.nm]).flatten
def vL(l:List Gl):List AV:=(l.map λg=>[.str g.nm,.str g.ty,.I g.sz]).flatten
def eW(l:List (List UInt8))(i:Nat):List (AV×AV):=match l with
 |[]=>[]
 |s::r=>(.str s,.I i)::eW r (i+1)
structure CB where
 r:Nat
 o:Nat
 tr:AV
 iP:AV
 iX:AV
 mn:Int
 tb:Nat
 nm:Nat
 st:Nat
 fm:Nat
 gm:Nat
 um:Nat
 fo:List Nat
 n:Nat
 f:Nat
 Kq:AV
 Iz:AV
 GS:Nat
structure CV where
 vs:List Nat
 va:AV
 sa:AV
def dW:Nat:=70000
structure Sc.Ok(S:Sc):Prop where
 fit:Fits S.es
 pl:∀e∈S.es,e.ps≠[]/\e.ps.length<=300/\∀q∈e.ps,q.type.length<=dW
 fm:∀x∈S.fm,x.2.length<=300/\∀f∈x.2,f.ty.length<=dW
 fe:∀x∈S.fm,∃e,ij x.1 S.es=some e
 gs:S.gs.length<=300/\∀g∈S.gs,g.ty.length<=dW
 fs:S.fs.length<=300/\∀g∈S.fs,g.ty.length<=dW/\g.ps.length<=300/\∀t∈g.ps,t.length<=dW
structure Dn.Ok(d:Dn):Prop where
 vs:∀v∈d.vs,v.ty.length<=dW/\0<=v.sz/\v.sz<=65536
 seen:∀k∈d.seen,k<d.vs.length
 sl:d.seen.length<=d.vs.length
 loops:-1000<=d.loops/\d.loops<=1000
 bytes:0<=d.bytes/\d.bytes<=70000*(d.vs.length+1)
structure Stat(S:Sc)(B:CB)(X0:List Nat)(h0:ah):Prop where
 ok:S.Ok
 Cm:rC B.tb B.nm B.st h0 S.N S.es
 tx:B.tb∉X0/\B.nm∉X0/\B.st∉X0/\∀e∈S.es,e.obj∉X0
 o:h0.get B.o=some (.C [B.tr,B.iP,B.iX,.I B.mn])
 ox:B.o∉X0
 ga:jH X0 h0 B.iP 3 S.gs.length (vL S.gs)
 fl:B.fo.length=S.fs.length
 fa:jH X0 h0 B.iX 1 S.fs.length (B.fo.map λa=> .P a)
 fm:∃es,h0.get B.fm=some (.map es)/\(∀s,(lN s S.fm=none/\∀H,eD H (.str s) es 0=some none)\/∃fl j av,lN s S.fm=some fl/\(∀H,eD H (.str s) es 0=some (some (j,av)))/\jH X0 h0 av 2 fl.length (qq fl))
 gm:h0.get B.gm=some (.map (eW (S.gs.map Gl.nm) 0))
 um:h0.get B.um=some (.map (eW (S.fs.map Sg.nm) 0))
 mx:B.fm∉X0/\B.gm∉X0/\B.um∉X0
 fo:∀n s a,S.fs[n]?=some s->B.fo[n]?=some a->n≠B.n->a∉X0/\∃p b v w,h0.get a=some (.C [.str s.nm,.str s.ty,p,b,v,w])/\jH X0 h0 p 1 s.ps.length (s.ps.map .str)/\jH X0 h0 b 1 s.pb.length (s.pb.map .bool)
 fn:B.fo[B.n]?=some B.f
 fc:∀s,S.fs[B.n]?=some s->jH X0 h0 B.Kq 1 s.ps.length (s.ps.map .str)/\jH X0 h0 B.Iz 1 s.pb.length (s.pb.map .bool)
def jI(X:List Nat)(h:ah)(v:AV):Option Pl->Prop
 |none=>v= .N
 |some p=>∃q,v= .P q/\q∉X/\h.get q=some (.C [.I p.1,.I p.2])
theorem jI.move{X Y:cB}{h h':ah}(s:Move X Y h h'){v:AV}{o:Option Pl}(e:jI X h v o):jI Y h' v o:=by
 cases o with
 |none=>exact e
 |some p=>
  obtain⟨q,f,a,b⟩:=e;exact⟨q,f,(s.aH _ _ b a).2,(s.aH _ _ b a).1⟩
def CB.ob(B:CB)(V:CV)(d:Dn)(ov:AV):List AV:=[.P B.o,.P B.tb,.map (some B.fm),.map (some B.gm),.map (some B.um),.P B.f,.map (some B.GS),V.sa,.I d.loops,.I d.bytes,ov]
def Vr.cs(v:Vr):List AV:=[.str v.nm,.str v.ty,.I v.sz,.bool v.param,.bool v.taken,.bool v.sc]
structure Loc(B:CB)(V:CV)(i:Nat):Prop where
 r:i≠B.r
 f:i≠B.f
 n:i≠B.GS
 v:i∉V.vs
 va:i∉aT V.va
 sa:i∉aT V.sa
structure LD(B:CB)(V:CV)(X:List Nat):Prop where
 r:B.r∈X
 f:B.f∈X
 n:B.GS∈X
 v:∀a∈V.vs,a∈X
 va:∀a∈aT V.va,a∈X
 sa:∀a∈aT V.sa,a∈X
def kI(h:ah)(V:CV)(d:Dn):Prop:=(V.sa= .Z/\d.seen=[])\/∃b L,V.sa= .S b d.seen.length/\h.get b=some (.D 1 L)/\L.take d.seen.length=d.seen.map (λk=> .ptr (vP V.vs (some k)))/\d.seen.length<=L.length/\L.length<=1000
structure cJ(S:Sc)(B:CB)(X0:List Nat)(h0:ah)(X:List Nat)(V:CV)(d:Dn)(h:ah):Prop where
 mv:Move X0 X h0 h
 fr:bP h
 xl:∀x∈X,x<h.nx
 c:∃ov,h.get B.r=some (.C (B.ob V d ov))/\jI X h ov d.over
 f:∃s,S.fs[B.n]?=some s/\h.get B.f=some (.C [.str s.nm,.str s.ty,B.Kq,B.Iz,V.va,.N])
 nm:h.get B.GS=some (.map (iH d.oT))
 vl:V.vs.length=d.vs.length
 vs:∀(k a:Nat)(v:Vr),V.vs[k]?=some a->d.vs[k]?=some v->h.get a=some (.C v.cs)
 nd:V.vs.Nodup
 va:cQ [] h V.va (V.vs.map λa=>(a,()))
 sa:kI h V d
 ne:∀a∈aT V.va,a∉aT V.sa
 own:LD B V X
 ok:d.Ok
theorem Move.refl(X:cB)(h:ah):Move X X h h:=⟨λ_ _ g hi=>⟨g,hi⟩⟩
theorem LD.sub{B:CB}{V:CV}{X Y:cB}(o:LD B V X)(h:∀x∈X,x∈Y):LD B V Y:=⟨h _ o.r,h _ o.f,h _ o.n,λa b=>h _ (o.v a b),λa b=>h _ (o.va a b),λa b=>h _ (o.sa a b)⟩
section
variable{S:Sc}{B:CB}{X0:cB}{h0:ah}{X Y:cB}{V:CV}{d:Dn}{h:ah}
theorem cJ.step(c:cJ S B X0 h0 X V d h){h':ah}(m:Move X Y h h')(fr:bP h')(xl:∀x∈Y,x<h'.nx)(own:LD B V Y)
 (old:∀i o,h.get i=some o->i=B.r\/i=B.f\/i=B.GS\/i∈V.vs\/i∈aT V.va\/i∈aT V.sa->h'.get i=some o):cJ S B X0 h0 Y V d h':=by
 obtain⟨mv,_,_,⟨ov,c1,c2⟩,⟨s,f1,f2⟩,nm,vl,vs,nd,va,sa,ne,_,ok⟩:=c;refine⟨mv.comp m,fr,xl,⟨ov,old _ _ c1 (.inl rfl),c2.move m⟩,⟨s,f1,old _ _ f2 (.inr (.inl rfl))⟩,old _ _ nm (.inr (.inr (.inl rfl))),vl,λk a v j p=>old _ _ (vs k a v j p) (.inr (.inr (.inr (.inl (bg j))))),nd,?_,?_,ne,own,ok⟩
 ·rcases va with va|⟨b,e,u,g⟩
  ·exact .inl va
  ·exact .inr ⟨b,e,u,old _ _ g (by rw[e];simp[aT])⟩
 ·rcases sa with sa|⟨b,L,e,g,t⟩
  ·exact .inl sa
  ·exact .inr ⟨b,L,e,old _ _ g (by rw[e];simp[aT]),t⟩
theorem cJ.aH(c:cJ S B X0 h0 X V d h){h':ah}(k:aJ h h'):cJ S B X0 h0 X V d h':=
 c.step (Move.k c.fr k) (k.fresh c.fr) (λx a=>aq (c.xl x a) k.nx) c.own λi o g _=>(k.old i (aw c.fr g)).trans g
theorem Loc.fresh(c:cJ S B X0 h0 X V d h){i:Nat}(hi:i∉X):Loc B V i:=by
 have o:=c.own;exact⟨λe=>hi (e▸o.r),λe=>hi (e▸o.f),λe=>hi (e▸o.n),λe=>hi (o.v _ e),λe=>hi (o.va _ e),λe=>hi (o.sa _ e)⟩
theorem cJ.more(c:cJ S B X0 h0 X V d h){h':ah}(k:aJ h h'){i:Nat}(e:h.nx<=i)(f:i<h'.nx):cJ S B X0 h0 (i::X) V d h'/\Loc B V i/\Move X (i::X) h h'/\i∉X:=by
 have a:i∉X:=λa=>by have:=c.xl i a;omega
 have m:Move X (i::X) h h':=Move.of c.fr (k.x []) sp λy b=>by
  rcases ak.1 b with rfl|b
  ·exact .inr e
  ·exact .inl b
 refine⟨c.step m (k.fresh c.fr) (λx a=>?_) (c.own.sub λx a=>au _ a) λi o g _=>(k.old i (aw c.fr g)).trans g,Loc.fresh c a,m,a⟩;rcases ak.1 a with rfl|a
 ·exact f
 ·exact aq (c.xl x a) k.nx
structure Mv(B:CB)(V:CV)(X Y:List Nat)(h h':ah):Prop extends Move X Y h h' where
 lk:∀i o,Loc B V i->h.get i=some o->h'.get i=some o
 no:∀i,i<h.nx->Loc B V i->h.get i=none->h'.get i=none
 nx:h.nx<=h'.nx
theorem Mv.refl(B:CB)(V:CV)(X:cB)(h:ah):Mv B V X X h h:=⟨Move.refl X h,λ_ _ _ g=>g,λ_ _ _ g=>g,ao _⟩
theorem Mv.k{B:CB}{V:CV}{X:cB}{h h':ah}(f:bP h)(k:aJ h h'):Mv B V X X h h':=⟨Move.k f k,λi o _ g=>(k.old i (aw f g)).trans g,λi l _ g=>(k.old i l).trans g,k.nx⟩
theorem Mv.comp{B:CB}{V:CV}{X Y Z:cB}{h h' a:ah}(m:Mv B V X Y h h')(b:Mv B V Y Z h' a):Mv B V X Z h a:=⟨m.toMove.comp b.toMove,λi o l g=>b.lk i o l (m.lk i o l g),λi l c g=>b.no i (aq l m.nx) c (m.no i l c g),bh m.nx b.nx⟩
theorem Mv.less{B:CB}{V:CV}{X Y:cB}{h:ah}(a:∀y,y∈Y->y∈X):Mv B V X Y h h:=⟨Move.less a,λ_ _ _ g=>g,λ_ _ _ g=>g,ao _⟩
theorem Mv.set{B:CB}{V:CV}{X:cB}{h:ah}{i:Nat}(b:i∈X)(a:∀j,Loc B V j->j≠i)(o:dK):Mv B V X X h (h.set i o):=
 ⟨Move.on o b,λj o l g=>by rw[ah.aM,ay (a j l)];exact g,λj _ l g=>by rw[ah.aM,ay (a j l)];exact g,ao _⟩
theorem Mv.put{B:CB}{V:CV}{X Y:cB}{a h:ah}{i:Nat}(m:Mv B V X Y a h)(hi:i∈Y)(h0:a.get i=none)(b:a.nx<=i)(o:dK):Mv B V X Y a (h.set i o):=
 ⟨m.toMove.comp (Move.on o hi),λj o l g=>by rw[ah.aM,ay (λe=>by rw[e,h0]at g;cases g)];exact m.lk j o l g,λj lt l g=>by rw[ah.aM,ay om];exact m.no j lt l g,m.nx⟩
theorem cJ.put(c:cJ S B X0 h0 X V d h){i:Nat}(hi:i∈X)(l:Loc B V i)(o:dK):cJ S B X0 h0 X V d (h.set i o)/\Move X X h (h.set i o):=by
 have m:Move X X h (h.set i o):=Move.on o hi;refine⟨c.step m (λj a=>?_) (λx b=>c.xl x b) c.own λj e g a=>?_,m⟩
 ·have:=c.xl i hi;rw[ah.aM,ay (by simp at a;omega)];exact c.fr j a
 ·rw[ah.aM,ay]
  ·exact g
  ·rintro rfl
   rcases a with a|a|a|a|a|a
   ·exact l.r a
   ·exact l.f a
   ·exact l.n a
   ·exact l.v a
   ·exact l.va a
   ·exact l.sa a
theorem cJ.less(c:cJ S B X0 h0 Y V d h)(a:∀x∈X,x∈Y)(own:LD B V X):cJ S B X0 h0 X V d h:=
 c.step (Move.less a) c.fr (λx b=>c.xl x (a x b)) own λ_ _ g _=>g
theorem cJ.drop{i:Nat}(c:cJ S B X0 h0 (i::X) V d h)(l:Loc B V i):cJ S B X0 h0 X V d h:=by
 have o:=c.own;refine c.less (λx g=>au _ g) ⟨?_,?_,?_,λa b=>?_,λa b=>?_,λa b=>?_⟩
 ·exact(ak.1 o.r).resolve_left λe=>l.r e.symm
 ·exact(ak.1 o.f).resolve_left λe=>l.f e.symm
 ·exact(ak.1 o.n).resolve_left λe=>l.n e.symm
 ·exact(ak.1 (o.v a b)).resolve_left λe=>l.v (e▸b)
 ·exact(ak.1 (o.va a b)).resolve_left λe=>l.va (e▸b)
 ·exact(ak.1 (o.sa a b)).resolve_left λe=>l.sa (e▸b)
theorem Mv.of{B:CB}{V:CV}{X Y:cB}{h h':ah}(m:Move X Y h h')(f:bP h)(k:aJ h h'):Mv B V X Y h h':=⟨m,λi o _ g=>(k.old i (aw f g)).trans g,λi l _ g=>(k.old i l).trans g,k.nx⟩
theorem cJ.new(c:cJ S B X0 h0 X V d h){i:Nat}(g:h.get i=none)(lt:i<h.nx)(o:dK):cJ S B X0 h0 X V d (h.set i o)/\Move X X h (h.set i o):=by
 have ks:∀j a,h.get j=some a->(h.set i o).get j=some a:=λj a b=>by rw[ah.aM,ay λe=>by rw[e,g]at b;cases b];exact b
 refine⟨c.step (Move.new o g) (λj f=>?_) (λx m=>c.xl x m) c.own λj a b _=>ks j a b,Move.new o g⟩;rw[ah.aM,ay (by simp at f;omega)];exact c.fr j f
theorem Mv.fill{B:CB}{V:CV}{X Y:cB}{a h:ah}{i:Nat}(m:Mv B V X Y a h)(f:bP a)(p:a.nx<=i)(o:dK):Mv B V X Y a (h.set i o):=
 ⟨⟨λj b g e=>⟨by rw[ah.aM,ay (by have:=aw f g;omega)];exact(m.aH j b g e).1,(m.aH j b g e).2⟩⟩,λj b l g=>by rw[ah.aM,ay (by have:=aw f g;omega)];exact m.lk j b l g,λj lt l g=>by rw[ah.aM,ay om];exact m.no j lt l g,m.nx⟩
theorem cJ.UF(c:cJ S B X0 h0 X V d h){a:ah}(m:Mv B V X X a h)(f:bP a)(u:∀x∈X,x<a.nx){i j:Nat}(w:h.get i=none)(y:h.get j=none)(li:a.nx<=i)(o:a.nx<=j)(b:i<h.nx)(e:j<h.nx)(p:i≠j){qs:List (Nat×TX)}(t:qs≠[])(sub:∀q∈qs,jd X V.vs h q.1 q.2)(D:Hd)(A:D.v=none):
 cJ S B X0 h0 X V d ((h.set i (.D 1 (qs.map λq=> .P q.1))).set j (.C (D.cs V.vs (.S i qs.length))))/\jd X V.vs ((h.set i (.D 1 (qs.map λq=> .P q.1))).set j (.C (D.cs V.vs (.S i qs.length)))) j (.mk D (qs.map Prod.snd))/\
  Mv B V X X a ((h.set i (.D 1 (qs.map λq=> .P q.1))).set j (.C (D.cs V.vs (.S i qs.length)))):=by
 obtain⟨c1,m1⟩:=c.new w b (.D 1 (qs.map λq=> .P q.1));have g:(h.set i (.D 1 (qs.map λq=> .P q.1))).get j=none:=by rw[ah.aM,ay (iV p)];exact y
 obtain⟨c2,m2⟩:=c1.new g e (.C (D.cs V.vs (.S i qs.length)));have nx:∀k,a.nx<=k->k∉X:=λk F C=>by have:=u k C;omega
 refine⟨c2,.mk sp (nx j o) (by simp[A]) (.inr ⟨i,rfl,nx i li,by simp[p]⟩) rfl λq t=>(sub q t).move (m1.comp m2),(m.fill f li _).fill f o _⟩
abbrev xX(p:Pl):AV:= .iface 110 (.agg [.I p.1,.I p.2,.I 5])
def dS{α:Type}(S:Sc)(B:CB)(X0:List Nat)(h0:ah)(X:List Nat)(V:CV)(W:α->List Nat->List Nat->ah->AV->Prop)(h:ah)(Q:Out->ah->Prop):Rs α->Prop
 | .ok a d=>∀v h',cJ S B X0 h0 X V d h'->W a X V.vs h' v->Mv B V X X h h'->Q (.ret v) h'
 | .err p=>∀h',Move X X h h'->bP h'->Q (.jz (xX p)) h'
theorem dS.at{α:Type}{W:α->cB->cB->ah->AV->Prop}{Q:Out->ah->Prop}{r:Rs α}{e:ah}(g:dS S B X0 h0 X V W h Q r)(m:Mv B V X X h e):dS S B X0 h0 X V W e Q r:=by
 cases r with
 |ok a d=>exact λv h' c i b=>g v h' c i (m.comp b)
 |err p=>exact λh' b f=>g h' (m.toMove.comp b) f
theorem dS.bind{α β:Type}{i:α->cB->cB->ah->AV->Prop}{j:β->cB->cB->ah->AV->Prop}{Q Q':Out->ah->Prop}{r:Rs α}{f:α->Dn->Rs β}{g:ah}(o:dS S B X0 h0 X V j h Q (r.bind f))(m:Mv B V X X h g)
 (t:∀p b,Q (.jz (xX p)) b->Q' (.jz (xX p)) b)
 (u:∀a d v b,r= .ok a d->dS S B X0 h0 X V j b Q (f a d)->cJ S B X0 h0 X V d b->i a X V.vs b v->Mv B V X X g b->Q' (.ret v) b):dS S B X0 h0 X V i g Q' r:=by
 cases r with
 |ok a d=>exact λv h' c w e=>u a d v h' rfl (dS.at o (m.comp e)) c w e
 |err p=>exact λh' e f=>t p h' (o h' (m.toMove.comp e) f)
theorem dS.uS{α β:Type}{i:α->cB->cB->ah->AV->Prop}{j:β->cB->cB->ah->AV->Prop}{Q Q':Out->ah->Prop}{r:Rs α}{f:α->Dn->Rs β}{g:ah}(o:dS S B X0 h0 X V j h Q (r.bind f))(t:∀x∈X,x∈Y)(m:Mv B V X Y h g)
 (u:∀p b,Q (.jz (xX p)) b->Q' (.jz (xX p)) b)
 (w:∀a d v b,r= .ok a d->dS S B X0 h0 X V j h Q (f a d)->cJ S B X0 h0 Y V d b->i a Y V.vs b v->Mv B V X Y h b->Mv B V Y Y g b->Q' (.ret v) b):dS S B X0 h0 Y V i g Q' r:=by
 cases r with
 |ok a d=>exact λv h' c y e=>w a d v h' rfl o c y (m.comp e) e
 |err p=>exact λh' e f=>u p h' (o h' ((m.toMove.comp e).comp (Move.less t)) f)
def WT(e:TX)(X vs:List Nat)(h:ah)(v:AV):Prop:=∃id,v= .P id/\jd X vs h id e
def WI(n:Int)(_ _:List Nat)(_:ah)(v:AV):Prop:=v= .I n
def WP(t:List UInt8×Int)(_ _:List Nat)(_:ah)(v:AV):Prop:=v= .iO [.str t.1,.I t.2]
end
end
section
mutual
def Ex.al(P:Pl->Prop)(T:List UInt8->Prop):Ex->Prop
 | .num p _=>P p
 | .var p _=>P p
 | .un p _ a=>P p/\a.al P T
 | .bin p _ a b=>P p/\a.al P T/\b.al P T
 | .cast p ty a=>P p/\T ty/\a.al P T
 | .call p _ xs=>P p/\Pw P T xs
 | .index p a i=>P p/\a.al P T/\i.al P T
 | .fN p _ a=>P p/\a.al P T
 | .arrow p _ a=>P p/\a.al P T
 | .qp p=>P p
 | .size p ty=>P p/\T ty
def Pw(P:Pl->Prop)(T:List UInt8->Prop):List Ex->Prop
 |[]=>True
 |e::es=>e.al P T/\Pw P T es
end
theorem Ex.al.nQ{P:Pl->Prop}{T:bu->Prop}{x:Ex}(h:x.al P T):P x.pos:=by
 cases x<;>simp[Ex.al,Ex.pos]at*<;>first|exact h|exact h.1
def Rs.H{α:Type}(r:Rs α)(V:α->Dn->Prop)(E:Pl->Prop):Prop:=match r with
 | .ok a d=>V a d
 | .err p=>E p
theorem Rs.bq{α β:Type}{r:Rs α}{f:α->Dn->Rs β}{V:α->Dn->Prop}{W:β->Dn->Prop}{E:Pl->Prop}(h:r.H V E)(b:∀a d,V a d->(f a d).H W E):(r.bind f).H W E:=by
 cases r with
 |ok a d=>exact b a d h
 |err p=>exact h
theorem Rs.cG{α:Type}{r:Rs α}{b:Bool}{p:Pl}{V:α->Dn->Prop}{E:Pl->Prop}(a:E p)(h:b=true->r.H V E):(Rs.fV b p r).H V E:=by
 cases b with
 |true=>exact h rfl
 |false=>exact a
theorem Rs.QV{α:Type}{r:Rs α}{V W:α->Dn->Prop}{E:Pl->Prop}(h:r.H V E)(b:∀a d,V a d->W a d):r.H W E:=by
 cases r with
 |ok a d=>exact b a d h
 |err p=>exact h
def Dn.ov(P:Pl->Prop)(d:Dn):Prop:=∀p,d.over=some p->P p
abbrev Rs.pl{α:Type}(r:Rs α)(P:Pl->Prop):Prop:=r.H (λ_ d=>d.ov P) P
theorem Dn.QW{P:Pl->Prop}{d:Dn}(h:d.ov P){p:Pl}(e:P p)(b:Bool):(d.nz b p).ov P:=by
 unfold Dn.nz;split
 ·intro q a;simp only[bj]at a;exact a▸e
 ·exact h
section
variable{S:Sc}{P:Pl->Prop}{T:bu->Prop}
end
theorem JM{s:bu}{a:Bool}{m:Int}:(vM (jT s a m).1).length<=s.length/\(0<(jT s a m).1.iY->(vM ⟨(jT s a m).1.base,(jT s a m).1.name,(jT s a m).1.iY-1,(jT s a m).1.arr,(jT s a m).1.many⟩).length+1<=s.length):=by
 have tl:=sP s 42;unfold jT;simp only;split
 ·rename_i b;have f:7<=(Lib.trimRightB s 42).length:=(dO.1 b).length_le;have e:(Lib.trimPrefix (Lib.trimRightB s 42) iN).length=(Lib.trimRightB s 42).length-7:=by
   unfold Lib.trimPrefix;rw[aY b,bK];rfl
  unfold vM;simp only;split
  ·simp[gk];omega
  ·simp[gk,e];omega
 ·unfold vM;simp;omega
theorem AO(s:bu):(Iy s).1.length<=s.length:=by
 have c1:=BF s;unfold Iy;split
 ·simp
 ·rename_i b;have hr:∃a m,rd s=jT (oL s).1 a m:=by
   unfold rd at b⊢;cases h:xr s with
   |none=>rw[h]at b;exact(b rfl).elim
   |some p=>exact⟨p.1,p.2,rfl⟩
  obtain⟨a,m,hr⟩:=hr;obtain⟨e1,e2⟩:=@JM (oL s).1 a m;rw[hr];split
  ·exact bh e1 c1
  ·split
   ·rename_i h0;have:=e2 h0;exact bh (by simp only;omega) c1
   ·simp
theorem CO(a b:bu):(tQ a b).1.length<=4:=by
 unfold tQ;split
 ·split<;>simp
 ·simp
section
variable{S:Sc}{P:Pl->Prop}
structure JN(n k:Nat)(e:TX):Prop where
 len:e.ty.length<=dW+n
 v:e.d.kd=2->∃j,e.d.v=some j/\j<k
structure Ah(d d':Dn):Prop where
 vl:d'.vs.length=d.vs.length
 ok:d'.Ok
theorem JN.mono{n m k:Nat}{e:TX}(h:JN n k e)(hm:n<=m):JN m k e:=⟨bh h.len om,h.v⟩
theorem Dn.Ok.over{d:Dn}(h:d.Ok)(o:Option Pl):Dn.Ok {d with over:=o}:=⟨h.vs,h.seen,h.sl,h.loops,h.bytes⟩
theorem Dn.Ok.nz{d:Dn}(h:d.Ok)(b:Bool)(p:Pl):(d.nz b p).Ok:=by
 unfold Dn.nz;split
 ·exact h.over _
 ·exact h
theorem Dn.nR(d:Dn)(b:Bool)(p:Pl):(d.nz b p).vs=d.vs/\(d.nz b p).seen=d.seen/\(d.nz b p).oT=d.oT/\(d.nz b p).loops=d.loops/\(d.nz b p).bytes=d.bytes:=by
 unfold Dn.nz;split<;>simp
theorem Dn.Ok.take{d:Dn}(h:d.Ok)(k:Nat):(d.take k).Ok:=by
 refine⟨?_,?_,?_,h.loops,?_⟩
 ·intro v a;simp only[Dn.take]at a;obtain⟨i,hi,rfl⟩:=gh a;rw[List.getElem_modify];simp only[jb]at hi;have:=h.vs _ (bk hi);split<;>exact this
 ·intro j b;simp only[Dn.take,jb];exact h.seen j b
 ·simp only[Dn.take,jb];exact h.sl
 ·simp only[Dn.take,jb];exact h.bytes
abbrev Rs.tk(r:Rs TX)(n:Nat)(d:Dn):Prop:=r.H (λe d'=>JN n d.vs.length e/\Ah d d') λ_=>True
theorem LF{d:Dn}(h:d.Ok)(p:Pl)(ty:bu):(Cj S ty p d).H (λ_ d'=>Ah d d') λ_=>True:=Rs.cG trivial λ_=>⟨by rw[(Dn.nR d _ p).1],h.nz _ _⟩
theorem QX{d d':Dn}{n:Nat}{e:TX}(h:JN n d.vs.length e/\Ah d d')(p:Pl):(Nu S e p d').tk (n+1) d:=by
 unfold Nu;split
 ·exact⟨h.1.mono om,h.2⟩
 ·split
  ·refine⟨⟨?_,λa=>by simp[TX.d]at a⟩,h.2⟩;have:=AO e.ty;have:=h.1.len;simp[TX.ty,TX.d]at*;omega
  ·exact Rs.cG trivial λ_=>⟨h.1.mono om,h.2⟩
theorem oU{d:Dn}{n:Nat}{r:Rs TX}(h:r.tk n d)(p:Pl):(wV S r p).tk (n+1) d:=Rs.bq h λ_ _ a=>QX a p
theorem IA{d:Dn}{n:Nat}{r:Rs TX}(h:r.tk n d)(p:Pl):(FD S r p).tk (n+1) d:=Rs.bq (oU h p) λ_ _ a=>Rs.cG trivial λ_=>a
theorem yt{d:Dn}{n:Nat}{r:Rs TX}(h:r.tk n d)(p:Pl):(ux S r p).tk (n+1) d:=Rs.bq (oU h p) λ_ _ a=>Rs.cG trivial λ_=>a
theorem Ob{d:Dn}{n:Nat}{r:Rs TX}(h:r.tk n d)(x:Ex){ty:bu}(ht:ty.length<=dW):(BD S r x ty).tk 0 d:=Rs.bq (oU h _) λ_ _ a=>Rs.cG trivial λ_=>⟨⟨by simpa[N6,TX.ty,TX.d]using ht,λb=>by simp[N6,TX.d]at b⟩,a.2⟩
theorem Ah.refl{d:Dn}(h:d.Ok):Ah d d:=⟨rfl,h⟩
theorem Ah.trans{a b c:Dn}(h:Ah a b)(h':Ah b c):Ah a c:=⟨h'.vl.trans h.vl,h'.ok⟩
theorem yu{r:Rs TX}{n:Nat}{d d1:Dn}(h:Ah d d1)(h':r.tk n d1):r.tk n d:=Rs.QV h' λ_ _ ⟨t,k⟩=>⟨⟨t.len,λa=>h.vl▸t.v a⟩,h.trans k⟩
theorem D3{d d1:Dn}(h:Ah d d1)(ty:bu)(p:Pl):(N8 S ty p d1).H (λt d'=>t.1.length<=ty.length/\Ah d d') λ_=>True:=Rs.cG trivial λ_=>Rs.bq (LF h.ok p _) λ_ _ a=>⟨AO ty,h.trans a⟩
theorem IC{nm:bu}:∀{l:List Fd}{i j:Nat},xH nm l i=some j->∃k f,j=i+k/\l[k]?=some f/\f.nm=nm
 |[],i,j,h=>by simp[xH]at h
 |f::l,i,j,h=>by
  unfold xH at h;split at h
  ·rename_i e;injection h with h;exact⟨0,f,om,rfl,e⟩
  ·obtain⟨k,g,m,a,b⟩:=IC h;exact⟨k+1,g,om,U7 a,b⟩
theorem xJ{s:bu}:∀{l:List (bu×List Fd)}{fl:List Fd},lN s l=some fl->∃x∈l,x.1=s/\x.2=fl
 |[],fl,h=>by simp[lN]at h
 |x::l,fl,h=>by
  unfold lN at h;split at h
  ·rename_i e;injection h with h;exact⟨x,sp,e,h⟩
  ·obtain⟨y,a,b⟩:=xJ h;exact⟨y,by simp[a],b⟩
theorem Hn(b:S.Ok){s nm:bu}{fl:List Fd}{i:Nat}(g:lN s S.fm=some fl):(pO S s nm fl i).1.length<=dW:=by
 have d0:(match fl[i]? with|some f=>f.ty|none=>([]:bu)).length<=dW:=by
  split
  ·rename_i f a;obtain⟨x,h,m,rfl⟩:=xJ g;exact(b.fm x h).2 f (bg a)
  ·simp
 unfold pO;split
 ·exact d0
 ·rename_i e he;split
  ·rename_i q j;split
   ·exact(b.pl e (qK he).1).2.2 q (bg j)
   ·exact d0
  ·exact d0
theorem LG(a:S.Ok){d d1:Dn}(h:Ah d d1)(ty nm:bu)(p:Pl):(N9 S ty nm p d1).H (λt d'=>t.1.length<=dW/\Ah d d') λ_=>True:=Rs.cG trivial λ_=>by
 split
 ·trivial
 ·rename_i fl b;split
  ·trivial
  ·exact⟨Hn a b,h⟩
theorem D4{s:bu}{vs:List Vr}:∀{l:cB}{k:Nat},xI s vs l=some k->∃v,vs[k]?=some v/\v.nm=s/\k∈l
 |[],k,h=>by simp[xI]at h
 |j::l,k,h=>by
  unfold xI at h;split at h
  ·rename_i i hi;injection h with h;subst h;obtain⟨v,a,b,f⟩:=D4 hi;exact⟨v,a,b,by simp[f]⟩
  ·split at h
   ·rename_i v g;split at h
    ·rename_i e;injection h with h;subst h;exact⟨v,g,e,sp⟩
    ·cases h
   ·cases h
theorem yv{s:bu}:∀{l:List (bu)}{i j:Nat},oy s l i=some j->∃k,j=i+k/\l[k]?=some s
 |[],i,j,h=>by simp[oy]at h
 |x::l,i,j,h=>by
  unfold oy at h;split at h
  ·rename_i e;injection h with h;exact⟨0,om,by simp[e]⟩
  ·obtain⟨k,b,a⟩:=yv h;exact⟨k+1,om,U7 a⟩
theorem Oc(e:S.Ok){d:Dn}(h:d.Ok)(s:bu)(p:Pl):(Ck S s p d).tk 1 d:=by
 unfold Ck;split
 ·rename_i k b;obtain⟨v,a,f,m⟩:=D4 b;refine⟨⟨?_,λ_=>⟨k,rfl,(aV.1 a).1⟩⟩,Ah.refl h⟩;have:=(h.vs v (bg a)).1;simp[TX.ty,TX.d,QS,a];omega
 ·split
  ·rename_i n i;obtain⟨k,a,f⟩:=yv i;refine⟨⟨?_,λb=>by simp[TX.d]at b⟩,Ah.refl h⟩;simp only[TX.ty,TX.d,QT];split
   ·rename_i g j;have:=e.gs.2 g (bg j);omega
   ·simp
  ·trivial
theorem QY{d d1:Dn}{n:Nat}{a b:TX}(e:JN n d.vs.length a)(f:JN n d.vs.length b)(h:Ah d d1)(op:Int)(p:Pl):(BE S a b op p d1).tk n d:=Rs.cG trivial λ_=>Rs.bq (D3 h _ p) λt d' g=>by
 refine⟨⟨?_,λi=>by simp[TX.d]at i⟩,g.2⟩;show(TX.ty (match op==11&&BC b.ty with
  |true=>b
  |false=>a)).length<=dW+n
 split
 ·exact f.len
 ·exact e.len
theorem QZ{d d1:Dn}{n:Nat}{a b:TX}(f:JN n d.vs.length a)(g:JN n d.vs.length b)(h:Ah d d1)(x y:Ex)(op:Int)(p:Pl):(Oa S a b x y op p d1).tk n d:=by
 unfold Oa;dsimp only;split
 ·exact Rs.cG trivial λ_=>⟨⟨by simp[TX.ty,TX.d,dW];omega,λe=>by simp[TX.d]at e⟩,h⟩
 ·split
  ·refine⟨⟨?_,λe=>by simp[TX.d]at e⟩,h⟩;have:=CO a.ty (if op=19\/op=20 then[99,104,97,114]else b.ty);simp only[TX.ty,TX.d,dW]at*;omega
  ·exact QY f g h op p
theorem Q0{d d1:Dn}{n:Nat}{e:TX}(h:JN n d.vs.length e/\Ah d d1)(p:Pl):(QU S e p d1).tk (n+1) d:=Rs.cG trivial λ_=>by
 refine⟨⟨?_,λa=>by simp[TX.d]at a⟩,?_⟩
 ·have:=h.1.len;simp[TX.ty,TX.d]at*;omega
 ·split
  ·exact⟨by simp[Dn.take,h.2.vl],h.2.ok.take _⟩
  ·exact h.2
abbrev TL(t:List UInt8):Prop:=t.length<=dW
mutual
theorem oM(m:S.Ok):∀(x:Ex)(d:Dn),d.Ok->x.al P TL->(jv S x d).tk x.nodes d
 | .num p n,d,h,a=>by
  simp only[jv];refine⟨⟨?_,λj=>by simp[TX.d]at j⟩,Ah.refl h⟩;simp only[TX.ty,TX.d];split<;>simp[dW]<;>omega
 | .var p s,d,h,a=>by simp only[jv];exact Oc m h s p
 | .un p op a,d,h,⟨v,o⟩=>by
  have i:=oM m a d h o;simp only[jv];split
  ·exact Rs.bq (yt i _) λ_ _ g=>⟨⟨by simp[TX.ty,TX.d,dW];omega,λj=>by simp[TX.d]at j⟩,g.2⟩
  ·split
   ·refine Rs.bq (oU i _) λe _ g=>Rs.bq (D3 g.2 _ p) λt _ ht=>⟨⟨?_,λj=>by simp[TX.d]at j⟩,ht.2⟩
    have y:=g.1.len;have A:=ht.1;simp only[TX.ty,TX.d,Ex.nodes]at*;omega
   ·split
    ·exact Rs.bq i λ_ _ g=>Q0 g p
    ·refine Rs.bq (IA i _) λe _ g=>⟨⟨?_,λj=>by simp[TX.d]at j⟩,g.2⟩
     have:=CO e.ty [99,104,97,114];simp only[TX.ty,TX.d,dW]at*;omega
 | .bin p op a b,d,h,⟨v,o,w⟩=>by
  have i:=oM m a d h o;simp only[jv];split
  ·exact Rs.bq (yt i _) λ_ d1 g=>Rs.bq (yt (yu g.2 (oM m b d1 g.2.ok w)) _) λ_ _ g=>⟨⟨by simp[TX.ty,TX.d,dW];omega,λj=>by simp[TX.d]at j⟩,g.2⟩
  ·split
   ·exact Rs.bq (yt i _) λ_ d1 g=>Rs.bq (yt (yu g.2 (oM m b d1 g.2.ok w)) _) λ_ _ g=>⟨⟨by simp[TX.ty,TX.d,dW];omega,λj=>by simp[TX.d]at j⟩,g.2⟩
   ·exact Rs.bq (oU i _) λe d1 g=>Rs.bq (oU (yu g.2 (oM m b d1 g.2.ok w)) _) λe2 _ u=>QZ (g.1.mono (by simp only[Ex.nodes];omega)) (u.1.mono (by simp only[Ex.nodes];omega)) u.2 _ _ _ _
 | .cast p ty a,d,h,⟨v,ht,o⟩=>by
  simp only[jv];exact Rs.bq (oU (oM m a d h o) _) λ_ _ g=>Rs.cG trivial λ_=>⟨⟨by have C:ty.length<=dW:=ht;show ty.length<=dW+_;omega,λj=>by simp[N6,TX.d]at j⟩,g.2⟩
 | .call p f xs,d,h,⟨v,o⟩=>by
  simp only[jv];split
  ·trivial
  ·split
   ·trivial
   ·rename_i s B;have y:=m.fs.2 s (bg B);exact Rs.cG trivial λ_=>Rs.cG trivial λ_=>Rs.bq (LH m xs _ d h o y.2.2) λ_ _ g=>⟨⟨by simp[TX.ty,TX.d];omega,λj=>by simp[TX.d]at j⟩,g⟩
 | .index p a i,d,h,⟨v,o,w⟩=>by
  simp only[jv];refine Rs.bq (oU (oM m a d h o) _) λe d1 g=>Rs.bq (IA (yu g.2 (oM m i d1 g.2.ok w)) _) λ_ _ u=>Rs.bq (D3 u.2 _ p) λt _ ht=>⟨⟨?_,λj=>by simp[TX.d]at j⟩,ht.2⟩
  have y:=g.1.len;have A:=ht.1;simp only[TX.ty,TX.d,Ex.nodes]at*;omega
 | .fN p nm a,d,h,⟨v,o⟩=>by
  simp only[jv];exact Rs.bq (oM m a d h o) λ_ _ g=>Rs.cG trivial λ_=>Rs.bq (LG m g.2 _ _ _) λ_ _ ht=>⟨⟨by simp[TX.ty,TX.d];have:=ht.1;omega,λj=>by simp[TX.d]at j⟩,ht.2⟩
 | .arrow p nm a,d,h,⟨v,o⟩=>by
  simp only[jv];exact Rs.bq (oU (oM m a d h o) _) λ_ _ g=>Rs.bq (D3 g.2 _ _) λ_ _ ht=>Rs.bq (LG m ht.2 _ _ _) λ_ _ ht=>⟨⟨by simp[TX.ty,TX.d];have:=ht.1;omega,λj=>by simp[TX.d]at j⟩,ht.2⟩
 | .qp p,d,h,a=>by
  simp only[jv];exact⟨⟨by simp[TX.ty,TX.d,dW];omega,λj=>by simp[TX.d]at j⟩,Ah.refl h⟩
 | .size p ty,d,h,a=>by
  simp only[jv];exact Rs.bq (LF h _ ty) λ_ _ g=>⟨⟨by simp[TX.ty,TX.d,dW];omega,λj=>by simp[TX.d]at j⟩,g⟩
theorem LH(b:S.Ok):∀(xs:List Ex)(a:List (bu))(d:Dn),d.Ok->Pw P TL xs->(∀t∈a,t.length<=dW)->(CN S xs a d).H (λ_ d'=>Ah d d') λ_=>True
 |x::xs,t::a,d,h,⟨f,g⟩,ht=>by
  simp only[CN];exact Rs.bq (Ob (oM b x d h f) x (ht t sp)) λ_ d1 e=>Rs.bq (LH b xs a d1 e.2.ok g λt h=>ht t (by simp[h])) λ_ _ he=>e.2.trans he
 |[],_,d,h,_,_=>by simp only[CN];exact Ah.refl h
 |_::_,[],d,h,_,_=>by simp only[CN];exact Ah.refl h
end
end
end
section
theorem Ai(s p:bu)(h:ah)(e:s.length<=9000000000)(g:p.length<=9000000000):ba env 167 [.str s,.str p] h (λout h'=>out= .ret (.bool (Lib.hasSuffix s p))/\h'=h):=by
 refine wb fn167 rfl ?_;simp[f167];refine wb fn198 rfl ?_;rw[<-Lib.hasSuffix_of_drop];by_cases h1:p.length<=s.length
 ·have a:(p.length:Int)<=(s.length:Int):=by omega
  have b:IntKind.wrap .i64 ((s.length:Int)-(p.length:Int))=((s.length-p.length:Nat):Int):=wq
  simp[f198,h1,a,b]
 ·have a:¬(p.length:Int)<=(s.length:Int):=by omega
  simp[f198,h1,a]
theorem D5(s p:bu)(h:ah):ba env 108 [.str s,.str p] h (λout h'=>out= .ret (.bool (Lib.hasPrefix s p))/\h'=h):=by
 refine wb fn108 rfl ?_;simp[f108];refine wb fn142 rfl ?_;rw[<-Lib.hasPrefix_of_take];by_cases h1:p.length<=s.length
 ·have a:(p.length:Int)<=(s.length:Int):=by omega
  simp[f142,h1,a]
 ·have a:¬(p.length:Int)<=(s.length:Int):=by omega
  simp[f142,h1,a]
theorem vN(s:bu)(h:ah)(a:s.length<=9000000000):ba env 129 [.str s] h (λout h'=>out= .ret (.bool (BC s))/\h'=h):=by
 refine wb fn129 rfl ?_;simp[f129];refine(Ai s [42] h a sp).m1 λe b=>?_;subst b;simp[BC]
theorem Od(p:Pl)(r:AV)(h:ah)(Q:Out->ah->Prop)(a:∀h',aJ h h'->Q (.jz (xX p)) h'):ba env 78 [r,.agg [.I p.1,.I p.2]] h Q:=by
 refine wb fn78 rfl ?_;simp[f78];refine a _ ?_;exact kT
theorem fI(p:Pl)(b:Bool)(r:Option (Nat×Nat))(h:ah)(Q:Out->ah->Prop)(h0:∀h',b=false->aJ h h'->Q (.jz (xX p)) h')(h1:∀h',b=true->aJ h h'->Q (.ret (.iO [])) h'):ba env 53 [.ptr r,.bool b,.agg [.I p.1,.I p.2]] h Q:=by
 refine wb fn53 rfl ?_;simp[f53];cases b with
 |true=>
  simp;refine h1 _ rfl ?_;exact kT
 |false=>
  simp;refine Od p _ _ _ λa k2=>?_;simp;refine h0 _ rfl (aJ.trans ?_ k2);exact kT
section
variable{S:Sc}{B:CB}{X0:cB}{h0:ah}{X Y:cB}{V:CV}{d:Dn}{h h1:ah}
theorem jc{α:Type}{W:α->cB->cB->ah->AV->Prop}{Q Q':Out->ah->Prop}{r:Rs α}{b:Bool}{p:Pl}(c:cJ S B X0 h0 X V d h1)(f:dS S B X0 h0 X V W h Q (Rs.fV b p r))(m:Mv B V X X h h1)
 (g:∀a,Q (.jz (xX p)) a->Q' (.jz (xX p)) a) (i:∀a,b=true->dS S B X0 h0 X V W a Q r->cJ S B X0 h0 X V d a->aJ h1 a->Q' (.ret (.iO [])) a):ba env 53 [.P B.r,.bool b,.agg [.I p.1,.I p.2]] h1 Q':=by
 refine fI p b _ h1 Q' (λa e k=>?_) (λa e k=>?_)
 ·subst e;exact g a (f a (m.toMove.comp (Move.k c.fr k)) (k.fresh c.fr))
 ·subst e;exact i a rfl (dS.at f (m.comp (Mv.k c.fr k))) (c.aH k) k
theorem nU{α:Type}{W:α->cB->cB->ah->AV->Prop}{Q Q':Out->ah->Prop}{r:Rs α}{b:Bool}{p:Pl}(c:cJ S B X0 h0 Y V d h1)(f:dS S B X0 h0 X V W h Q (Rs.fV b p r))(g:∀x∈X,x∈Y)(m:Mv B V X Y h h1)
 (i:∀a,Q (.jz (xX p)) a->Q' (.jz (xX p)) a) (j:∀a,b=true->dS S B X0 h0 X V W h Q r->cJ S B X0 h0 Y V d a->aJ h1 a->Mv B V X Y h a->Q' (.ret (.iO [])) a):ba env 53 [.P B.r,.bool b,.agg [.I p.1,.I p.2]] h1 Q':=by
 refine fI p b _ h1 Q' (λa e k=>?_) (λa e k=>?_)
 ·subst e;exact i a (f a ((m.toMove.comp (Move.k c.fr k)).comp (Move.less g)) (k.fresh c.fr))
 ·subst e;exact j a rfl f (c.aH k) k (m.comp (Mv.k c.fr k))
theorem cJ.out(c:cJ S B X0 h0 Y V d h)(own:LD B V X)(a:∀x∈X,x∈Y){o:Nat}(LI:o∉X){D:Hd}{av:AV}{qs:List (Nat×TX)}(go:h.get o=some (.C (D.cs V.vs av)))(ar:cQ Y h av qs)(sub:∀q∈qs,jd Y V.vs h q.1 q.2)(b:∀k,D.v=some k->k<V.vs.length):
 cJ S B X0 h0 X V d h/\jd X V.vs h o (.mk D (qs.map Prod.snd)):=
 ⟨c.less a own,.mk go LI b (ar.move (Move.less a)) rfl λq e=>(sub q e).move (Move.less a)⟩
theorem cJ.LJ(c:cJ S B X0 h0 X V d h){V':CV}{d':Dn}{ov:AV}(y:V'.vs=V.vs/\V'.va=V.va/\aT V'.sa=aT V.sa)(p:d'.vs=d.vs/\d'.oT=d.oT)(sa:kI (h.set B.r (.C (B.ob V' d' ov))) V' d')(t:jI X (h.set B.r (.C (B.ob V' d' ov))) ov d'.over)(ok:d'.Ok):
 cJ S B X0 h0 X V' d' (h.set B.r (.C (B.ob V' d' ov)))/\Mv B V X X h (h.set B.r (.C (B.ob V' d' ov))):=by
 obtain⟨mv,fr,xl,⟨A,c1,c2⟩,⟨s,f1,f2⟩,nm,vl,vs,nd,va,_,ne,own,_⟩:=c;have m:Mv B V X X h (h.set B.r (.C (B.ob V' d' ov))):=Mv.set own.r (λj l=>l.r) _;have ms:∀i o,h.get i=some o->i≠B.r->(h.set B.r (.C (B.ob V' d' ov))).get i=some o:=λi o g hi=>by rw[ah.aM,ay hi];exact g
 have nf:B.f≠B.r:=λe=>by rw[e,c1]at f2;simp[CB.ob]at f2
 have C:B.GS≠B.r:=λe=>by rw[e,c1]at nm;simp at nm
 obtain⟨v1,v2,v3⟩:=y;refine⟨⟨mv.comp m.toMove,λj u=>?_,λx D=>xl x D,⟨ov,sp,t⟩,⟨s,f1,by rw[v2];exact ms _ _ f2 nf⟩,by rw[p.2];exact ms _ _ nm C,by rw[v1,p.1];exact vl,λk a v h1 w=>?_,by rw[v1];exact nd,?_,sa,by rw[v2,v3];exact ne,⟨own.r,own.f,own.n,by rw[v1];exact own.v,by rw[v2];exact own.va,by rw[v3];exact own.sa⟩,ok⟩,m⟩
 ·have:=xl _ own.r;rw[ah.aM,ay (by simp at u;omega)];exact fr j u
 ·rw[v1]at h1;rw[p.1]at w;have g:=vs k a v h1 w;refine ms _ _ g λe=>?_;rw[e,c1]at g;simp[CB.ob,Vr.cs]at g
 ·rw[v1,v2];rcases va with va|⟨b,e,F,g⟩
  ·exact .inl va
  ·refine .inr ⟨b,e,F,ms _ _ g λe=>?_⟩;rw[e,c1]at g;simp at g
theorem kI.set(sa:kI h V d){i:Nat}{o a:dK}(g:h.get i=some a)(hi:∀L,a≠ .D 1 L):kI (h.set i o) V d:=by
 rcases sa with sa|⟨b,L,e,g1,t⟩
 ·exact .inl sa
 ·refine .inr ⟨b,L,e,?_,t⟩;rw[ah.aM,ay]
  ·exact g1
  ·rintro rfl
   rw[g]at g1;injection g1 with g1;exact hi L g1
theorem BG(c:cJ S B X0 h0 X V d h)(b:Bool)(p:Pl)(Q:Out->ah->Prop)(a:∀i,cJ S B X0 h0 X V (d.nz b p) i->Mv B V X X h i->Q (.ret (.iO [])) i):
 ba env 74 [.P B.r,.bool b,.agg [.I p.1,.I p.2]] h Q:=by
 refine wb fn74 rfl ?_;obtain⟨ov,c1,c2⟩:=c.c;have j:=aw c.fr c1;have rn:B.r≠h.nx:=om
 have m:aJ h (h.alloc (.C [.I p.1,.I p.2])).2:=kT;have g:=c.aH m;have o:Mv B V X X h _:=Mv.k c.fr m;have t:h.nx∉X:=λu=>by have:=c.xl _ u;omega
 have c3:=(m.old _ j).trans c1;have v:(h.alloc (.C [.I p.1,.I p.2])).2.get h.nx=some (.C [.I p.1,.I p.2]):=sp
 simp only[CB.ob]at c1;simp[f74];cases b with
 |true=>
  simp;have e:d.nz true p=d:=by unfold Dn.nz;split<;>simp_all
  rw[e]at a;exact a _ g o
 |false=>
  cases ho:d.over with
  |some q=>
   have e:d.nz false p=d:=(by unfold Dn.nz;rw[ho]);rw[e]at a;rw[ho]at c2;obtain⟨w,rfl,_,_⟩:=c2;simp[c1,rn];exact a _ g o
  |none=>
   rw[ho]at c2;have c2:ov= .N:=c2;subst c2;have e:d.nz false p={d with over:=some p}:=(by unfold Dn.nz;rw[ho]);rw[e]at a;simp[c1,rn];have key:=g.LJ (V':=V) (d':={d with over:=some p}) (ov:= .P h.nx) ⟨rfl,rfl,rfl⟩ ⟨rfl,rfl⟩ (kI.set (d:={d with over:=some p}) g.sa c3 sp) ⟨h.nx,rfl,t,by rw[ah.aM,ay rn.symm];exact v⟩ (c.ok.over _);simp only[CB.ob]at key;exact a _ key.1 (o.comp key.2)
end
end
section
theorem ID{N:List (bu)}{es:List jV}{ty:bu}(g:Fits es):0<=(oA N es ty).1/\(oA N es ty).1<=65536:=by
 by_cases e:(oA N es ty).2.2=0
 ·have:=BH g e;omega
 ·have h0:(oA N es ty).1=0:=by
   unfold oA at e⊢;split
   ·rename_i a;rw[aY a]at e;split
    ·rename_i b;rw[aY b]at e;split
     ·rename_i c;rw[aY c]at e;split
      ·rfl
      ·rename_i f;rw[ay f]at e;exact(e rfl).elim
     ·rename_i c;rw[ay c]at e;exact(e rfl).elim
    ·rfl
   ·rfl
  omega
section
variable{S:Sc}{B:CB}{X0:cB}{h0:ah}{X Y:cB}{V:CV}{d:Dn}{h h1:ah}
theorem Stat.LK(a:Stat S B X0 h0)(c:cJ S B X0 h0 X V d h):rC B.tb B.nm B.st h S.N S.es:=by
 obtain⟨t,n,s,o,lt,ln,ls,lo,ne⟩:=a.Cm;obtain⟨f,g,i,b⟩:=a.tx;have g1:=(c.mv.aH _ _ t f).1;have g2:=(c.mv.aH _ _ n g).1;have g3:=(c.mv.aH _ _ s i).1;exact⟨g1,g2,g3,λe he=>(c.mv.aH _ _ (o e he) (b e he)).1,aw c.fr g1,aw c.fr g2,aw c.fr g3,λe he=>aw c.fr (c.mv.aH _ _ (o e he) (b e he)).1,ne⟩
theorem qL(b:Stat S B X0 h0)(c:cJ S B X0 h0 X V d h)(ty:bu)(g:ty.length<=100000)(Q:Out->ah->Prop)(e:∀a,aJ h a->Q (.ret (.bool (sN S ty))) a):
 ba env 77 [.P B.r,.str ty] h Q:=by
 refine wb fn77 rfl ?_;obtain⟨ov,c1,c2⟩:=c.c;simp only[CB.ob]at c1;simp[f77,c1];refine(CP _ _ _ _ _ _ ty (b.LK c) c.fr om).m1 λi k3=>?_;simp;exact e _ k3
theorem D6(g:Stat S B X0 h0)(c:cJ S B X0 h0 X V d h)(ty:bu)(C:ty.length<=100000)(p:Pl)(Q:Out->ah->Prop)(b:dS S B X0 h0 X V WI h Q (Cj S ty p d)):
 ba env 76 [.P B.r,.str ty,.agg [.I p.1,.I p.2]] h Q:=by
 refine wb fn76 rfl ?_;obtain⟨ov,c1,c2⟩:=c.c;have rn:B.r≠h.nx:=by have:=aw c.fr c1;omega
 simp only[CB.ob]at c1;have i:aJ h (h.alloc (.C [.I p.1,.I p.2])).2:=kT;have a:=c.aH i;have j:(h.alloc (.C [.I p.1,.I p.2])).2.get h.nx=some (.C [.I p.1,.I p.2]):=sp
 simp[f76,c1,rn];generalize (h.alloc (.C [.I p.1,.I p.2])).2=D at*;refine(D7 _ _ _ _ _ _ ty (g.LK a) a.fr g.ok.fit om).m1 λo k3=>?_;have g3:=(k3.old _ (aw a.fr j)).trans j;have m:=a.aH k3;have t:Mv B V X X h o:=(Mv.k c.fr (i.trans k3))
 unfold Cj at b;generalize oA S.N S.es ty=z at*;obtain⟨n,al,F⟩:=z;simp[zr,g3];simp only at b;refine jc m b t (λu q=>U7 q) λu I e v w=>?_;have g4:=(w.old _ (aw m.fr g3)).trans g3;simp[g4];refine BG v _ p _ λJ y A=>?_;simp;exact e _ _ y rfl A
end
end
section
section
variable{S:Sc}{B:CB}{X0:cB}{h0:ah}{X Y:cB}{V:CV}{d:Dn}{h h1:ah}
theorem yw{id:Nat}{D:Hd}{vs:cB}{av:AV}(g:h.get id=some (.C (D.cs vs av))):ba env 101 [.P id] h (λout h'=>out= .ret (.bool (zq D.kd))/\h'=h):=by
 refine wb fn101 rfl ?_;simp only[Hd.cs]at g;by_cases h1:2<=D.kd<;>by_cases a:D.kd<=7<;>simp[f101,g,zq,h1,a]
theorem jl.obj{id:Nat}{x:Ex}(e:jl X h id x):∃av,h.get id=some (.C (x.cA av x.cR))/\id∉X/\∃qs,cQ X h av qs/\qs.map Prod.snd=x.args/\∀q,q∈qs->jl X h q.1 q.2:=by
 cases e with
 |mk obj nx arr a sub=>exact⟨_,obj,nx,_,arr,a,sub⟩
theorem Q1(x:Ex):FE x=(x.kd==1&&x.nI==0):=by cases x<;>rfl
theorem vO{id:Nat}{x:Ex}(e:jl X h id x):ba env 130 [.P id] h (λout h'=>out= .ret (.bool (FE x))/\h'=h):=by
 refine wb fn130 rfl ?_;obtain⟨av,g,_⟩:=e.obj;simp only[Ex.cA]at g;rw[Q1];generalize x.kd=k at*;generalize x.nI=n at*;cases h1:(k==1)<;>simp[f130,g,h1]
theorem jd.node{H:ah}{vs:cB}{id:Nat}{D:Hd}{av:AV}{qs:List (Nat×TX)}(m:Move X X h H)(sub:∀q∈qs,jd X vs h q.1 q.2)(obj:H.get id=some (.C (D.cs vs av)))(hid:id∉X)(arr:cQ X H av qs)(a:∀k,D.v=some k->k<vs.length):jd X vs H id (.mk D (qs.map Prod.snd)):=
 .mk obj hid a arr rfl λq b=>(sub q b).move m
theorem cJ.Kr(c:cJ S B X0 h0 X V d h){id:Nat}{e:TX}(t:jd X V.vs h id e)(D:Hd)(a:D.v=none):
 cJ S B X0 h0 X V d ((h.alloc (.D 1 [.P id])).2.alloc (.C (D.cs V.vs (.S h.nx 1)))).2/\jd X V.vs ((h.alloc (.D 1 [.P id])).2.alloc (.C (D.cs V.vs (.S h.nx 1)))).2 (h.nx+1) (.mk D [e])/\
  Mv B V X X h ((h.alloc (.D 1 [.P id])).2.alloc (.C (D.cs V.vs (.S h.nx 1)))).2:=by
 have K:aJ h ((h.alloc (.D 1 [.P id])).2.alloc (.C (D.cs V.vs (.S h.nx 1)))).2:=kT;have m:Mv B V X X h _:=Mv.k c.fr K;have nx:∀i,h.nx<=i->i∉X:=λi hi b=>by have:=c.xl i b;omega
 refine⟨c.aH K,jd.node (qs:=[(id,e)]) m.toMove (U7 t) sp (nx _ om) (.inr ⟨h.nx,rfl,nx _ om,sp⟩) (by simp[a]),m⟩
theorem cJ.UZ(c:cJ S B X0 h0 X V d h){id a:Nat}{e e2:TX}(t:jd X V.vs h id e)(t2:jd X V.vs h a e2)(D:Hd)(b:D.v=none):
 cJ S B X0 h0 X V d ((h.alloc (.D 1 [.P id,.P a])).2.alloc (.C (D.cs V.vs (.S h.nx 2)))).2/\jd X V.vs ((h.alloc (.D 1 [.P id,.P a])).2.alloc (.C (D.cs V.vs (.S h.nx 2)))).2 (h.nx+1) (.mk D [e,e2])/\
  Mv B V X X h ((h.alloc (.D 1 [.P id,.P a])).2.alloc (.C (D.cs V.vs (.S h.nx 2)))).2:=by
 have K:aJ h ((h.alloc (.D 1 [.P id,.P a])).2.alloc (.C (D.cs V.vs (.S h.nx 2)))).2:=kT;have m:Mv B V X X h _:=Mv.k c.fr K;have nx:∀i,h.nx<=i->i∉X:=λi hi f=>by have:=c.xl i f;omega
 refine⟨c.aH K,jd.node (qs:=[(id,e),(a,e2)]) m.toMove (by simpa using⟨t,t2⟩) sp (nx _ om) (.inr ⟨h.nx,rfl,nx _ om,sp⟩) (by simp[b]),m⟩
theorem cJ.T7(c:cJ S B X0 h0 X V d h)(D:Hd)(a:∀k,D.v=some k->k<V.vs.length):
 cJ S B X0 h0 X V d (h.alloc (.C (D.cs V.vs (.Z)))).2/\jd X V.vs (h.alloc (.C (D.cs V.vs (.Z)))).2 h.nx (.mk D [])/\Mv B V X X h (h.alloc (.C (D.cs V.vs (.Z)))).2:=by
 have K:aJ h (h.alloc (.C (D.cs V.vs (.Z)))).2:=kT;have m:Mv B V X X h _:=Mv.k c.fr K;have nx:∀i,h.nx<=i->i∉X:=λi hi b=>by have:=c.xl i b;omega
 refine⟨c.aH K,jd.node (qs:=[]) m.toMove sp sp (nx _ om) (.inl ⟨rfl,rfl⟩) a,m⟩
theorem oO(c:cJ S B X0 h0 X V d h){id:Nat}{e:TX}(t:jd X V.vs h id e)(ty:bu)(Q:Out->ah->Prop)(m:∀b a,cJ S B X0 h0 X V d a->jd X V.vs a b (N6 e ty 1)->Mv B V X X h a->h.nx<=b->Q (.ret (.P b)) a):
 ba env 131 [.P id,.str ty] h Q:=by
 refine wb fn131 rfl ?_;obtain⟨av,g,_⟩:=t.obj;simp only[Hd.cs]at g;have key:=λop=>c.Kr t ⟨15,ty,op,1,0,false,none⟩ rfl;simp only[Hd.cs,vP]at key;cases h1:(ty==[99,104,97,114])<;>cases a:(ty==[105,110,116])<;>cases i:(e.d.ty==[105,110,116])<;>cases j:(e.d.ty==[108,111,110,103])<;>simp[f131,g,h1,a,i,j]<;>exact m _ _ (key _).1 (by have k2:=(key (if(ty==[99,104,97,114]&&(e.ty==[105,110,116]||e.ty==[108,111,110,103]))=true then 3 else if(ty==[105,110,116]&&e.ty==[108,111,110,103])=true then 4 else 0)).2.1;simp only[TX.ty,h1,a,i,j]at k2;unfold N6;simp only[TX.ty,h1,a,i,j];exact k2) (key _).2.2 om
end
end
section
def KE(S:Sc)(B:CB)(X0:List Nat)(h0:ah)(x:Ex):Prop:=∀(X:List Nat)(V:CV)(d:Dn)(h:ah)(id:Nat)(Q:Out->ah->Prop),cJ S B X0 h0 X V d h->jl X0 h0 id x->dS S B X0 h0 X V WT h Q (jv S x d)->ba env 100 [.P B.r,.P id] h Q
section
variable{S:Sc}{B:CB}{X0:cB}{h0:ah}{X Y:cB}{V:CV}{d:Dn}{h h1:ah}{P:Pl->Prop}
theorem LM(hS:Stat S B X0 h0)(c:cJ S B X0 h0 X V d h){id:Nat}{e:TX}(t:jd X V.vs h id e)(hl:e.ty.length<=90000)(p:Pl)(Q:Out->ah->Prop)(j:dS S B X0 h0 X V WT h Q (Nu S e p d)):
 ba env 139 [.P B.r,.P id,.agg [.I p.1,.I p.2]] h Q:=by
 refine wb fn139 rfl ?_;have O:aJ h (h.alloc (.C [.I p.1,.I p.2])).2:=kT;have y:=c.aH O;have R:Mv B V X X h _:=Mv.k c.fr O;have T1:=t.move R.toMove;have U:(h.alloc (.C [.I p.1,.I p.2])).2.get h.nx=some (.C [.I p.1,.I p.2]):=sp
 simp[f139];replace j:=j.at R;generalize (h.alloc (.C [.I p.1,.I p.2])).2=h2 at*;generalize h.nx=qa at*;clear O R t c;obtain⟨av,g,nx,vk,qs,arr,ha,sub⟩:=T1.obj;refine(yw g).m1 λh3 W=>?_;subst W;unfold Nu TX.place at j;cases hp:zq e.d.kd with
 |false=>
  rw[hp]at j;simp;exact j _ _ y ⟨id,rfl,T1⟩ (Mv.refl _ _ _ _)
 |true=>
  rw[hp]at j;have C:=g;simp only[Hd.cs]at C;simp[C];refine(IE _ _ (show e.ty.length<=100000 from om)).m1 λh4 D=>?_;have Z:Mv B V X X h3 h4:=Mv.k y.fr D;have T4:=T1.move Z.toMove;have i:=y.aH D;have g4:=(D.old _ (aw y.fr C)).trans C;have m:=(D.old _ (aw y.fr U)).trans U;have A4:=AO e.ty;replace j:=j.at Z;clear y T1 Z D g C U;cases h5:(Iy e.ty).2 with
  |false=>
   simp only[h5,gR]at j;simp;refine eF [0,1,2,3,4,5,7,6,8] kr (by simp[cz,dG];rfl) kr ?_;simp[g4,m];have F:=(aJ.refl h4).bump 9;refine qL hS (i.aH F) _ (show e.ty.length<=100000 from om) _ λo k6=>?_;have a:=F.trans k6;have A1:=(a.old _ (aw i.fr m)).trans m;have g6:=(a.old _ (aw i.fr g4)).trans g4;simp;refine dm ?_;refine jc (i.aH a) j (Mv.k i.fr a) (λA q=>⟨dc,λ_=>U7 q⟩) λA hb v C7 k7=>?_;simp;refine dm ?_;have w:=a.trans k7;exact v _ _ C7 ⟨id,rfl,T4.move (Move.k i.fr w)⟩ (Mv.refl _ _ _ _)
  |true=>
   simp[g4];refine(vN _ _ (show e.ty.length<=9000000000 from om)).m1 λo W=>?_;subst W;cases A:BC e.ty with
   |true=>
    simp only[h5,A,dZ,Bool.not_true]at j;simp;refine eF [0,1,2,3,4,5,7,6,8] kr (by simp[cz,dG];rfl) kr ?_;simp[g4,m];have F:=(aJ.refl o).bump 9;refine qL hS (i.aH F) _ (show e.ty.length<=100000 from om) _ λh8 k6=>?_;have a:=F.trans k6;have A1:=(a.old _ (aw i.fr m)).trans m;have g6:=(a.old _ (aw i.fr g4)).trans g4;simp;refine dm ?_;refine jc (i.aH a) j (Mv.k i.fr a) (λA q=>⟨dc,λ_=>U7 q⟩) λA hb v C7 k7=>?_;simp;refine dm ?_;have w:=a.trans k7;exact v _ _ C7 ⟨id,rfl,T4.move (Move.k i.fr w)⟩ (Mv.refl _ _ _ _)
   |false=>
    simp only[h5,A,dZ,jU]at j;obtain⟨I,o4,A5,A2,J,u,A3,K⟩:=T4.obj;simp only[Hd.cs]at o4;have e4:I=av:=(by rw[g4]at o4;simpa using o4.symm);subst e4;obtain⟨N,n4,rfl⟩:∃N n,I= .slice N n:=(by rcases u with⟨_,rfl⟩|⟨b,rfl,_⟩<;>exact⟨_,_,rfl⟩);have le:(Iy e.ty).1.length<=4611686018427387903:=om;simp[g4,le];have K2:aJ o ((o.alloc (.C [.I 0,.str [],.I 0,.I 0,.I 0,.bool false,.N,.Z])).2.set o.nx (.C (e.d.cs V.vs (.slice N n4)))):=kT;have C2:=i.aH K2;have M2:Mv B V X X o _:=Mv.k i.fr K2;have T2:jd X V.vs ((o.alloc (.C [.I 0,.str [],.I 0,.I 0,.I 0,.bool false,.N,.Z])).2.set o.nx (.C (e.d.cs V.vs (.slice N n4)))) o.nx (.mk e.d (J.map Prod.snd)):=jd.node M2.toMove K sp (λhx=>by have:=i.xl _ hx;omega) (u.move M2.toMove) A2;have ee:TX.mk e.d (J.map Prod.snd)=e:=(by rw[A3];cases e;rfl);rw[ee]at T2;have key:=C2.Kr T2 ⟨8,(Iy e.ty).1++[42],0,1,0,false,none⟩ rfl;simp only[Hd.cs,vP]at key;exact j _ _ key.1 ⟨_,rfl,key.2.1⟩ (M2.comp key.2.2)
end
end
section
section
variable{S:Sc}{B:CB}{X0:cB}{h0:ah}{X Y:cB}{V:CV}{d:Dn}{h h1:ah}{P:Pl->Prop}
theorem dS.tail{α:Type}{W:α->cB->cB->ah->AV->Prop}{Q Q':Out->ah->Prop}{r:Rs α}(e:dS S B X0 h0 X V W h Q r)(g:∀p b,Q (.jz (xX p)) b->Q' (.jz (xX p)) b)(i:∀v b,bP b->Mv B V X X h b->Q (.ret v) b->Q' (.ret v) b):dS S B X0 h0 X V W h Q' r:=by
 cases r with
 |ok a d=>exact λv h' c j m=>i v h' c.fr m (e v h' c j m)
 |err p=>exact λh' m f=>g p h' (e h' m f)
theorem jl.ob{id:Nat}{x:Ex}(e:jl X h id x):∃(kd:Int)(p:Pl)(op nm:bu)(n:Int)(ty:bu)(av:AV)(t:Int),h.get id=some (.C [.I kd,.I p.1,.I p.2,.str op,.str nm,.I n,.str ty,av,.I t])/\id∉X/\
 kd=x.kd/\p=x.pos/\op=x.CQ/\nm=x.uT/\n=x.nI/\ty=x.uU/\∃qs,cQ X h av qs/\qs.map Prod.snd=x.args/\∀q,q∈qs->jl X h q.1 q.2:=by
 obtain⟨av,g,nx,r⟩:=e.obj;exact⟨_,_,_,_,_,_,_,_,g,nx,rfl,rfl,rfl,rfl,rfl,rfl,r⟩
theorem D8(a:Stat S B X0 h0){x:Ex}(b:x.al P TL)(f:d.Ok){e:TX}{d1:Dn}(hr:jv S x d= .ok e d1):JN x.nodes d.vs.length e/\Ah d d1:=by
 have:=oM a.ok x d f b;rw[hr]at this;exact this
theorem uy(a:Stat S B X0 h0){x:Ex}(b:x.al P TL)(f:d.Ok){e:TX}{d1:Dn}{p:Pl}(hr:wV S (jv S x d) p= .ok e d1):JN (x.nodes+1) d.vs.length e/\Ah d d1:=by
 have:=oU (S:=S) (oM a.ok x d f b) p;rw[hr]at this;exact this
theorem Cn{n k:Nat}{e:TX}(t:JN n k e)(a:n<=10001):e.ty.length<=90000:=by
 have:=t.len;unfold dW at this;omega
theorem oV(g:Stat S B X0 h0){x:Ex}(t:KE S B X0 h0 x)(u:x.al P TL)(D:x.nodes<=10000)(c:cJ S B X0 h0 X V d h){idx:Nat}(i:jl X0 h0 idx x)(Q:Out->ah->Prop)(j:dS S B X0 h0 X V WT h Q (wV S (jv S x d) x.pos)):
 ba env 102 [.P B.r,.P idx] h Q:=by
 refine wb fn102 rfl ?_;obtain⟨kd,p,op,nm,n,ty,av,tl,m,nx,_,w,_⟩:=(i.move c.mv).ob;rw[<-w]at j;simp[f102];refine eF [0,1,2,4,5,6,7,3,8,9] kr (by simp[cz,dG];rfl) kr ?_;simp[m];have a:=(aJ.refl h).bump 10;refine t X V d _ idx _ (c.aH a) i (dS.bind j (Mv.k c.fr a) (λp o q=>⟨dc,λ_=>U7 q⟩) λe d1 v o hr b c2 y m2=>?_);obtain⟨A,rfl,t2⟩:=y;have C:=((Mv.k c.fr a).comp m2|>.aH _ _ m nx).1;simp;refine dm ?_;refine LM g c2 t2 (Cn (D8 g u c.ok hr).1 om) p _ (dS.tail b (λp o q=>⟨dc,λ_=>U7 q⟩) λv F _ m3 q=>?_);simp;refine dm ?_;exact q
theorem zs(t:Stat S B X0 h0){x:Ex}(u:KE S B X0 h0 x)(w:x.al P TL)(y:x.nodes<=10000)(c:cJ S B X0 h0 X V d h){idx:Nat}(m:jl X0 h0 idx x)(Q:Out->ah->Prop)(A:dS S B X0 h0 X V WT h Q (FD S (jv S x d) x.pos)):
 ba env 104 [.P B.r,.P idx] h Q:=by
 refine wb fn104 rfl ?_;simp[f104];refine oV t u w y c m _ (dS.bind A (Mv.refl _ _ _ _) (λp o q=>U7 q) λe d1 v o hr a c2 C m2=>?_);obtain⟨b,rfl,t2⟩:=C;obtain⟨kd,p,op,nm,n,ty,av,tl,D,nx,_,F,_⟩:=(m.move c2.mv).ob;obtain⟨I,g2,J,_⟩:=t2.obj;simp only[Hd.cs]at g2;rw[<-F]at a;simp;refine eF [0,1,2,3,4,6,7,8,9,5,10] kr (by simp[cz,dG];rfl) kr ?_;simp[D,g2];have g:=(aJ.refl o).bump 11;refine(jY _ _).m1 λR K=>?_;subst K;simp;refine dm ?_;refine jc (c2.aH g) a (Mv.k c2.fr g) (λN q=>⟨dc,λ_=>U7 q⟩) λN U i c4 O=>?_;have j:=g.trans O;simp;refine dm ?_;exact i _ _ c4 ⟨b,rfl,t2.move (Move.k c2.fr j)⟩ (Mv.refl _ _ _ _)
end
end
section
section
variable{S:Sc}{B:CB}{X0:cB}{h0:ah}{X Y:cB}{V:CV}{d:Dn}{h h1:ah}{P:Pl->Prop}
theorem xK(u:Stat S B X0 h0){x:Ex}(D:KE S B X0 h0 x)(w:x.al P TL)(F:x.nodes<=10000)(c:cJ S B X0 h0 X V d h){idx:Nat}(y:jl X0 h0 idx x)(Q:Out->ah->Prop)(I:dS S B X0 h0 X V WT h Q (ux S (jv S x d) x.pos)):
 ba env 103 [.P B.r,.P idx] h Q:=by
 refine wb fn103 rfl ?_;simp[f103];refine oV u D w F c y _ (dS.bind I (Mv.refl _ _ _ _) (λp A q=>U7 q) λe d1 v A hr a c2 J m2=>?_);obtain⟨j,rfl,t2⟩:=J;obtain⟨kd,p,op,nm,n,ty,av,tl,K,nx,_,N,_⟩:=(y.move c2.mv).ob;obtain⟨O,g2,R,_⟩:=t2.obj;simp only[Hd.cs]at g2;have ln:=Cn (uy u w c.ok hr).1 om;rw[<-N]at a;simp;refine eF [0,1,2,3,4,13,14,15,16,5,6,7,8,9,10,11,12,17] kr (by simp[cz,dG];rfl) kr ?_;simp[K,g2];have i:=(aJ.refl A).bump 18;refine(jY _ _).m1 λU m=>?_;subst m;cases C:tP e.d.ty with
 |true=>
  simp only[TX.ty,C,tf]at a;simp;refine dm ?_;refine jc (c2.aH i) a (Mv.k c2.fr i) (λo q=>⟨dc,λ_=>U7 q⟩) λo W b c4 t=>?_;have g:=i.trans t;simp;refine dm ?_;exact b _ _ c4 ⟨j,rfl,t2.move (Move.k c2.fr g)⟩ (Mv.refl _ _ _ _)
 |false=>
  simp only[TX.ty,C,kM]at a;simp[g2];refine dm ?_;refine(vN _ _ (show e.ty.length<=9000000000 from om)).m1 λU m=>?_;subst m;simp;refine dm ?_;refine jc (c2.aH i) a (Mv.k c2.fr i) (λo q=>⟨dc,λ_=>U7 q⟩) λo W b c4 t=>?_;have g:=i.trans t;simp;refine dm ?_;exact b _ _ c4 ⟨j,rfl,t2.move (Move.k c2.fr g)⟩ (Mv.refl _ _ _ _)
theorem tR(A:Stat S B X0 h0)(c:cJ S B X0 h0 X V d h)(ty:bu)(I:ty.length<=90000)(p:Pl)(Q:Out->ah->Prop)(a:dS S B X0 h0 X V WP h Q (N8 S ty p d)):
 ba env 137 [.P B.r,.str ty,.agg [.I p.1,.I p.2]] h Q:=by
 refine wb fn137 rfl ?_;have b:aJ h (h.alloc (.C [.I p.1,.I p.2])).2:=kT;have e:=c.aH b;have w:Mv B V X X h _:=Mv.k c.fr b;have g:(h.alloc (.C [.I p.1,.I p.2])).2.get h.nx=some (.C [.I p.1,.I p.2]):=sp
 simp[f137];replace a:=a.at w;generalize (h.alloc (.C [.I p.1,.I p.2])).2=y at*;generalize h.nx=J at*;clear b w c;refine eF [0,1,3,2,4] kr (by simp[cz,dG];rfl) kr ?_;simp[g];have i:=(aJ.refl y).bump 5;refine(vN _ _ (show ty.length<=9000000000 from om)).m1 λK C=>?_;subst C;simp;refine dm ?_;refine jc (e.aH i) a (Mv.k e.fr i) (λD q=>⟨dc,λ_=>U7 q⟩) λD N j c4 F=>?_;have m:=i.trans F;have g4:=(m.old _ (aw e.fr g)).trans g;simp;refine dm ?_;refine(IE _ _ (show ty.length<=100000 from om)).m1 λO o=>?_;have g5:=(o.old _ (aw c4.fr g4)).trans g4;have le:=AO ty;simp[g5];refine D6 A (c4.aH o) _ om p _ (dS.bind j (Mv.k c4.fr o) (λp y q=>U7 q) λn d6 v R hr t c6 u m6=>?_);have u:v= .I n:=u;subst u;simp;exact t _ _ c6 rfl (Mv.refl _ _ _ _)
end
end
section
section
variable{S:Sc}{B:CB}{X0:cB}{h0:ah}{X Y:cB}{V:CV}{d:Dn}{h h1:ah}{P:Pl->Prop}
theorem D9(R:Stat S B X0 h0){x:Ex}(U:KE S B X0 h0 x)(W:x.al P TL)(Z:x.nodes<=10000)(c:cJ S B X0 h0 X V d h){idx:Nat}(F:jl X0 h0 idx x){ty:bu}(A1:ty.length<=90000)(Q:Out->ah->Prop)(hQ:dS S B X0 h0 X V WT h Q (BD S (jv S x d) x ty)):
 ba env 99 [.P B.r,.P idx,.str ty] h Q:=by
 refine wb fn99 rfl ?_;simp[f99];refine oV R U W Z c F _ (dS.bind hQ (Mv.refl _ _ _ _) (λp D q=>U7 q) λe d1 v D hr a c2 w2 m2=>?_);obtain⟨A2,rfl,t2⟩:=w2;have y:=F.move c2.mv;obtain⟨kd,p,op,nm,n,A3,av,tl,gx,nx,_,hp,_⟩:=y.ob;obtain⟨A4,g2,A5,_⟩:=t2.obj;simp only[Hd.cs]at g2;rw[<-hp]at a;simp;refine eF [0,1,26,27,28,29,2,3,4,5,6,7,8,9,10,11,12,13,14,15,16,17,18,19,20,21,22,23,24,25,30] kr (by simp[cz,dG];rfl) kr ?_;simp[gx];have j:=(aJ.refl D).bump 31;have A:jl X (D.bump 31) idx x:=y.move (Move.k c2.fr j);unfold N7 at a;refine(jY _ _).m1 λC t=>?_;subst t;generalize hA:tP ty=bA at*;generalize hB:tP e.d.ty=bB at*;generalize I:BC ty=J at*;generalize K:(e.d.ty==ty)=N at*;generalize O:FE x=bE at*;cases bA with
 |true=>
  simp[g2];refine dm ?_;refine(jY _ _).m1 λC t=>?_;subst t;simp only[hB];cases bB with
  |true=>
   simp only[dZ,tf]at a;simp;refine dm ?_;refine jc (c2.aH j) a (Mv.k c2.fr j) (λm q=>⟨dc,λ_=>U7 q⟩) λm u b c4 o=>?_;have g:=j.trans o;simp;refine dm ?_;refine oO c4 (t2.move (Move.k c2.fr g)) ty _ λi w c5 t5 m5 _=>?_;simp;exact b _ _ c5 ⟨i,rfl,t5⟩ m5
  |false=>
   simp;refine dm ?_;refine(vN _ _ (show ty.length<=9000000000 from om)).m1 λC t=>?_;subst t;simp only[I];cases J with
   |false=>
    simp only[gR,Bool.or_false,Bool.and_false]at a;simp;refine dm ?_;refine jc (c2.aH j) a (Mv.k c2.fr j) (λm q=>⟨dc,λ_=>U7 q⟩) λm u b c4 o=>?_;have g:=j.trans o;simp;refine dm ?_;refine oO c4 (t2.move (Move.k c2.fr g)) ty _ λi w c5 t5 m5 _=>?_;simp;exact b _ _ c5 ⟨i,rfl,t5⟩ m5
   |true=>
    simp only[dZ,kM,Bool.and_false]at a;simp[g2,K];refine dm ?_;cases N with
    |true=>
     simp only[tf]at a;simp;refine dm ?_;refine jc (c2.aH j) a (Mv.k c2.fr j) (λm q=>⟨dc,λ_=>U7 q⟩) λm u b c4 o=>?_;have g:=j.trans o;simp;refine dm ?_;refine oO c4 (t2.move (Move.k c2.fr g)) ty _ λi w c5 t5 m5 _=>?_;simp;exact b _ _ c5 ⟨i,rfl,t5⟩ m5
    |false=>
     simp only[kM]at a;simp;refine dm ?_;refine(vO A).m1 λC t=>?_;subst t;simp only[O];simp;refine dm ?_;refine jc (c2.aH j) a (Mv.k c2.fr j) (λm q=>⟨dc,λ_=>U7 q⟩) λm u b c4 o=>?_;have g:=j.trans o;simp;refine dm ?_;refine oO c4 (t2.move (Move.k c2.fr g)) ty _ λi w c5 t5 m5 _=>?_;simp;exact b _ _ c5 ⟨i,rfl,t5⟩ m5
 |false=>
  simp;refine dm ?_;refine(vN _ _ (show ty.length<=9000000000 from om)).m1 λC t=>?_;subst t;simp only[I];cases J with
  |false=>
   simp only[gR,Bool.or_false]at a;simp;refine dm ?_;refine jc (c2.aH j) a (Mv.k c2.fr j) (λm q=>⟨dc,λ_=>U7 q⟩) λm u b c4 o=>?_;have g:=j.trans o;simp;refine dm ?_;refine oO c4 (t2.move (Move.k c2.fr g)) ty _ λi w c5 t5 m5 _=>?_;simp;exact b _ _ c5 ⟨i,rfl,t5⟩ m5
  |true=>
   simp only[dZ,kM,gR]at a;simp[g2,K];refine dm ?_;cases N with
   |true=>
    simp only[tf]at a;simp;refine dm ?_;refine jc (c2.aH j) a (Mv.k c2.fr j) (λm q=>⟨dc,λ_=>U7 q⟩) λm u b c4 o=>?_;have g:=j.trans o;simp;refine dm ?_;refine oO c4 (t2.move (Move.k c2.fr g)) ty _ λi w c5 t5 m5 _=>?_;simp;exact b _ _ c5 ⟨i,rfl,t5⟩ m5
   |false=>
    simp only[kM]at a;simp;refine dm ?_;refine(vO A).m1 λC t=>?_;subst t;simp only[O];simp;refine dm ?_;refine jc (c2.aH j) a (Mv.k c2.fr j) (λm q=>⟨dc,λ_=>U7 q⟩) λm u b c4 o=>?_;have g:=j.trans o;simp;refine dm ?_;refine oO c4 (t2.move (Move.k c2.fr g)) ty _ λi w c5 t5 m5 _=>?_;simp;exact b _ _ c5 ⟨i,rfl,t5⟩ m5
end
end
section
theorem yx:∀(fs:List Fd)(i:Nat)(f:Fd),fs[i]?=some f->List.take 2 (List.drop (i*2) (qq fs))=[.str f.ty,.str f.nm]/\(qq fs)[i*2]?=some (.str f.ty)
 |[],i,f,h=>by simp at h
 |p::ps,0,f,h=>by
  simp only[cw,bj]at h;subst h;simp[qq]
 |p::ps,i+1,f,h=>by
  have:=yx ps i f (U7 h);rw[show(i+1)*2=i*2+1+1 by omega];simpa[qq]using this
theorem uz:∀fs:List Fd,(qq fs).length=fs.length*2
 |[]=>rfl
 |p::ps=>by
  have:=uz ps;simp only[qq,bL,iK,aO,ai,aW]at this⊢;omega
theorem FG:∀(ps:List Aj)(i:Nat)(q:Aj),ps[i]?=some q->(flat ps)[i*3]?=some (.str q.name)/\(flat ps)[i*3+1]?=some (.str q.type)/\(flat ps)[i*3+2]?=some (.I q.off)
 |[],i,f,h=>by simp at h
 |p::ps,0,f,h=>by
  simp only[cw,bj]at h;subst h;simp[flat,Aj.cs]
 |p::ps,i+1,f,h=>by
  have:=FG ps i f (U7 h);rw[show(i+1)*3=i*3+1+1+1 by omega];simpa[flat,Aj.cs]using this
section
variable{S:Sc}{B:CB}{X0:cB}{h0:ah}{X Y:cB}{V:CV}{d:Dn}{h h1:ah}{P:Pl->Prop}
def R7(nm:List UInt8)(fl:List Fd):Int:=match xH nm fl 0 with
 |some i=>i
 |none=>-1
theorem LN{q:Nat}{ty fn nm:bu}(g:h.get q=some (.C [.str nm]))(Q:Out->ah->Prop)(lt:q<h.nx)(b:∀a,aJ h a->Q (.ret (.bool (fn==nm))) a):ba env 175 [.agg [.str ty,.str fn],.P q] h Q:=by
 refine wb fn175 rfl ?_;have e:q≠h.nx:=om
 simp[f175,g,e];refine b _ ?_;exact kT
theorem BI{q:Nat}{nm:bu}{av:AV}{fl:List Fd}(g:h.get q=some (.C [.str nm]))(ar:jH X h av 2 fl.length (qq fl))(fr:bP h)(K:fl.length<=300)(Q:Out->ah->Prop)(C:∀u,aJ h u->Q (.ret (.I (R7 nm fl))) u):
 ba env 174 [av,.func 175 [.P q]] h Q:=by
 refine wb fn174 rfl ?_;obtain⟨D,p⟩:∃D,av= .slice D fl.length:=by
  rcases ar with⟨e,_,rfl⟩|⟨b,v,rfl,_,_⟩
  ·exact⟨none,by rw[e]⟩
  ·exact⟨some (b,0),rfl⟩
 simp[f174,p];refine bz (λm x=>∃i,i<=fl.length/\m=fl.length-i/\xH nm (fl.drop i) i=xH nm fl 0/\x.n=19/\x.ds=[]/\x.bX=false/\aJ h x.h/\x.rg.get 0=some av/\x.rg.get 1=some (.func 175 [.P q])/\x.rg.get 7=some (.I fl.length)/\x.rg.get 8=some (.I i)) fl.length ?_ ?_
 ·exact⟨0,om,rfl,rfl,rfl,rfl,rfl,aJ.refl _,by simp[p],sp,sp,sp⟩
 rintro m ⟨rg,n,H,ds,bX⟩ ⟨i,hi,rfl,j,e1,e2,e3,k,r0,w,r7,r8⟩
 dsimp only at e1 e2 e3 k r0 w r7 r8;subst e1 e2 e3;by_cases o:i<fl.length
 ·obtain⟨b,v,e,_,gb⟩:=ar.resolve_left λe=>by omega
  rw[e]at r0;have y:=(k.old _ (aw fr gb)).trans gb;have F:=(k.old _ (aw fr g)).trans g;obtain⟨fa,_⟩:=yx fl i fl[i] (aj o);have I:i*2+2<=(qq fl).length:=by have:=uz fl;omega
  have a:(i:Int)<(fl.length:Int):=by omega
  have J:=U8 i
  rw[bs o,xH]at j;simp[r0,w,r7,r8,a,y,fa,I];refine LN F _ (aw (k.fresh fr) F) λu k2=>?_;by_cases t:fl[i].nm=nm
  ·rw[aY t]at j;have e2:(fl[i].nm==nm)=true:=(by simp[t]);have:=C _ (k.trans k2);unfold R7 at this;rw[<-j]at this;simp[e2];exact this
  ·rw[ay t]at j;have e2:(fl[i].nm==nm)=false:=(by simp[t]);simp[e2,r0,w,r7,r8,J];exact⟨_,om,i+1,o,rfl,j,k.trans k2,e.symm,om⟩
 ·have A:i=fl.length:=by omega
  subst A;have a:¬(fl.length:Int)<(fl.length:Int):=by omega
  rw[dV,xH]at j;have:=C _ k;unfold R7 at this;rw[<-j]at this;simp[r7,r8];exact this
end
end
section
section
variable{S:Sc}{B:CB}{X0:cB}{h0:ah}{X Y:cB}{V:CV}{d:Dn}{h h1:ah}{P:Pl->Prop}
theorem IF(I:Stat S B X0 h0)(c:cJ S B X0 h0 X V d h)(ty nm:bu)(p:Pl)(Q:Out->ah->Prop)(hQ:dS S B X0 h0 X V WP h Q (N9 S ty nm p d)):
 ba env 138 [.P B.r,.str ty,.str nm,.agg [.I p.1,.I p.2]] h Q:=by
 refine wb fn138 rfl ?_;have K1:aJ h ((h.alloc (.C [.str nm])).2.alloc (.C [.I p.1,.I p.2])).2:=kT;have C1:=c.aH K1;have M1:Mv B V X X h _:=Mv.k c.fr K1;have R:((h.alloc (.C [.str nm])).2.alloc (.C [.I p.1,.I p.2])).2.get h.nx=some (.C [.str nm]):=sp
 have gq:((h.alloc (.C [.str nm])).2.alloc (.C [.I p.1,.I p.2])).2.get (h.nx+1)=some (.C [.I p.1,.I p.2]):=sp
 simp[f138];replace hQ:=hQ.at M1;generalize ((h.alloc (.C [.str nm])).2.alloc (.C [.I p.1,.I p.2])).2=h2 at*;generalize h.nx+1=qa at*;generalize h.nx=qn at*;clear K1 M1 c;refine ba.ed pr145 yp ?_;unfold N9 at hQ;have ek:([115,116,114,117,99,116,32]:bu)=iN:=rfl;rw[ek];generalize hs:Lib.trimPrefix ty iN=s at*;simp[gq];refine jc C1 hQ (Mv.refl _ _ _ _) (λh4 q=>U7 q) λh3 hb a t k3=>?_;have v:=(k3.old _ (aw C1.fr R)).trans R;have w:=(k3.old _ (aw C1.fr gq)).trans gq;obtain⟨ov,c1,c2⟩:=t.c;simp only[CB.ob]at c1;obtain⟨es,U,hm⟩:=I.fm;have J:=(t.mv.aH _ _ U I.mx.1).1;have F2:∀(o:dK)(i:Nat),i≠B.fm->(h3.set i o).get B.fm=some (.map es):=λo i hi=>by rw[ah.aM,ay hi.symm];exact J
 rcases hm s with⟨hf,hm⟩|⟨fl,j,av,hf,hm,W⟩
 ·rw[hf]at a;simp[c1,J,hm];refine BI (X:=X) (fl:=[]) v (.inl ⟨rfl,rfl,rfl⟩) t.fr sp _ λh5 K=>?_;have m:=(K.old _ (aw t.fr w)).trans w;simp[R7,xH,m];refine fI p false _ _ _ (λZ _ y=>?_) (λZ hh _=>by cases hh);have A1:=K.trans y;simp;exact a _ (Move.k t.fr A1) (A1.fresh t.fr)
 ·rw[hf]at a;have C9:=xJ hf;obtain⟨xf,xm,x1,x2⟩:=C9;have ok:=I.ok.fm xf xm;rw[x2]at ok;have F:=W.move t.mv;have CL:∃ab,av= .slice ab fl.length:=by
   rcases F with⟨e,_,rfl⟩|⟨b,F3,rfl,_,_⟩
   ·exact⟨none,by rw[e]⟩
   ·exact⟨some (b,0),rfl⟩
  obtain⟨ab,rfl⟩:=CL;simp[c1,J,hm];refine BI v F t.fr ok.1 _ λh5 K=>?_;have m:=(K.old _ (aw t.fr w)).trans w;have A2:=(K.old _ (aw t.fr v)).trans v;have O:=t.aH K;replace a:=a.at (Mv.k t.fr K)
  simp only at a;cases hi:xH nm fl 0 with
  |none=>
   rw[hi]at a;simp[R7,hi,m];refine fI p false _ _ _ (λZ _ y=>?_) (λZ hh _=>by cases hh);simp;exact a _ (Move.k O.fr y) (y.fresh O.fr)
  |some i=>
   rw[hi]at a;obtain⟨i',f,A3,A,F4⟩:=IC hi;have A3:i=i':=om;subst A3;simp[R7,hi,m];refine fI p true _ _ _ (λZ hh _=>by cases hh) (λZ _ y=>?_);have F5:=(y.old _ (aw O.fr m)).trans m;have A4:=(y.old _ (aw O.fr A2)).trans A2;have C6:=O.aH y;replace a:=a.at (Mv.k O.fr y)
   obtain⟨F6,c6,_⟩:=C6.c;simp only[CB.ob]at c6;simp[c6];obtain⟨e,he⟩:=I.ok.fe xf xm;rw[x1]at he;have pl:=I.ok.pl e (qK he).1;refine(JO _ _ _ _ _ _ s e (I.LK C6) he pl.1 pl.2.1).mono λout h7 hq=>?_;obtain⟨o,rfl,go,lo,F7,k7⟩:=hq;have C:=C6.aH k7;have A5:=(k7.old _ (aw C6.fr A4)).trans A4;obtain⟨FF,c7,_⟩:=C.c;simp only[CB.ob]at c7;have N:=(C.mv.aH _ _ U I.mx.1).1;have Au:=W.move C.mv;replace a:=a.at (Mv.k C6.fr k7)
   have FO:i<fl.length:=(aV.1 A).1;obtain⟨b7,FP,e7,_,C2⟩:=Au.resolve_left λe=>by omega
   injection e7 with e7 _;subst e7;obtain⟨fa,C4⟩:=yx fl i f A;have g:(i:Int)<(fl.length:Int):=om;have KB:=(aJ.refl h7).bump 19;by_cases hlen:e.ps.length=fl.length
   ·obtain⟨q,hq⟩:∃q,e.ps[i]?=some q:=⟨_,aj om⟩
    obtain⟨f1,f2,f3⟩:=FG e.ps i q hq;simp[hlen];refine Dd ?_;by_cases D:q.name=nm
    ·have u:(q.name==nm)=true:=(by simp[D]);have pk:pO S s nm fl i=(q.type,q.off):=by
      unfold pO;simp only[he,hq];rw[aY ⟨hlen,D⟩]
     simp only[pk]at a;simp[c7,N,hm,go,A5,g,f1,u];refine dl ?_;refine Dd ?_;simp[go,g,f2,f3];refine dm ?_;have C8:=KB.bump 12;exact a _ _ (C.aH C8) rfl (Mv.k C.fr C8)
    ·have u:(q.name==nm)=false:=(by simp[D]);have pk:pO S s nm fl i=(f.ty,0):=by
      unfold pO;simp only[he,hq,A];rw[ay λe=>D e.2]
     simp only[pk]at a;simp[c7,N,hm,go,A5,C2,C4,g,f1,u];refine dl ?_;exact a _ _ (C.aH KB) rfl (Mv.k C.fr KB)
   ·have pk:pO S s nm fl i=(f.ty,0):=by
     unfold pO;simp only[he,A];split
     ·rw[ay λe=>hlen e.1]
     ·rfl
    simp only[pk]at a;have F0:((e.ps.length:Int)==(fl.length:Int))=false:=(by rw[az];omega);have F1:((e.ps.length:Int) !=(fl.length:Int))=true:=(by rw[bne,F0];rfl);simp;refine Dd ?_;simp[c7,N,hm,F1,C2,C4,g];refine dl ?_;exact a _ _ (C.aH KB) rfl (Mv.k C.fr KB)
end
end
end Go.Proofs.YtaekaifihehgdaaGreatDoor
