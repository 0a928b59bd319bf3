/- Lemmas for CheckPlaces; each states its own conditions. -/
import Derived.Test.YtgebeldoibkkpaaGreatDoorD
set_option maxRecDepth 100000
set_option maxHeartbeats 0
set_option linter.unusedVariables false
set_option linter.unusedSimpArgs false
set_option linter.unusedSectionVars false
namespace Go.Proofs.YtgebeldoibkkpaaGreatDoor
open Go.Am Tryz
abbrev Pl:=Int×Int
inductive Ex where
 |num (p:Pl) (n:Int)
 |var (p:Pl) (s:List UInt8)
 |un (p:Pl) (op:List UInt8) (a:Ex)
 |bin (p:Pl) (op:List UInt8) (a b:Ex)
 |cast (p:Pl) (ty:List UInt8) (a:Ex)
 |call (p:Pl) (f:List UInt8) (xs:List Ex)
 |index (p:Pl) (a i:Ex)
 |mr (p:Pl) (nm:List UInt8) (a:Ex)
 |arrow (p:Pl) (nm:List UInt8) (a:Ex)
 |Cf (p:Pl)
 |size (p:Pl) (ty:List UInt8)
inductive fp where
 |block (p:Pl) (l:List fp)
 |empty (p:Pl)
 |decl (p:Pl) (ty nm:List UInt8) (e:Option Ex)
 |assign (p:Pl) (to e:Ex)
 |eval (p:Pl) (e:Ex)
 |ifs (p:Pl) (e:Ex) (s:fp)
 |LO (p:Pl) (e:Ex) (s t:fp)
 |LP (p:Pl) (e:Ex) (s:fp)
 |NP (p:Pl)
 |cont (p:Pl)
 |ret (p:Pl) (e:Option Ex)
 |out (p:Pl) (e:Ex)
abbrev Sm:=fp
structure Fd where
 ty:List UInt8
 nm:List UInt8
structure Pm where
 p:Pl
 Qp:Bool
 ty:List UInt8
 nm:List UInt8
inductive It where
 |struct (p:Pl) (nm:List UInt8) (fs:List Fd)
 |global (p:Pl) (ty nm:List UInt8)
 |func (p:Pl) (ty nm:List UInt8) (ps:List Pm) (b:Sm)
mutual
def Ex.dJ:Ex->Nat
 | .num _ _=>1
 | .var _ _=>1
 | .un _ _ a=>a.dJ+1
 | .bin _ _ a b=>max a.dJ b.dJ+1
 | .cast _ _ a=>a.dJ+1
 | .call _ _ xs=>nj xs+1
 | .index _ a i=>max a.dJ i.dJ+1
 | .mr _ _ a=>a.dJ+1
 | .arrow _ _ a=>a.dJ+1
 | .Cf _=>1
 | .size _ _=>1
def nj:List Ex->Nat
 |[]=>0
 |e::es=>max e.dJ (nj es)
end
mutual
def Ex.nodes:Ex->Nat
 | .num _ _=>1
 | .var _ _=>1
 | .un _ _ a=>a.nodes+1
 | .bin _ _ a b=>a.nodes+b.nodes+1
 | .cast _ _ a=>a.nodes+1
 | .call _ _ xs=>nz xs+1
 | .index _ a i=>a.nodes+i.nodes+1
 | .mr _ _ a=>a.nodes+1
 | .arrow _ _ a=>a.nodes+1
 | .Cf _=>1
 | .size _ _=>1
def nz:List Ex->Nat
 |[]=>0
 |e::es=>e.nodes+nz es
end
def Ex.kd:Ex->Int
 | .num ..=>1
 | .var ..=>2
 | .un ..=>3
 | .bin ..=>4
 | .cast ..=>5
 | .call ..=>6
 | .index ..=>7
 | .mr ..=>8
 | .arrow ..=>9
 | .Cf ..=>10
 | .size ..=>11
def Ex.pos:Ex->Pl
 | .num p _| .var p _| .un p _ _| .bin p _ _ _| .cast p _ _| .call p _ _| .index p _ _| .mr p _ _| .arrow p _ _| .Cf p| .size p _=>p
def Ex.Fw:Ex->List UInt8
 | .un _ o _| .bin _ o _ _=>o
 |_=>[]
def Ex.vV:Ex->List UInt8
 | .var _ s| .call _ s _| .mr _ s _| .arrow _ s _=>s
 |_=>[]
def Ex.nI:Ex->Int
 | .num _ n=>n
 |_=>0
def Ex.vW:Ex->List UInt8
 | .cast _ t _| .size _ t=>t
 |_=>[]
def Ex.args:Ex->List Ex
 | .un _ _ a| .cast _ _ a| .mr _ _ a| .arrow _ _ a=>[a]
 | .bin _ _ a b| .index _ a b=>[a,b]
 | .call _ _ xs=>xs
 |_=>[]
def tM:Option Ex->Nat
 |none=>0
 |some e=>e.dJ
def DT:Option Ex->Nat
 |none=>0
 |some e=>e.nodes
mutual
def fp.dJ:fp->Nat
 | .block _ l=>oO l+1
 | .empty _=>1
 | .decl _ _ _ e=>tM e+1
 | .assign _ to e=>max e.dJ to.dJ+1
 | .eval _ e=>e.dJ+1
 | .ifs _ e s=>max e.dJ s.dJ+1
 | .LO _ e s t=>max (max e.dJ s.dJ) t.dJ+1
 | .LP _ e s=>max e.dJ s.dJ+1
 | .NP _=>1
 | .cont _=>1
 | .ret _ e=>tM e+1
 | .out _ e=>e.dJ+1
def oO:List fp->Nat
 |[]=>0
 |s::l=>max s.dJ (oO l)
end
mutual
def fp.nodes:fp->Nat
 | .block _ l=>ft l+1
 | .empty _=>1
 | .decl _ _ _ e=>DT e+1
 | .assign _ to e=>to.nodes+e.nodes+1
 | .eval _ e=>e.nodes+1
 | .ifs _ e s=>e.nodes+s.nodes+1
 | .LO _ e s t=>e.nodes+s.nodes+t.nodes+1
 | .LP _ e s=>e.nodes+s.nodes+1
 | .NP _=>1
 | .cont _=>1
 | .ret _ e=>DT e+1
 | .out _ e=>e.nodes+1
def ft:List fp->Nat
 |[]=>0
 |s::l=>s.nodes+ft l
end
def fp.kd:fp->Int
 | .block ..=>1
 | .empty ..=>2
 | .decl ..=>3
 | .assign ..=>4
 | .eval ..=>5
 | .ifs ..=>6
 | .LO ..=>6
 | .LP ..=>7
 | .NP ..=>8
 | .cont ..=>9
 | .ret ..=>10
 | .out ..=>11
def fp.pos:fp->Pl
 | .block p _| .empty p| .decl p _ _ _| .assign p _ _| .eval p _| .ifs p _ _| .LO p _ _ _| .LP p _ _| .NP p| .cont p| .ret p _| .out p _=>p
def fp.vV:fp->List UInt8
 | .decl _ _ n _=>n
 |_=>[]
def fp.vW:fp->List UInt8
 | .decl _ t _ _=>t
 |_=>[]
def fp.eO:fp->Option Ex
 | .decl _ _ _ e=>e
 | .assign _ _ e=>some e
 | .eval _ e=>some e
 | .ifs _ e _=>some e
 | .LO _ e _ _=>some e
 | .LP _ e _=>some e
 | .ret _ e=>e
 | .out _ e=>some e
 |_=>none
def fp.LW:fp->Option Ex
 | .assign _ to _=>some to
 |_=>none
def fp.list:fp->List fp
 | .block _ l=>l
 | .ifs _ _ s=>[s]
 | .LO _ _ s t=>[s,t]
 | .LP _ _ s=>[s]
 |_=>[]
theorem Ex.Hs(e:Ex):e.dJ=nj e.args+1:=by cases e<;>simp[Ex.dJ,nj,Ex.args]
theorem Ex.uS(e:Ex):e.nodes=nz e.args+1:=by cases e<;>simp[Ex.nodes,nz,Ex.args]
theorem fp.Hs(s:fp):s.dJ=max (max (tM s.eO) (tM s.LW)) (oO s.list)+1:=by cases s<;>simp[fp.dJ,oO,fp.eO,fp.LW,fp.list,tM]<;>omega
theorem fp.uS(s:fp):s.nodes=DT s.eO+DT s.LW+ft s.list+1:=by cases s<;>simp[fp.nodes,ft,fp.eO,fp.LW,fp.list,DT]<;>omega
theorem Ao(a b:List Ex):nj (a++b)=max (nj a) (nj b):=by
 induction a with
 |nil=>simp[nj]
 |cons x a ih=>simp[nj,ih]<;>omega
theorem Uw(a b:List Ex):nz (a++b)=nz a+nz b:=by
 induction a with
 |nil=>simp[nz]
 |cons x a ih=>simp[nz,ih]<;>omega
theorem Ht(a b:List Sm):oO (a++b)=max (oO a) (oO b):=by
 induction a with
 |nil=>simp[oO]
 |cons x a ih=>simp[oO,ih]<;>omega
theorem Ux(a b:List Sm):ft (a++b)=ft a+ft b:=by
 induction a with
 |nil=>simp[ft]
 |cons x a ih=>simp[ft,ih]<;>omega
def du(ws:List Wo)(s:List UInt8):Bool:=match ws with
 |[]=>false
 |w::_=>(w.text==s)&&decide (3<=w.kind)
def anyS(ws:List Wo)(l:List (List UInt8)):Bool:=l.any (du ws)
structure ja(w:Wo)(s:List UInt8):Prop where
 t:w.text=s
 k:3<=w.kind
theorem uV{ws:List Wo}{s:List UInt8}:du ws s=true↔∃w r,ws=w::r/\ja w s:=by
 cases ws with
 |nil=>simp[du]
 |cons w r=>simp[du];exact⟨fun h=>⟨h.1,h.2⟩,fun h=>⟨h.1,h.2⟩⟩
theorem ja.du{w:Wo}{s s':List UInt8}{r:List Wo}(h:ja w s):Go.Proofs.YtgebeldoibkkpaaGreatDoor.du (w::r) s'=(s==s'):=by
 simp[Go.Proofs.YtgebeldoibkkpaaGreatDoor.du,h.t,h.k]
theorem jy{w:Wo}{ws:List Wo}{s:List UInt8}(h:w.kind<3):du (w::ws) s=false:=by
 have:¬3<=w.kind:=om
 simp[du,this]
def EP:List (List UInt8):=[[99,104,97,114],[105,110,116],[108,111,110,103],[118,111,105,100],[115,116,114,117,99,116]]
def Bf:List (List UInt8):=[[45],[126],[33],[42],[38]]
def oh:List (List (List UInt8)):=[[[124,124]],[[38,38]],[[124]],[[94]],[[38]],[[61,61],[33,61]],[[60],[60,61],[62],[62,61]],[[60,60],[62,62]],[[43],[45]],[[42],[47],[37]]]
def lK(ws:List Wo):Bool:=anyS ws EP
def pO(ws:List Wo):Nat->List (List (List UInt8))->Int
 |_,[]=>-1
 |i,l::r=>if anyS ws l=true then(i:Int)else pO ws (i+1) r
def kM(ws:List Wo):Int:=pO ws 0 oh
def JW(ws:List Wo):Bool:=anyS ws [[123],[59],[105,102],[119,104,105,108,101],[98,114,101,97,107],[99,111,110,116,105,110,117,101],[114,101,116,117,114,110],[111,117,116]]
def BS(n:Int):List UInt8:=rP 20 n.toNat
inductive sW:List Wo->List Wo->List UInt8->Prop where
 |done {ws:List Wo} (h:du ws [42]=false):sW ws ws []
 |star {w:Wo} {ws cq:List Wo} {s:List UInt8} (h:ja w [42]) (hr:sW ws cq s):sW (w::ws) cq (42::s)
inductive yz:List Wo->List Wo->List UInt8->Prop where
 |base {w:Wo} {ws cq:List Wo} {s:List UInt8} (h:lK (w::ws)=true) (hn:w.text≠[115,116,114,117,99,116]) (hs:sW ws cq s):yz (w::ws) cq (w.text++s)
 |struct {w n:Wo} {ws cq:List Wo} {s:List UInt8} (h:ja w [115,116,114,117,99,116]) (hn:n.kind=1) (hs:sW ws cq s):yz (w::n::ws) cq (([115,116,114,117,99,116,32]++n.text)++s)
inductive Kz:List Wo->List Wo->List UInt8->List UInt8->Prop where
 |none {ws:List Wo} {t:List UInt8} (h:du ws [91]=false):Kz ws ws t t
 |some {o n c:Wo} {ws:List Wo} {t:List UInt8} (h:ja o [91]) (hn:n.kind=2) (hc:ja c [93]):Kz (o::n::c::ws) ws t (t++[91]++BS n.n++[93])
def Wo.at(w:Wo):Pl:=(w.l,w.c)
def FM(el ec:Int):List Wo->Pl
 |[]=>(el,ec)
 |w::_=>(w.l,w.c)
def Pk:List Wo->Pl
 |[]=>(0,0)
 |w::_=>(w.l,w.c)
inductive Tag where
 |fw|args|kj (e:Ex)|un|bin (l:Nat)|steps (l:Nat) (e:Ex)|AF|Uy|dec|yi
inductive Re where
 |e (e:Ex)|es (l:List Ex)|s (s:Sm)|ss (l:List Sm)
inductive G:Tag->Nat->List Wo->List Wo->Re->Prop where
 |num {b:Nat} {w:Wo} {ws:List Wo} (h:w.kind=2):G .fw b (w::ws) ws (.e (.num w.at w.n))
 |var {b:Nat} {w:Wo} {ws:List Wo} (h:w.kind=1) (hs:du ws [40]=false):G .fw b (w::ws) ws (.e (.var w.at w.text))
 |FD {b:Nat} {w o c:Wo} {ws:List Wo} (h:w.kind=1) (ho:ja o [40]) (hc:ja c [41]):G .fw b (w::o::c::ws) ws (.e (.call w.at w.text []))
 |call {b:Nat} {w o:Wo} {ws cq:List Wo} {l:List Ex} (h:w.kind=1) (ho:ja o [40]) (hs:du ws [41]=false) (ha:G .args b ws cq (.es l)):G .fw (b+1) (w::o::ws) cq (.e (.call w.at w.text l))
 |paren {b:Nat} {o c:Wo} {ws cq:List Wo} {e:Ex} (ho:ja o [40]) (he:G (.bin 0) b ws (c::cq) (.e e)) (hc:ja c [41]):G .fw (b+1) (o::ws) cq (.e e)
 |Cf {b:Nat} {w o c:Wo} {ws:List Wo} (h:ja w [105,110]) (ho:ja o [40]) (hc:ja c [41]):G .fw b (w::o::c::ws) ws (.e (.Cf w.at))
 |size {b:Nat} {w o c:Wo} {ws cq eK:List Wo} {t t':List UInt8} (h:ja w [115,105,122,101,111,102]) (ho:ja o [40]) (ht:yz ws cq t) (ha:Kz cq (c::eK) t t') (hc:ja c [41]):G .fw b (w::o::ws) eK (.e (.size w.at t'))
 |yP {b:Nat} {c:Wo} {ws cq:List Wo} {e:Ex} (he:G (.bin 0) b ws (c::cq) (.e e)) (hc:ja c [41]):G .args b ws cq (.es [e])
 |L2 {b:Nat} {c:Wo} {ws cq eK:List Wo} {e:Ex} {l:List Ex} (he:G (.bin 0) b ws (c::cq) (.e e)) (hc:ja c [44]) (hr:G .args b cq eK (.es l)):G .args b ws eK (.es (e::l))
 |DU {b:Nat} {ws:List Wo} {e:Ex} (h:anyS ws [[91],[46],[45,62]]=false):G (.kj e) b ws ws (.e e)
 |L3 {b:Nat} {o c:Wo} {ws cq eK:List Wo} {e i e':Ex} (ho:ja o [91]) (he:G (.bin 0) b ws (c::cq) (.e i)) (hc:ja c [93]) (hs:G (.kj (.index o.at e i)) (b+1) cq eK (.e e')):G (.kj e) (b+1) (o::ws) eK (.e e')
 |L4 {b:Nat} {o n:Wo} {ws cq:List Wo} {e e':Ex} (ho:ja o [46]) (hn:n.kind=1) (hs:G (.kj (.mr o.at n.text e)) b ws cq (.e e')):G (.kj e) b (o::n::ws) cq (.e e')
 |L5 {b:Nat} {o n:Wo} {ws cq:List Wo} {e e':Ex} (ho:ja o [45,62]) (hn:n.kind=1) (hs:G (.kj (.arrow o.at n.text e)) b ws cq (.e e')):G (.kj e) b (o::n::ws) cq (.e e')
 |unop {b:Nat} {o:Wo} {ws cq:List Wo} {e:Ex} (ho:anyS (o::ws) Bf=true) (hu:G .un b ws cq (.e e)):G .un (b+1) (o::ws) cq (.e (.un o.at o.text e))
 |cast {b:Nat} {o c:Wo} {ws cq eK:List Wo} {e:Ex} {t:List UInt8} (ho:ja o [40]) (ht:lK ws=true) (hT:yz ws (c::cq) t) (hc:ja c [41]) (hu:G .un b cq eK (.e e)):G .un (b+1) (o::ws) eK (.e (.cast o.at t e))
 |post {b:Nat} {ws cq eK:List Wo} {e e':Ex} (h1:anyS ws Bf=false) (h2:du ws [40]=false\/lK ws.tail=false) (hp:G .fw b ws cq (.e e)) (hs:G (.kj e) b cq eK (.e e')):G .un b ws eK (.e e')
 |bin {b l:Nat} {ws cq eK:List Wo} {e e':Ex} (hu:G .un b ws cq (.e e)) (hs:G (.steps l e) b cq eK (.e e')) (hl:kM eK<l):G (.bin l) b ws eK (.e e')
 |stop {b l:Nat} {ws:List Wo} {e:Ex}:G (.steps l e) b ws ws (.e e)
 |step {b l n:Nat} {o:Wo} {ws cq eK:List Wo} {e r e':Ex} (ho:kM (o::ws)=n) (hl:l<=n) (hr:G (.bin (n+1)) b ws cq (.e r)) (hs:G (.steps l (.bin o.at o.text e r)) b cq eK (.e e')):G (.steps l e) b (o::ws) eK (.e e')
 |AF {b:Nat} {o:Wo} {ws cq:List Wo} {l:List Sm} (ho:ja o [123]) (hl:G .Uy b ws cq (.ss l)):G .AF b (o::ws) cq (.s (.block o.at l))
 |Jt {b:Nat} {c:Wo} {ws:List Wo} (hc:ja c [125]):G .Uy b (c::ws) ws (.ss [])
 |L6 {b:Nat} {ws cq eK:List Wo} {s:Sm} {l:List Sm} (hs:du ws [125]=false) (ht:lK ws=true) (hd:G .dec b ws cq (.s s)) (hl:G .Uy b cq eK (.ss l)):G .Uy b ws eK (.ss (s::l))
 |L7 {b:Nat} {ws cq eK:List Wo} {s:Sm} {l:List Sm} (hs:du ws [125]=false) (ht:lK ws=false) (hd:G .yi b ws cq (.s s)) (hl:G .Uy b cq eK (.ss l)):G .Uy b ws eK (.ss (s::l))
 |EM {b:Nat} {n c:Wo} {ws cq eK:List Wo} {t t':List UInt8} (ht:yz ws (n::cq) t) (hn:n.kind=1) (hs:du cq [61]=false) (ha:Kz cq (c::eK) t t') (hc:ja c [59]):G .dec b ws eK (.s (.decl n.at t' n.text none))
 |Hm {b:Nat} {n q c:Wo} {ws cq eK:List Wo} {t:List UInt8} {e:Ex} (ht:yz ws (n::q::cq) t) (hn:n.kind=1) (hq:ja q [61]) (he:G (.bin 0) b cq (c::eK) (.e e)) (hc:ja c [59]):G .dec (b+1) ws eK (.s (.decl n.at t n.text (some e)))
 |L8 {b:Nat} {ws cq:List Wo} {s:Sm} (hs:du ws [123]=true) (hb:G .AF b ws cq (.s s)):G .yi (b+1) ws cq (.s s)
 |L9 {b:Nat} {c:Wo} {ws:List Wo} (hc:ja c [59]):G .yi b (c::ws) ws (.s (.empty c.at))
 |YB {b:Nat} {i o c:Wo} {ws cq eK:List Wo} {e:Ex} {s:Sm} (hi:ja i [105,102]) (ho:ja o [40]) (he:G (.bin 0) b ws (c::cq) (.e e)) (hc:ja c [41]) (hs:G .yi b cq eK (.s s)) (hn:du eK [101,108,115,101]=false):G .yi (b+1) (i::o::ws) eK (.s (.ifs i.at e s))
 |JK {b:Nat} {i o c f:Wo} {ws cq eK N4:List Wo} {e:Ex} {s t:Sm} (hi:ja i [105,102]) (ho:ja o [40]) (he:G (.bin 0) b ws (c::cq) (.e e)) (hc:ja c [41]) (hs:G .yi b cq (f::eK) (.s s)) (hn:ja f [101,108,115,101]) (ht:G .yi b eK N4 (.s t)):G .yi (b+1) (i::o::ws) N4 (.s (.LO i.at e s t))
 |xq {b:Nat} {i o c:Wo} {ws cq eK:List Wo} {e:Ex} {s:Sm} (hi:ja i [119,104,105,108,101]) (ho:ja o [40]) (he:G (.bin 0) b ws (c::cq) (.e e)) (hc:ja c [41]) (hs:G .yi b cq eK (.s s)):G .yi (b+1) (i::o::ws) eK (.s (.LP i.at e s))
 |Ma {b:Nat} {i c:Wo} {ws:List Wo} (hi:ja i [98,114,101,97,107]) (hc:ja c [59]):G .yi b (i::c::ws) ws (.s (.NP i.at))
 |DV {b:Nat} {i c:Wo} {ws:List Wo} (hi:ja i [99,111,110,116,105,110,117,101]) (hc:ja c [59]):G .yi b (i::c::ws) ws (.s (.cont i.at))
 |DW {b:Nat} {i c:Wo} {ws:List Wo} (hi:ja i [114,101,116,117,114,110]) (hc:ja c [59]):G .yi b (i::c::ws) ws (.s (.ret i.at none))
 |DX {b:Nat} {i c:Wo} {ws cq:List Wo} {e:Ex} (hi:ja i [114,101,116,117,114,110]) (hs:du ws [59]=false) (he:G (.bin 0) b ws (c::cq) (.e e)) (hc:ja c [59]):G .yi (b+1) (i::ws) cq (.s (.ret i.at (some e)))
 |Mb {b:Nat} {i o c q:Wo} {ws cq:List Wo} {e:Ex} (hi:ja i [111,117,116]) (ho:ja o [40]) (he:G (.bin 0) b ws (c::q::cq) (.e e)) (hc:ja c [41]) (hq:ja q [59]):G .yi (b+1) (i::o::ws) cq (.s (.out i.at e))
 |Mc {b:Nat} {c:Wo} {ws cq:List Wo} {e:Ex} (hk:JW ws=false) (he:G (.bin 0) b ws (c::cq) (.e e)) (hc:ja c [59]):G .yi (b+1) ws cq (.s (.eval (Pk ws) e))
 |JL {b:Nat} {q c:Wo} {ws cq eK:List Wo} {to e:Ex} (hk:JW ws=false) (he:G (.bin 0) b ws (q::cq) (.e to)) (hq:ja q [61]) (hf:G (.bin 0) b cq (c::eK) (.e e)) (hc:ja c [59]):G .yi (b+1) ws eK (.s (.assign (Pk ws) to e))
theorem G.adN{t:Tag}{b:Nat}{ws dh:List Wo}{r:Re}(h:G t b ws dh r):G t (b+1) ws dh r:=by
 induction h with
 |num h=>exact .num h
 |var h hs=>exact .var h hs
 |FD h ho hc=>exact .FD h ho hc
 |call h ho hs _ ih=>exact .call h ho hs ih
 |paren ho _ hc ih=>exact .paren ho ih hc
 |Cf h ho hc=>exact .Cf h ho hc
 |size h ho ht ha hc=>exact .size h ho ht ha hc
 |yP _ hc ih=>exact .yP ih hc
 |L2 _ hc _ ih jR=>exact .L2 ih hc jR
 |DU h=>exact .DU h
 |L3 ho _ hc _ ih jR=>exact .L3 ho ih hc jR
 |L4 ho hn _ ih=>exact .L4 ho hn ih
 |L5 ho hn _ ih=>exact .L5 ho hn ih
 |unop ho _ ih=>exact .unop ho ih
 |cast ho ht hT hc _ ih=>exact .cast ho ht hT hc ih
 |post h1 h2 _ _ ih jR=>exact .post h1 h2 ih jR
 |bin _ _ hl ih jR=>exact .bin ih jR hl
 |stop=>exact .stop
 |step ho hl _ _ ih jR=>exact .step ho hl ih jR
 |AF ho _ ih=>exact .AF ho ih
 |Jt hc=>exact .Jt hc
 |L6 hs ht _ _ ih jR=>exact .L6 hs ht ih jR
 |L7 hs ht _ _ ih jR=>exact .L7 hs ht ih jR
 |EM ht hn hs ha hc=>exact .EM ht hn hs ha hc
 |Hm ht hn hq _ hc ih=>exact .Hm ht hn hq ih hc
 |L8 hs _ ih=>exact .L8 hs ih
 |L9 hc=>exact .L9 hc
 |YB hi ho _ hc _ hn ih jR=>exact .YB hi ho ih hc jR hn
 |JK hi ho _ hc _ hn _ ih jR ih3=>exact .JK hi ho ih hc jR hn ih3
 |xq hi ho _ hc _ ih jR=>exact .xq hi ho ih hc jR
 |Ma hi hc=>exact .Ma hi hc
 |DV hi hc=>exact .DV hi hc
 |DW hi hc=>exact .DW hi hc
 |DX hi hs _ hc ih=>exact .DX hi hs ih hc
 |Mb hi ho _ hc hq ih=>exact .Mb hi ho ih hc hq
 |Mc hk _ hc ih=>exact .Mc hk ih hc
 |JL hk _ hq _ hc ih jR=>exact .JL hk ih hq jR hc
theorem G.mono{t:Tag}{b b':Nat}{ws dh:List Wo}{r:Re}(h:G t b ws dh r)(hb:b<=b'):G t b' ws dh r:=by
 obtain⟨k,rfl⟩:=Nat.exists_eq_add_of_le hb;clear hb;induction k with
 |zero=>exact h
 |succ k ih=>exact ih.adN
theorem sW.kj{ws dh:List Wo}{s:List UInt8}(h:sW ws dh s):dh.length+s.length=ws.length:=by
 induction h with
 |done=>rfl
 |star _ _ ih=>simp only[ai];omega
theorem yz.kj{ws dh:List Wo}{s:List UInt8}(h:yz ws dh s):dh.length<ws.length:=by
 cases h with
 |base _ _ hs=>have:=hs.kj;simp only[ai];omega
 |struct _ _ hs=>have:=hs.kj;simp only[ai];omega
theorem Kz.kj{ws dh:List Wo}{t t':List UInt8}(h:Kz ws dh t t'):dh.length<=ws.length:=by
 cases h with
 |none=>exact ao _
 |some=>simp only[ai];omega
inductive Fields:List Wo->List Wo->List Fd->Prop where
 |done {c:Wo} {ws:List Wo} (hc:ja c [125]):Fields (c::ws) ws []
 |field {n c:Wo} {ws cq eK N4:List Wo} {t t':List UInt8} {l:List Fd} (hs:du ws [125]=false) (ht:yz ws (n::cq) t) (hn:n.kind=1) (ha:Kz cq (c::eK) t t') (hc:ja c [59]) (hr:Fields eK N4 l):Fields ws N4 (⟨t',n.text⟩::l)
inductive SQ:List Wo->List Wo->Bool->Prop where
 |no {ws:List Wo} (h:du ws [112,117,98,108,105,99]=false):SQ ws ws false
 |yes {w:Wo} {ws:List Wo} (h:ja w [112,117,98,108,105,99]):SQ (w::ws) ws true
inductive xu:List Wo->List Wo->List Pm->Prop where
 |one {n c:Wo} {ws cq eK:List Wo} {b:Bool} {t:List UInt8} (hp:SQ ws cq b) (ht:yz cq (n::c::eK) t) (hn:n.kind=1) (hc:ja c [41]):xu ws eK [⟨n.at,b,t,n.text⟩]
 |more {n c:Wo} {ws cq eK N4:List Wo} {b:Bool} {t:List UInt8} {l:List Pm} (hp:SQ ws cq b) (ht:yz cq (n::c::eK) t) (hn:n.kind=1) (hc:ja c [44]) (hr:xu eK N4 l):xu ws N4 (⟨n.at,b,t,n.text⟩::l)
inductive Item(b:Nat):List Wo->List Wo->It->Prop where
 |struct {w n o c:Wo} {ws cq:List Wo} {l:List Fd} (hw:ja w [115,116,114,117,99,116]) (hn:n.kind=1) (ho:ja o [123]) (hf:Fields ws (c::cq) l) (hc:ja c [59]):Item b (w::n::o::ws) cq (.struct w.at n.text l)
 |global {n c:Wo} {ws cq eK:List Wo} {t t':List UInt8} (ht:yz ws (n::cq) t) (hn:n.kind=1) (hs:du cq [40]=false) (ha:Kz cq (c::eK) t t') (hc:ja c [59]):Item b ws eK (.global n.at t' n.text)
 |func0 {n o c:Wo} {ws cq eK:List Wo} {t:List UInt8} {s:Sm} (ht:yz ws (n::o::c::cq) t) (hn:n.kind=1) (ho:ja o [40]) (hc:ja c [41]) (hb:G .AF b cq eK (.s s)):Item b ws eK (.func n.at t n.text [] s)
 |func {n o:Wo} {ws cq eK N4:List Wo} {t:List UInt8} {l:List Pm} {s:Sm} (ht:yz ws (n::o::cq) t) (hn:n.kind=1) (ho:ja o [40]) (hs:du cq [41]=false) (hp:xu cq eK l) (hb:G .AF b eK N4 (.s s)):Item b ws N4 (.func n.at t n.text l s)
inductive qf(b:Nat):List Wo->List It->Prop where
 |done:qf b [] []
 |item {ws cq:List Wo} {i:It} {l:List It} (hi:Item b ws cq i) (hr:qf b cq l):qf b ws (i::l)
def Tag.strict:Tag->Bool
 | .steps _ _=>false
 | .kj _=>false
 |_=>true
theorem G.len{t:Tag}{b:Nat}{ws dh:List Wo}{r:Re}(h:G t b ws dh r):dh.length<=ws.length/\(t.strict=true->dh.length<ws.length):=by
 induction h with
 |size h ho ht ha hc=>have a1:=ht.kj;have a2:=ha.kj;simp only[ai]at*;exact⟨om,fun _=>om⟩
 |EM ht hn hs ha hc=>have a1:=ht.kj;have a2:=ha.kj;simp only[ai]at*;exact⟨om,fun _=>om⟩
 |Hm ht hn hq _ hc ih=>have a1:=ht.kj;simp[Tag.strict]at*;omega
 |cast ho ht hT hc _ ih=>have a1:=hT.kj;simp[Tag.strict]at*;omega
 |_=>simp[Tag.strict]at*<;>omega
def Tag.agX:Tag->Nat
 | .steps _ e=>e.dJ
 | .kj e=>e.dJ
 |_=>0
def Tag.xv:Tag->Nat
 | .steps _ e=>e.nodes
 | .kj e=>e.nodes
 |_=>0
def Re.dJ:Re->Nat
 | .e x=>x.dJ
 | .es l=>nj l
 | .s x=>x.dJ
 | .ss l=>oO l
def Re.nodes:Re->Nat
 | .e x=>x.nodes
 | .es l=>nz l
 | .s x=>x.nodes
 | .ss l=>ft l
theorem G.nodes{t:Tag}{b:Nat}{ws dh:List Wo}{r:Re}(h:G t b ws dh r):r.nodes+dh.length<=t.xv+ws.length:=by
 induction h with
 |size h ho ht ha hc=>have a1:=ht.kj;have a2:=ha.kj;simp only[ai,Re.nodes,Tag.xv,Ex.nodes]at*;omega
 |EM ht hn hs ha hc=>have a1:=ht.kj;have a2:=ha.kj;simp only[ai,Re.nodes,Tag.xv,fp.nodes,DT]at*;omega
 |Hm ht hn hq _ hc ih=>have a1:=ht.kj;simp only[ai,Re.nodes,Tag.xv,fp.nodes,DT]at*;omega
 |cast ho ht hT hc _ ih=>have a1:=hT.kj;simp only[ai,Re.nodes,Tag.xv,Ex.nodes]at*;omega
 |_=>simp only[ai,Re.nodes,Tag.xv,Ex.nodes,nz,fp.nodes,ft,DT]at*<;>omega
def Tag.cap(t:Tag)(b:Nat)(n n':Nat)(k:Nat):Prop:=match t with
 | .steps _ e| .kj e=>∀m,2*e.dJ+n<=m->b+2+n<=m->2*k+n'<=m
 | .Uy=>2*k+n'<=n+b
 |_=>2*k+n'<=n+b+1
theorem G.dJ{t:Tag}{b:Nat}{ws dh:List Wo}{r:Re}(h:G t b ws dh r):t.cap b ws.length dh.length r.dJ:=by
 induction h with
 |size h ho ht ha hc=>have a1:=ht.kj;have a2:=ha.kj;simp only[ai,Re.dJ,Tag.cap,Ex.dJ]at*;omega
 |EM ht hn hs ha hc=>have a1:=ht.kj;have a2:=ha.kj;simp only[ai,Re.dJ,Tag.cap,fp.dJ,tM]at*;omega
 |Hm ht hn hq _ hc ih=>have a1:=ht.kj;simp only[ai,Re.dJ,Tag.cap,fp.dJ,tM]at*;omega
 |cast ho ht hT hc _ ih=>have a1:=hT.kj;simp only[ai,Re.dJ,Tag.cap,Ex.dJ]at*;omega
 |DU=>intro m h1 h2;exact h1
 |stop=>intro m h1 h2;exact h1
 |L3 ho he hc hs ih jR=>
  intro m h1 h2;have:=he.len.2 rfl;have:=hs.len.1;simp only[ai,Re.dJ,Tag.cap,Ex.dJ,Tag.strict]at*;exact jR m om om
 |L4 ho hn hs ih=>
  intro m h1 h2;simp only[ai,Re.dJ,Tag.cap,Ex.dJ]at*;exact ih m om om
 |L5 ho hn hs ih=>
  intro m h1 h2;simp only[ai,Re.dJ,Tag.cap,Ex.dJ]at*;exact ih m om om
 |step ho hl hr hs ih jR=>
  intro m h1 h2;have:=hr.len.2 rfl;simp only[ai,Re.dJ,Tag.cap,Ex.dJ,Tag.strict]at*;exact jR m om om
 |post h1 h2 hp hs ih jR=>
  have:=hp.len.2 rfl;simp only[Re.dJ,Tag.cap,Tag.strict]at*;exact jR _ om om
 |bin hu hs hl ih jR=>
  have:=hu.len.2 rfl;simp only[Re.dJ,Tag.cap,Tag.strict]at*;exact jR _ om om
 |L2 he hc hr ih jR=>have:=he.len.2 rfl;have:=hr.len.2 rfl;simp only[ai,Re.dJ,Tag.cap,nj,Tag.strict]at*;omega
 |L6 hs ht hd hl ih jR=>have:=hd.len.2 rfl;have:=hl.len.2 rfl;simp only[ai,Re.dJ,Tag.cap,oO,Tag.strict]at*;omega
 |L7 hs ht hd hl ih jR=>have:=hd.len.2 rfl;have:=hl.len.2 rfl;simp only[ai,Re.dJ,Tag.cap,oO,Tag.strict]at*;omega
 |YB hi ho he hc hs hn ih jR=>have:=he.len.2 rfl;have:=hs.len.2 rfl;simp only[ai,Re.dJ,Tag.cap,fp.dJ,Tag.strict]at*;omega
 |JK hi ho he hc hs hn ht ih jR ih3=>have:=he.len.2 rfl;have:=hs.len.2 rfl;have:=ht.len.2 rfl;simp only[ai,Re.dJ,Tag.cap,fp.dJ,Tag.strict]at*;omega
 |xq hi ho he hc hs ih jR=>have:=he.len.2 rfl;have:=hs.len.2 rfl;simp only[ai,Re.dJ,Tag.cap,fp.dJ,Tag.strict]at*;omega
 |JL hk he hq hf hc ih jR=>have:=he.len.2 rfl;have:=hf.len.2 rfl;simp only[ai,Re.dJ,Tag.cap,fp.dJ,Tag.strict]at*;omega
 |_=>simp only[ai,Re.dJ,Tag.cap,Ex.dJ,nj,fp.dJ,oO,tM]at*<;>omega
section
def fN(W:List Wo):List AV:=W.flatMap Wo.cells
theorem D1(W:List Wo):(fN W).length=5*W.length:=R1 W
theorem BV:∀(W:List Wo)(k:Nat),(fN W).drop (5*k)=fN (W.drop k)
 |W,0=>by simp
 |[],k+1=>by simp[fN]
 |w::W,k+1=>by
  have e:fN (w::W)=w.cells++fN W:=rfl;have e2:5*(k+1)=5*k+1+1+1+1+1:=by omega
  rw[e,e2];simp only[Wo.cells,bZ,cd,List.drop_succ_cons];exact BV W k
def PO(a k n:Nat)(el ec nd fn dp:Int):ej:= .C [.slice (some (a,5*k)) n,.I el,.I ec,.I nd,.I fn,.I dp,.N]
structure iD(r a:Nat)(W:List Wo)(el ec:Int)(k:Nat)(ws:List Wo)(nd fn dp:Nat)(h:ah):Prop where
 obj:h.get r=some (PO a k ws.length el ec nd fn dp)
 arr:h.get a=some (.cells true 5 (fN W))
 drop:W.drop k=ws
 len:k+ws.length=W.length
 ne:r≠a
 rl:r<h.next
 al:a<h.next
 fr:cM h
structure agc(W:List Wo)(k:Nat)(w:Wo):Prop where
 c0:(fN W)[5*k]?=some (.I w.kind)
 c1:(fN W)[5*k+1]?=some (.str w.text)
 c2:(fN W)[5*k+2]?=some (.I w.n)
 d0:((fN W).drop (5*k)).take 5=w.cells
 d3:((fN W).drop (5*k+3)).take 2=[.I w.l,.I w.c]
 l5:5*k+5<=(fN W).length
 l3:5*k+3+2<=(fN W).length
theorem yB{W:List Wo}{k:Nat}{w:Wo}{ws:List Wo}(h:W.drop k=w::ws):agc W k w:=by
 have e:(fN W).drop (5*k)=w.cells++fN ws:=by rw[BV,h];rfl
 have g:∀j,(fN W)[5*k+j]?=(w.cells++fN ws)[j]?:=fun j=>by rw[<-e,gQ]
 have l:5*k+5<=(fN W).length:=by
  have:=wz List.length h;rw[bU,ai]at this;rw[D1];omega
 refine⟨g 0,g 1,g 2,by rw[e];rfl,?_,l,l⟩;rw[<-List.drop_drop,e];rfl
section
variable{r a:Nat}{W:List Wo}{el ec:Int}{k:Nat}{ws:List Wo}{nd fn dp:Nat}{h:ah}
theorem agd(p:iD r a W el ec k ws nd fn dp h):
 aV env 47 [.P r] h (fun out h'=>out= .ret (.agg [.I (FM el ec ws).1,.I (FM el ec ws).2])/\aS h h'):=by
 refine wb fn47 rfl ?_;obtain⟨o,ar,dr,ln,ne,rl,al,fr⟩:=p;have rn:r≠h.next:=om
 have an:a≠h.next:=om
 cases ws with
 |nil=>
  simp[f47,o,PO,rn,rn.symm,FM];exact kT
 |cons w rs=>
  obtain⟨c0,c1,c2,d0,d3,l5,l3⟩:=yB dr;have z:((rs.length:Int)+1==0)=false:=by rw[aH];omega
  simp[f47,o,PO,rn,rn.symm,ar,an,an.symm,z,d3,l3,FM];exact kT
theorem WL(s:List UInt8)(p:iD r a W el ec k ws nd fn dp h):
 aV env 54 [.P r,.str s] h (fun out h'=>out= .ret (.bool (du ws s))/\h'=h):=by
 refine wb fn54 rfl ?_;obtain⟨o,ar,dr,ln,ne,rl,al,fr⟩:=p;cases ws with
 |nil=>
  simp[f54,o,PO,du]
 |cons w rs=>
  obtain⟨c0,c1,c2,d0,d3,l5,l3⟩:=yB dr;have z:((0:Int)<(rs.length:Int)+1):=by omega
  cases e1:(w.text==s)with
  |false=>
   simp[f54,o,PO,ar,z,c0,c1,du,e1]
  |true=>
   simp[f54,o,PO,ar,z,c0,c1,du,e1]
theorem iD.aJ(p:iD r a W el ec k ws nd fn dp h){h':ah}(kk:aS h h'):iD r a W el ec k ws nd fn dp h':=
 ⟨(kk.old r p.rl).trans p.obj,(kk.old a p.al).trans p.arr,p.drop,p.len,p.ne,aw p.rl kk.next,aw p.al kk.next,kk.fresh p.fr⟩
theorem iD.AG(p:iD r a W el ec k ws nd fn dp h){h':ah}(kx:aQ [r] h h'){k':Nat}{dh:List Wo}{Ih Bz dp':Nat}(o:h'.get r=some (PO a k' dh.length el ec Ih Bz dp'))(dr:W.drop k'=dh)(ln:k'+dh.length=W.length):iD r a W el ec k' dh Ih Bz dp' h':=
 ⟨o,(kx.old a p.al (by simp[p.ne.symm])).trans p.arr,dr,ln,p.ne,aw p.rl kx.next,aw p.al kx.next,kx.fresh p.fr⟩
theorem mX{W:List Wo}{k:Nat}{w:Wo}{ws:List Wo}(h:W.drop k=w::ws):W.drop (k+1)=ws:=by
 rw[<-List.drop_drop,h];rfl
theorem py{Q:Out->ah->Prop}{w:Wo}{rs:List Wo}(p:iD r a W el ec k (w::rs) nd fn dp h)(hQ:∀h',iD r a W el ec (k+1) rs nd fn dp h'->aQ [r] h h'->Q (.ret (.agg w.cells)) h'):aV env 56 [.P r] h Q:=by
 refine wb fn56 rfl ?_;have p0:=p;obtain⟨o,ar,dr,ln,ne,rl,al,fr⟩:=p;have rn:r≠h.next:=om
 have an:a≠h.next:=om
 have rn1:r≠h.next+1:=om
 have an1:a≠h.next+1:=om
 obtain⟨c0,c1,c2,d0,d3,l5,l3⟩:=yB dr;have z:((1:Int)<=(rs.length:Int)+1):=om
 have ne':=ne.symm;simp[f56,o,PO,rn,rn.symm,ar,an,an.symm,d0,l5,Wo.cells,z,rn1,an1,rn1.symm,an1.symm,ne,ne'];refine hQ _ (p0.AG ?_ ?_ (mX dr) ?_) ?_
 ·exact kX
 ·simp[o,PO,rn,rn1,ne];omega
 ·simp at ln;omega
 ·exact kX
theorem Od{w:Wo}{rs:List Wo}(p:iD r a W el ec k (w::rs) nd fn dp h):
 aV env 56 [.P r] h (fun out h'=>out= .ret (.agg w.cells)/\iD r a W el ec (k+1) rs nd fn dp h'/\aQ [r] h h'):=py p fun _ p k=>⟨rfl,p,k⟩
theorem S6{s:List UInt8}{w:Wo}{rs:List Wo}(p:iD r a W el ec k (w::rs) nd fn dp h)(hk:ja w s):
 aV env 48 [.P r,.str s] h (fun out h'=>out= .ret (.bool true)/\iD r a W el ec (k+1) rs nd fn dp h'/\aQ [r] h h'):=by
 refine wb fn48 rfl ?_;simp[f48];refine(WL s p).mono fun out h2 hq=>?_;obtain⟨rfl,rfl⟩:=hq;simp[hk.du];refine(Od p).mono fun out h3 hq=>?_;obtain⟨rfl,p3,k3⟩:=hq;simp;exact⟨p3,k3⟩
theorem YL(s:List UInt8)(p:iD r a W el ec k ws nd fn dp h)(hk:du ws s=false):
 aV env 48 [.P r,.str s] h (fun out h'=>out= .ret (.bool false)/\h'=h):=by
 refine wb fn48 rfl ?_;simp[f48];refine(WL s p).mono fun out h2 hq=>?_;obtain⟨rfl,rfl⟩:=hq;simp[hk]
theorem abb{s:List UInt8}{w:Wo}{rs:List Wo}(p:iD r a W el ec k (w::rs) nd fn dp h)(hk:ja w s):
 aV env 52 [.P r,.str s] h (fun out h'=>out= .ret (.iX [])/\iD r a W el ec (k+1) rs nd fn dp h'/\aQ [r] h h'):=by
 refine wb fn52 rfl ?_;simp[f52];refine(S6 p hk).mono fun out h3 hq=>?_;obtain⟨rfl,p3,k3⟩:=hq;simp;exact⟨p3,k3⟩
theorem WM{w:Wo}{rs:List Wo}(p:iD r a W el ec k (w::rs) nd fn dp h)(hk:w.kind=1):
 aV env 49 [.P r] h (fun out h'=>out= .ret (.str w.text)/\iD r a W el ec (k+1) rs nd fn dp h'/\aQ [r] h h'):=by
 refine wb fn49 rfl ?_;obtain⟨o,ar,dr,ln,ne,rl,al,fr⟩:=p;obtain⟨c0,c1,c2,d0,d3,l5,l3⟩:=yB dr;have z:((rs.length:Int)+1==0)=false:=by rw[aH];omega
 simp[f49,o,PO,ar,c0,hk,z];refine(Od ⟨o,ar,dr,ln,ne,rl,al,fr⟩).mono fun out h3 hq=>?_;obtain⟨rfl,p3,k3⟩:=hq;simp[Wo.cells];exact⟨p3,k3⟩
theorem YM(b n:Nat)(l:List (List UInt8))(rw:Bool)(hb:h.get b=some (.cells rw 1 (l.map AV.str)))(hl:l.length<=100)(p:iD r a W el ec k ws nd fn dp h):
 aV env 106 [.P r,.S b l.length] h (fun out h'=>out= .ret (.bool (anyS ws l))/\h'=h):=by
 refine wb fn106 rfl ?_;simp[f106];refine bW (fun m x=>∃i,i<=l.length/\m=l.length-i/\anyS ws (l.take i)=false/\x.n=17/\x.ds=[]/\x.bI=false/\x.h=h/\x.rg.get 0=some (.P r)/\x.rg.get 7=some (.S b l.length)/\x.rg.get 8=some (.I l.length)/\x.rg.get 9=some (.I i)) l.length ?_ ?_
 ·exact⟨0,om,rfl,by simp[anyS],rfl,rfl,rfl,rfl,sp,sp,sp,sp⟩
 rintro m ⟨rg,n,H,ds,bI⟩ ⟨i,hi,rfl,hn,e1,e2,e3,e4,r0,r7,r8,r9⟩
 dsimp only at e1 e2 e3 e4 r0 r7 r8 r9;subst e1 e2 e3 e4;by_cases cX:i<l.length
 ·have hx:(l.map AV.str)[i]?=some (.str l[i]):=by rw[bQ,aj cX];rfl
  have w1:IntKind.wrap .i64 ((i:Int)+1)=((i+1:Nat):Int):=by
   rw[wr om om];simp
  simp[r0,r7,r8,r9,cX,hb,hx];refine(WL _ p).mono fun out h2 hq=>?_;obtain⟨rfl,rfl⟩:=hq;have tk:l.take (i+1)=l.take i++[l[i]]:=by rw[dG,aj cX];rfl
  cases hs:du ws l[i]with
  |true=>
   have:anyS ws l=true:=qT.2 ⟨l[i],bK _,hs⟩;simp[this]
  |false=>
   simp[r0,r7,r8,r9,w1];exact⟨_,om,i+1,cX,rfl,by rw[tk];simp only[anyS,List.any_append]at hn⊢;rw[hn];simp[hs],sp⟩
 ·have np:i=l.length:=by omega
  subst np;rw[dH]at hn;simp[r8,r9,hn]
theorem WN(p:iD r a W el ec k ws nd fn dp h):
 aV env 78 [.P r] h (fun out h'=>out= .ret (.bool (lK ws))/\aS h h'):=by
 refine wb fn78 rfl ?_;simp[f78];have pk:=p.aJ ((aS.refl h).alloc (.cells true 1 (EP.map AV.str)));refine(YM _ 5 EP true (by simp[EP]) dc pk).mono fun out h3 hq=>?_;obtain⟨rfl,rfl⟩:=hq;simp[lK];exact kT
variable{Q:Out->ah->Prop}
theorem Bg(p:iD r a W el ec k ws nd fn dp h)(hQ:∀h',aS h h'->Q (.ret (.agg [.I (FM el ec ws).1,.I (FM el ec ws).2])) h'):aV env 47 [.P r] h Q:=
 (agd p).mono fun _ _ ⟨e,k⟩=>e▸hQ _ k
theorem ru(s:List UInt8)(p:iD r a W el ec k ws nd fn dp h)(hQ:Q (.ret (.bool (du ws s))) h):aV env 54 [.P r,.str s] h Q:=
 (WL s p).mono fun _ _ ⟨e,k⟩=>e▸k▸hQ
theorem gM{s:List UInt8}{w:Wo}{rs:List Wo}(p:iD r a W el ec k (w::rs) nd fn dp h)(hk:ja w s)(hQ:∀h',iD r a W el ec (k+1) rs nd fn dp h'->aQ [r] h h'->Q (.ret (.bool true)) h'):aV env 48 [.P r,.str s] h Q:=
 (S6 p hk).mono fun _ _ ⟨e,p,k⟩=>e▸hQ _ p k
theorem cW(s:List UInt8)(p:iD r a W el ec k ws nd fn dp h)(hk:du ws s=false)(hQ:Q (.ret (.bool false)) h):aV env 48 [.P r,.str s] h Q:=
 (YL s p hk).mono fun _ _ ⟨e,k⟩=>e▸k▸hQ
theorem jb{s:List UInt8}{w:Wo}{rs:List Wo}(p:iD r a W el ec k (w::rs) nd fn dp h)(hk:ja w s)(hQ:∀h',iD r a W el ec (k+1) rs nd fn dp h'->aQ [r] h h'->Q (.ret (.iX [])) h'):aV env 52 [.P r,.str s] h Q:=
 (abb p hk).mono fun _ _ ⟨e,p,k⟩=>e▸hQ _ p k
theorem pz{w:Wo}{rs:List Wo}(p:iD r a W el ec k (w::rs) nd fn dp h)(hk:w.kind=1)(hQ:∀h',iD r a W el ec (k+1) rs nd fn dp h'->aQ [r] h h'->Q (.ret (.str w.text)) h'):aV env 49 [.P r] h Q:=
 (WM p hk).mono fun _ _ ⟨e,p,k⟩=>e▸hQ _ p k
theorem qg(b:Nat)(l:List (List UInt8))(rw:Bool)(hb:h.get b=some (.cells rw 1 (l.map AV.str)))(hl:l.length<=100)(p:iD r a W el ec k ws nd fn dp h)(hQ:Q (.ret (.bool (anyS ws l))) h):
 aV env 106 [.P r,.S b l.length] h Q:=
 (YM b 0 l rw hb hl p).mono fun _ _ ⟨e,k⟩=>e▸k▸hQ
theorem Ap(p:iD r a W el ec k ws nd fn dp h)(hQ:∀h',aS h h'->Q (.ret (.bool (lK ws))) h'):aV env 78 [.P r] h Q:=
 (WN p).mono fun _ _ ⟨e,k⟩=>e▸hQ _ k
end
attribute [local simp] aI
structure S7(W:List Wo):Prop where
 len:W.length<=250
 text:∀w,w∈W->w.text.length<=65536
 num:∀w,w∈W->0<=w.n/\w.n<9223372036854775808
section
variable{Q:Out->ah->Prop}{r a:Nat}{W:List Wo}{el ec:Int}{k:Nat}{ws:List Wo}{nd fn dp:Nat}{h:ah}
theorem iD.mem(p:iD r a W el ec k ws nd fn dp h){w:Wo}(hw:w∈ws):w∈W:=wA (p.drop▸hw)
theorem xZ(h:ah)(r:Nat):aV env 55 [.P r,.bool true] h (fun out h'=>out= .ret (.iX [])/\h'=h):=by
 refine wb fn55 rfl ?_;simp[f55]
theorem D2(p:iD r a W el ec k ws nd fn dp h)(hd:dp+1<=800)
 (hQ:∀b h',h'.get b=some (.C [.P r])->h.next<=b->b<h'.next->iD r a W el ec k ws nd fn (dp+1) h'->aQ [r] h h'->Q (.ret (.func 113 [.P b])) h'):
 aV env 81 [.P r] h Q:=by
 refine wb fn81 rfl ?_;have p0:=p;obtain⟨o,ar,dr,ln,ne,rl,al,fr⟩:=p;have rn:r≠h.next:=om
 have an:a≠h.next:=om
 have ne':=ne.symm;have w1:IntKind.wrap .i64 ((dp:Int)+1)=((dp+1:Nat):Int):=by
  rw[wr om om];simp
 have g1:(dp:Int)+1<=800:=om
 simp[f81,o,PO,rn,rn.symm,w1];refine Dd ?_;simp[rn,rn.symm,g1];have y0:=rn.symm;repeat refine di ?_
 refine(xZ _ _).mono fun out h2 hq=>?_;obtain⟨rfl,rfl⟩:=hq;simp;refine⟨dd,?_⟩;refine hQ h.next _ (by simp[rn,rn.symm]) om sp (p0.AG ?_ (by simp[PO]) dr ln) ?_
 all_goals exact kX
theorem iE(p:iD r a W el ec k ws nd fn (dp+1) h)(b:Nat)(hb:h.get b=some (.C [.P r]))(hd:dp<=800)(q:Option AV)(Q:Option AV->ah->Prop)
 (hQ:∀h',iD r a W el ec k ws nd fn dp h'->aQ [r] h h'->Q q h'):lz env 113 [.P b] h q Q:=by
 refine lz.mk fn113.1 rfl (iJ rfl) ?_;have p0:=p;obtain⟨o,ar,dr,ln,ne,rl,al,fr⟩:=p;have ne':=ne.symm;have w1:IntKind.wrap .i64 (dp:Int)=(dp:Int):=wr om om;refine WS.region kr ?_;simp[hb,o,PO,w1];refine hQ _ (p0.AG ?_ (by simp[PO]) dr ln) ?_
 all_goals exact kX
theorem S8(p:iD r a W el ec k ws nd fn dp h)(t:Nat)(hn:nd+1<=20000)(ht:t<=200)
 (hQ:∀h',iD r a W el ec k ws (nd+1) fn dp h'->aQ [r] h h'->Q (.ret (.I t)) h'):aV env 116 [.P r,.I t] h Q:=by
 refine wb fn116 rfl ?_;have p0:=p;obtain⟨o,ar,dr,ln,ne,rl,al,fr⟩:=p;have ne':=ne.symm;have w1:IntKind.wrap .i64 ((nd:Int)+1)=((nd+1:Nat):Int):=by
  rw[wr om om];simp
 have g1:(nd:Int)+1<=20000:=om
 have g2:(t:Int)<=200:=om
 simp[f116,o,PO,w1,g1,g2];refine(xZ _ _).mono fun out h2 hq=>?_;obtain⟨rfl,rfl⟩:=hq;simp;refine hQ _ (p0.AG ?_ (by simp[PO]) dr ln) ?_
 all_goals exact kX
theorem Hu{dh:List Wo}{s0:List UInt8}(hs:sW ws dh s0)(base:List UInt8)(p:iD r a W el ec k ws nd fn dp h)(hW:W.length<=250)(hb:base.length<=100000)
 (hQ:∀k' h',iD r a W el ec k' dh nd fn dp h'->aQ [r] h h'->Q (.ret (.str (base++s0))) h'):aV env 53 [.P r,.str base] h Q:=by
 refine wb fn53 rfl ?_;have Ee:=p.len;simp[f53];refine bW (fun m x=>∃i k' cs s,m=cs.length/\i+cs.length<=ws.length/\sW cs dh s/\s0=List.replicate i 42++s/\x.n=14/\x.ds=[]/\x.bI=false/\iD r a W el ec k' cs nd fn dp x.h/\aQ [r] h x.h/\x.rg.get 0=some (.P r)/\x.rg.get 1=some (.str base)/\x.rg.get 5=some (.I (i:Nat))) ws.length ?_ ?_
 ·exact⟨0,k,ws,s0,rfl,om,hs,rfl,rfl,rfl,rfl,p,aQ.refl _ _,sp,sp,sp⟩
 rintro m ⟨rg,n,H,ds,bI⟩ ⟨i,k',cs,s,rfl,hi,fI,KI,e1,e2,e3,p1,k1,r0,r1,r5⟩
 dsimp only at e1 e2 e3 p1 k1 r0 r1 r5;subst e1 e2 e3;have w1:IntKind.wrap .i64 ((i:Int)+1)=((i+1:Nat):Int):=by
  rw[wr om om];simp
 cases fI with
 |done tf=>
  simp[r0];refine(YL _ p1 tf).mono fun out h2 hq=>?_;obtain⟨rfl,rfl⟩:=hq;simp[r1,r5];refine aV.fw pr80 (show eJ GY [.str [42],.I (i:Nat)] _=_ from by simp[eJ,GY];rw[aW om]) ?_;have hle:base.length+i<=4611686018427387904:=by omega
  simp[r1,hle];simp at KI;have Aq:=hQ _ _ p1 k1;rw[KI]at Aq;exact Aq
 |star hw hr=>
  simp[r0];refine(S6 p1 hw).mono fun out h2 hq=>?_;obtain⟨rfl,p2,k2⟩:=hq;simp[r5,w1,r0,r1];simp at hi;exact⟨_,om,i+1,k'+1,_,rfl,om,_,hr,by rw[KI,List.replicate_succ',cj];rfl,p2,k1.trans k2,sp⟩
end
section
variable{Q:Out->ah->Prop}{r a:Nat}{W:List Wo}{el ec:Int}{k:Nat}{ws:List Wo}{nd fn dp:Nat}{h:ah}
theorem yz.adO{ws dh:List Wo}{s:List UInt8}(ok:S7 W)(ht:yz ws dh s)(hm:∀w,w∈ws->w∈W)(hl:ws.length<=250):s.length<=66000:=by
 cases ht with
 |@base w cq _ s h hn hs=>
  have:=hs.kj;have:=ok.text w (hm w sp);simp only[ai,bO]at*;omega
 |@struct w n cq _ s h hn hs=>
  have:=hs.kj;have:=ok.text n (hm n sp);simp only[ai,bO,bz]at*;omega
theorem D3{dh:List Wo}{s0:List UInt8}(ok:S7 W)(ht:yz ws dh s0)(p:iD r a W el ec k ws nd fn dp h)
 (hQ:∀k' h',s0.length<=66000->iD r a W el ec k' dh nd fn dp h'->aQ [r] h h'->Q (.ret (.str s0)) h'):aV env 50 [.P r] h Q:=by
 refine wb fn50 rfl ?_;have YN:=ht.adO ok (fun w hw=>p.mem hw) (by have:=p.len;have:=ok.len;omega);simp[f50];refine Ap p fun h1 k1=>?_;have p1:=p.aJ k1;cases ht with
 |@base w cq _ s1 HX jX fI=>
  have age:(w.text==[115,116,114,117,99,116])=false:=aH.2 jX;simp[HX];refine py p1 fun h2 p2 k2=>?_;simp[Wo.cells,age];have k3:=(aS.refl h2).alloc (.C [.I 0,.str [],.I 0,.I 0,.I 0]);have k4:aS h2 ((h2.alloc (.C [.I 0,.str [],.I 0,.I 0,.I 0])).2.set h2.next (.C w.cells)):=kT;have hlen:=ok.text w (p.mem (aY ..));refine Hu fI w.text (p2.aJ k4) ok.len om fun k' h5 p5 k5=>?_;simp;exact hQ _ _ YN p5 (((k1.x _).trans k2).trans ((k4.x _).trans k5))
 |@struct w n cq _ s1 hk hn fI=>
  have HX:lK (w::n::cq)=true:=by simp[lK,anyS,EP,hk.du]
  simp[HX];refine py p1 fun h2 p2 k2=>?_;simp[Wo.cells,hk.t];have k4:aS h2 ((h2.alloc (.C [.I 0,.str [],.I 0,.I 0,.I 0])).2.set h2.next (.C [.I w.kind,.str [115,116,114,117,99,116],.I w.n,.I w.l,.I w.c])):=kT;have hlen:=ok.text n (p.mem sp);refine pz (p2.aJ k4) hn fun h3 p3 k3=>?_;have hle:7+n.text.length<=4611686018427387904:=by omega
  have Q6:n.text.length+7<=4611686018427387904:=by omega
  simp[hle,Q6];refine Hu fI _ p3 ok.len (by simp;omega) fun k' h5 p5 k5=>?_;simp;simp at hQ;exact hQ _ _ (by simp at YN;omega) p5 (((k1.x _).trans k2).trans ((k4.x _).trans (k3.trans k5)))
theorem xr:∀(f n:Nat),(rP f n).length<=f
 |0,n=>by simp[rP]
 |f+1,n=>by
  have:=xr f (n/10);unfold rP;cases Nat.blt n 10<;>simp[cond]<;>omega
theorem S9{w:Wo}{rs:List Wo}(ok:S7 W)(p:iD r a W el ec k (w::rs) nd fn dp h)(hk:w.kind=2)
 (hQ:∀h',iD r a W el ec (k+1) rs nd fn dp h'->aQ [r] h h'->Q (.ret (.str (BS w.n))) h'):aV env 79 [.P r] h Q:=by
 refine wb fn79 rfl ?_;have p0:=p;obtain⟨o,ar,dr,ln,ne,rl,al,fr⟩:=p;obtain⟨c0,c1,c2,d0,d3,l5,l3⟩:=yB dr;have z:((rs.length:Int)+1==0)=false:=by rw[aH];omega
 have abc:=ok.num w (p0.mem sp);simp[f79,o,PO,ar,c0,hk,z];refine py p0 fun h2 p2 k2=>?_;simp[Wo.cells];refine wb fn107 rfl ?_;simp[f107];obtain⟨m,hm⟩:∃m:Nat,w.n=(m:Int):=⟨w.n.toNat,om⟩
 have QV:m<9223372036854775808:=om
 rw[hm];refine aV.fw pr139 (show xT [.I (.ofNat m),.I (.ofNat 10)] h2=some (.ret (.str (rP 20 m)),h2)from by
  have:Nat.blt m 9223372036854775808=true:=by rw[mz];exact QV
  simp only[xT,this];rfl) ?_
 simp;have hd:BS w.n=rP 20 m:=by rw[hm];rfl
 rw[hd]at hQ;exact hQ _ p2 k2
theorem Ar{dh:List Wo}{s s':List UInt8}(ok:S7 W)(ht:Kz ws dh s s')(hs:s.length<=67000)(p:iD r a W el ec k ws nd fn dp h)
 (hQ:∀k' h',s'.length<=68000->iD r a W el ec k' dh nd fn dp h'->aQ [r] h h'->Q (.ret (.str s')) h'):aV env 51 [.P r,.str s] h Q:=by
 refine wb fn51 rfl ?_;simp[f51];cases ht with
 |none tf=>
  refine cW _ p tf ?_;simp;exact hQ _ _ om p (aQ.refl _ _)
 |@some o n c _ _ ho hn hc=>
  refine gM p ho fun h2 p2 k2=>?_;simp;refine S9 ok p2 hn fun h3 p3 k3=>?_;simp;refine jb p3 hc fun h4 p4 k4=>?_;have hd:(BS n.n).length<=20:=xr 20 _;simp at hQ;generalize BS n.n=d at*;have l1:s.length+1<=4611686018427387904:=by omega
  have l2:s.length+(d.length+1)<=4611686018427387904:=by omega
  have l3:s.length+1+d.length<=4611686018427387904:=by omega
  have l4:s.length+(1+d.length)<=4611686018427387904:=by omega
  have l5:s.length+(d.length+1+1)<=4611686018427387904:=by omega
  have l6:s.length+(d.length+(1+1))<=4611686018427387904:=by omega
  have l7:s.length+(d.length+2)<=4611686018427387904:=by omega
  simp[l1,l2,l3,l4,l5,l6,l7];exact hQ _ _ om p4 (k2.trans (k3.trans k4))
end
end
section
attribute [local simp] aI
theorem au{h:ah}(f:cM h){i:Nat}{o:ej}(g:h.get i=some o):i<h.next:=by
 rcases eW i h.next with h1|h1
 ·exact h1
 ·rw[f i h1]at g;cases g
def dP{α:Type}(X:List Nat)(h:ah)(av:AV)(qs:List (Nat×α)):Prop:=
 (qs=[]/\av= .Z)\/∃b,av= .S b qs.length/\b∉X/\h.get b=some (.cells true 1 (qs.map fun p=> .P p.1))
def Ex.dx(e:Ex)(av:AV)(t:Nat):List AV:=[.I e.kd,.I e.pos.1,.I e.pos.2,.str e.Fw,.str e.vV,.I e.nI,.str e.vW,av,.I t]
inductive jV(X:List Nat)(h:ah):Nat->Ex->Prop where
 |mk {id:Nat} {e:Ex} {av:AV} {qs:List (Nat×Ex)} (obj:h.get id=some (.C (e.dx av e.dJ))) (nx:id∉X) (arr:dP X h av qs) (ha:qs.map Prod.snd=e.args) (sub:∀p,p∈qs->jV X h p.1 p.2):jV X h id e
def tK(X:List Nat)(h:ah)(v:AV)(o:Option Ex):Prop:=(v= .N/\o=none)\/∃id e,v= .P id/\o=some e/\jV X h id e
def fp.dx(s:Sm)(ev tv lv:AV)(t:Nat):List AV:=[.I s.kd,.I s.pos.1,.I s.pos.2,.str s.vV,.str s.vW,ev,tv,lv,.I t]
inductive uT(X:List Nat)(h:ah):Nat->Sm->Prop where
 |mk {id:Nat} {s:Sm} {ev tv lv:AV} {qs:List (Nat×Sm)} (obj:h.get id=some (.C (s.dx ev tv lv s.dJ))) (nx:id∉X) (he:tK X h ev s.eO) (ho:tK X h tv s.LW) (arr:dP X h lv qs) (ha:qs.map Prod.snd=s.list) (sub:∀p,p∈qs->uT X h p.1 p.2):uT X h id s
structure Move(X Y:List Nat)(h h':ah):Prop where
 aJ:∀i o,h.get i=some o->i∉X->h'.get i=some o/\i∉Y
theorem Move.of{X Y Z:List Nat}{h h':ah}(f:cM h)(k:aQ Z h h')(hZ:∀z,z∈Z->z<h.next->z∈X)(hY:∀y,y∈Y->y∈X\/h.next<=y):Move X Y h h':=
 ⟨fun i o g hi=>by
  have cX:=au f g;refine⟨(k.old i cX fun hz=>hi (hZ i hz cX)).trans g,fun hy=>?_⟩;rcases hY i hy with h1|h1
  ·exact hi h1
  ·omega⟩
theorem dP.move{α:Type}{X Y:List Nat}{h h':ah}(s:Move X Y h h'){av:AV}{qs:List (Nat×α)}(p:dP X h av qs):dP Y h' av qs:=by
 rcases p with p|⟨b,e,hb,g⟩
 ·exact .inl p
 ·exact .inr ⟨b,e,(s.aJ _ _ g hb).2,(s.aJ _ _ g hb).1⟩
theorem jV.move{X Y:List Nat}{h h':ah}(s:Move X Y h h'){id:Nat}{t:Ex}(e:jV X h id t):jV Y h' id t:=by
 induction e with
 |mk obj nx arr ha sub ih=>exact .mk (s.aJ _ _ obj nx).1 (s.aJ _ _ obj nx).2 (arr.move s) ha ih
theorem tK.move{X Y:List Nat}{h h':ah}(s:Move X Y h h'){v:AV}{o:Option Ex}(e:tK X h v o):tK Y h' v o:=by
 rcases e with e|⟨id,e,h1,h2,h3⟩
 ·exact .inl e
 ·exact .inr ⟨id,e,h1,h2,h3.move s⟩
theorem uT.move{X Y:List Nat}{h h':ah}(s:Move X Y h h'){id:Nat}{t:Sm}(e:uT X h id t):uT Y h' id t:=by
 induction e with
 |mk obj nx he ho arr ha sub ih=>exact .mk (s.aJ _ _ obj nx).1 (s.aJ _ _ obj nx).2 (he.move s) (ho.move s) (arr.move s) ha ih
structure Bh(r:Nat)(X:List Nat)(h:ah):Prop where
 r:r∈X
 lt:∀x,x∈X->x<h.next
theorem Bh.nx{r:Nat}{X:List Nat}{h:ah}(x:Bh r X h){i:Nat}(hi:h.next<=i):i∉X:=fun hx=>by have:=x.lt i hx;omega
theorem Bh.le{r:Nat}{X:List Nat}{h h':ah}(x:Bh r X h)(hl:h.next<=h'.next):Bh r X h':=⟨x.r,fun y hy=>aw (x.lt y hy) hl⟩
theorem Move.r{r:Nat}{X:List Nat}{h h':ah}(f:cM h)(x:Bh r X h)(k:aQ [r] h h'):Move X X h h':=
 Move.of f k (fun z hz _=>by simp at hz;subst hz;exact x.r) fun _ hy=> .inl hy
theorem Move.k{X:List Nat}{h h':ah}(f:cM h)(k:aS h h'):Move X X h h':=Move.of f (k.x []) sp fun _ hy=> .inl hy
theorem jV.cell{X:List Nat}{h:ah}{id:Nat}{t:Ex}(e:jV X h id t):∃cs:List AV,h.get id=some (.C cs)/\cs.length=9/\cs[8]?=some (.I t.dJ):=by
 cases e with
 |mk obj=>exact⟨_,obj,rfl,rfl⟩
theorem uT.cell{X:List Nat}{h:ah}{id:Nat}{t:Sm}(e:uT X h id t):∃cs:List AV,h.get id=some (.C cs)/\cs.length=9/\cs[8]?=some (.I t.dJ):=by
 cases e with
 |mk obj=>exact⟨_,obj,rfl,rfl⟩
section
variable{X:List Nat}{Q:Out->ah->Prop}{r a:Nat}{W:List Wo}{el ec:Int}{k:Nat}{ws:List Wo}{nd fn dp:Nat}{h:ah}
theorem rz(e:Ex)(av:AV)(qs:List (Nat×Ex))(p:iD r a W el ec k ws nd fn dp h)(xo:Bh r X h)(arr:dP X h av qs)(ha:qs.map Prod.snd=e.args)(sub:∀q,q∈qs->jV X h q.1 q.2)(hM2:e.dJ<=200)(la:qs.length<=300)(hn:nd+1<=20000)
 (hQ:∀id h',jV X h' id e->iD r a W el ec k ws (nd+1) fn dp h'->aQ [r] h h'->Q (.ret (.P id)) h'):
 aV env 146 [.P r,.agg [.I e.kd,.I e.pos.1,.I e.pos.2,.str e.Fw,.str e.vV,.I e.nI,.str e.vW,av,.I 0]] h Q:=by
 refine wb fn146 rfl ?_;have xL:av.scalar=true:=by rcases arr with⟨_,rfl⟩|⟨b,rfl,_,_⟩<;>rfl
 have fr:=p.fr;have hr:=p.rl;have rn:r≠h.next:=om
 obtain⟨ab,rQ⟩:∃ab,av= .slice ab qs.length:=by
  rcases arr with⟨rfl,rfl⟩|⟨b,rfl,_,_⟩
  ·exact⟨none,rfl⟩
  ·exact⟨some (b,0),rfl⟩
 have hte:=e.Hs;rw[<-ha]at hte;simp[f146,xL,rQ];refine bW (fun m x=>∃i,i<=qs.length/\m=qs.length-i/\x.n=29/\x.ds=[]/\x.bI=false/\aS h x.h/\h.next<x.h.next/\x.h.get h.next=some (.C (e.dx av (nj ((qs.map Prod.snd).take i))))/\
  x.rg.get 0=some (.P r)/\x.rg.get 3=some (.P h.next)/\x.rg.get 8=some av/\x.rg.get 9=some (.I qs.length)/\x.rg.get 10=some (.I i)) qs.length ?_ ?_
 ·exact⟨0,om,rfl,rfl,rfl,rfl,(aS.refl h).alloc _,sp,by simp[rQ,Ex.dx,nj],sp,sp,by simp[rQ],sp,sp⟩
 rintro m ⟨rg,n',H,ds,bI⟩ ⟨i,hi,rfl,e1,e2,e3,k1,nx,go,r0,r3,r8,r9,qp⟩
 dsimp only at e1 e2 e3 k1 nx go r0 r3 r8 r9 qp;subst e1 e2 e3;simp only[Ex.dx]at go;by_cases cX:i<qs.length
 ·obtain⟨b,rfl,gb⟩:∃b,av= .S b qs.length/\h.get b=some (.cells true 1 (qs.map fun p=> .P p.1)):=by
   rcases arr with⟨rfl,_⟩|⟨b,e,_,g⟩
   ·simp at cX
   ·exact⟨b,e,g⟩
  have VV:=(k1.old b (au fr gb)).trans gb;have hx:(qs.map fun p=>AV.P p.1)[i]?=some (.P qs[i].1):=by rw[bQ,aj cX];rfl
  obtain⟨cs,gc,lc,c8⟩:=(sub qs[i] (bK _)).cell;have gc':=(k1.old _ (au fr gc)).trans gc;have ne:qs[i].1≠h.next:=Nat.ne_of_lt (au fr gc);have w1:IntKind.wrap .i64 ((i:Int)+1)=((i+1:Nat):Int):=by
   rw[wr om om];simp
  have tk:nj ((qs.map Prod.snd).take (i+1))=max (nj ((qs.map Prod.snd).take i)) qs[i].2.dJ:=by
   rw[dG,bQ,aj cX,Ao];simp[nj]
  simp[r0,r3,r8,r9,qp,cX,VV,hx];refine Dd ?_;simp[r0,r3,r8,r9,qp,gc',go,c8]
  repeat refine di ?_
  simp[r0,r3,r8,r9,qp,w1];refine⟨_,om,i+1,cX,rfl,?_,om,?_,rfl⟩
  ·exact kT
  ·simp only[Ex.dx];rw[tk];simp;split<;>congr 1<;>omega
 ·have np:i=qs.length:=by omega
  subst np;have hl:qs.length=(qs.map Prod.snd).length:=by simp
  have tl:(qs.map Prod.snd).take qs.length=qs.map Prod.snd:=by rw[hl,dH]
  rw[tl]at go;have w1:IntKind.wrap .i64 ((nj (qs.map Prod.snd):Int)+1)=(e.dJ:Int):=by
   rw[wr om om];omega
  simp[r0,r3,r8,r9,qp,go,w1];refine S8 (p.aJ k1) e.dJ hn om fun h2 p2 k2=>?_;have go2:=(k2.old _ nx (by simp;omega)).trans go;have n2:=k2.next;simp[go2,r3];have kx:aQ [r] h h2:=(k1.x _).trans k2;have kf:aQ [r] h (h2.set h.next (.C (e.dx av e.dJ))):=kX;have p3:iD r a W el ec k ws (nd+1) fn dp (h2.set h.next (.C (e.dx av e.dJ))):=
   p.AG kf (by have:=p2.obj;simp[rn];exact this) p2.drop p2.len
  have mv:=Move.r fr xo kf;exact hQ h.next _ (jV.mk (e:=e) (av:=av) (qs:=qs) (by simp[Ex.dx]) (xo.nx (ao _)) (arr.move mv) ha fun q hq=>(sub q hq).move mv) p3 kf
end
end
section
attribute [local simp] aI
section
variable{X:List Nat}{Q:Out->ah->Prop}{r a:Nat}{W:List Wo}{el ec:Int}{k:Nat}{ws:List Wo}{nd fn dp:Nat}{h:ah}
theorem tK.sc{v:AV}{o:Option Ex}(e:tK X h v o):v.scalar=true/\v.cells=[v]:=by
 rcases e with⟨rfl,_⟩|⟨id,e,rfl,h2,h3⟩<;>exact⟨rfl,rfl⟩
theorem abd(s:Sm)(ev tv lv:AV)(ss:List (Nat×Sm))(p:iD r a W el ec k ws nd fn dp h)(xo:Bh r X h)(he:tK X h ev s.eO)(ho:tK X h tv s.LW)(arr:dP X h lv ss)(ha:ss.map Prod.snd=s.list)(sub:∀q,q∈ss->uT X h q.1 q.2)(hM2:s.dJ<=200)(la:ss.length<=300)(hn:nd+1<=20000)
 (hQ:∀id h',uT X h' id s->iD r a W el ec k ws (nd+1) fn dp h'->aQ [r] h h'->Q (.ret (.P id)) h'):
 aV env 84 [.P r,.agg [.I s.kd,.I s.pos.1,.I s.pos.2,.str s.vV,.str s.vW,ev,tv,lv,.I 0]] h Q:=by
 refine wb fn84 rfl ?_;have xL:lv.scalar=true:=by rcases arr with⟨_,rfl⟩|⟨b,rfl,_,_⟩<;>rfl
 have fr:=p.fr;have hr:=p.rl;have rn:r≠h.next:=om
 obtain⟨pe,rfl⟩:∃pe,ev= .ptr pe:=by rcases he with⟨rfl,_⟩|⟨id,e,rfl,_,_⟩<;>exact⟨_,rfl⟩
 obtain⟨pt,rfl⟩:∃pt,tv= .ptr pt:=by rcases ho with⟨rfl,_⟩|⟨id,e,rfl,_,_⟩<;>exact⟨_,rfl⟩
 obtain⟨ab,rfl⟩:∃ab,lv= .slice ab ss.length:=by
  rcases arr with⟨rfl,rfl⟩|⟨b,rfl,_,_⟩
  ·exact⟨none,rfl⟩
  ·exact⟨some (b,0),rfl⟩
 have hte:=s.Hs;rw[<-ha]at hte;simp[f84];refine bW (fun m x=>∃i T,i<=2/\m=2-i/\(i=0->T=0)/\(i=1->T=tM s.eO)/\(i=2->T=max (tM s.eO) (tM s.LW))/\x.n=52/\x.ds=[]/\x.bI=false/\aS h x.h/\h.next+1<x.h.next/\x.h.get h.next=some (.C (s.dx (.ptr pe) (.ptr pt) (.slice ab ss.length) T))/\x.h.get (h.next+1)=some (.cells true 1 [(.ptr pe),(.ptr pt)])/\
  x.rg.get 0=some (.P r)/\x.rg.get 3=some (.P h.next)/\x.rg.get 13=some (.S (h.next+1) 2)/\x.rg.get 14=some (.I 2)/\x.rg.get 15=some (.I i)) 2 ?_ ?_
 ·exact⟨0,0,om,rfl,fun _=>rfl,sp,sp,rfl,rfl,rfl,((aS.refl h).alloc _).alloc _,sp,by simp[fp.dx],sp,sp,sp,sp,sp,sp⟩
 ·rintro m ⟨rg,n',H,ds,bI⟩ ⟨i,T,hi,rfl,hT0,hT1,hT2,e1,e2,e3,k1,nx,go,ga,r0,r3,NL,YO,zg⟩
  dsimp only at e1 e2 e3 k1 nx go ga r0 r3 NL YO zg;subst e1 e2 e3;simp only[fp.dx]at go;by_cases cX:i<2
  ·have xx:(i:Int)<2:=om;have w1:IntKind.wrap .i64 ((i:Int)+1)=((i+1:Nat):Int):=by
    rw[wr om om];simp
   obtain⟨v,o,hx,hv,Oe⟩:∃v o,([(.ptr pe),(.ptr pt)]:List AV)[i]?=some v/\tK X h v o/\∀T',T'=max T (tM o)->(i+1=0->T'=0)/\(i+1=1->T'=tM s.eO)/\(i+1=2->T'=max (tM s.eO) (tM s.LW)):=by
    obtain h0|h1:i=0\/i=1:=by omega
    ·subst h0;exact⟨(.ptr pe),_,rfl,he,fun T' h=>⟨om,fun _=>by rw[h,hT0 rfl];simp,om⟩⟩
    ·subst h1;exact⟨(.ptr pt),_,rfl,ho,fun T' h=>⟨om,om,fun _=>by rw[h,hT1 rfl]⟩⟩
   simp[r0,r3,NL,YO,zg,xx,ga,hx];rcases hv with⟨rfl,rfl⟩|⟨e,te,rfl,rfl,XL⟩
   ·simp[r0,r3,NL,YO,zg,w1];obtain⟨n0,n1,n2⟩:=Oe T (by simp[tM]);exact⟨_,om,i+1,om,rfl,T,n0,fun e=>n1 om,fun e=>n2 om,k1,nx,by rw[go];rfl,ga,rfl⟩
   ·obtain⟨cs,gc,lc,c8⟩:=XL.cell;have gc':=(k1.old _ (au fr gc)).trans gc;have ne:e≠h.next:=Nat.ne_of_lt (au fr gc);simp[r0,r3,NL,YO,zg,w1];refine Dd ?_;simp[r0,r3,NL,YO,zg,gc',go,c8]
    repeat refine di ?_
    simp[r0,r3,NL,YO,zg,w1];obtain⟨n0,n1,n2⟩:=Oe (max T te.dJ) (by simp[tM]);refine⟨_,om,i+1,om,rfl,max T te.dJ,n0,fun e=>n1 om,fun e=>n2 om,?_,om,?_,ga,rfl⟩
    ·exact kT
    ·simp[fp.dx];split<;>congr 1<;>omega
  ·have np:i=2:=om;subst np;have hT:=hT2 rfl;simp[r0,r3,NL,YO,zg,go];clear ga NL YO zg hT0 hT1 hT2 cX hi;have YI:=r0;have r3':=r3;clear r0 r3;refine bW (fun m x=>∃i T,i<=ss.length/\m=ss.length-i/\T=max (max (tM s.eO) (tM s.LW)) (oO ((ss.map Prod.snd).take i))/\x.n=52/\x.ds=[]/\x.bI=false/\aS h x.h/\h.next<x.h.next/\x.h.get h.next=some (.C (s.dx (.ptr pe) (.ptr pt) (.slice ab ss.length) T))/\
    x.rg.get 0=some (.P r)/\x.rg.get 3=some (.P h.next)/\x.rg.get 31=some (.slice ab ss.length)/\x.rg.get 32=some (.I ss.length)/\x.rg.get 33=some (.I i)) ss.length ?_ ?_
   ·exact⟨0,T,om,rfl,by simp[hT,oO],rfl,rfl,rfl,k1,by dsimp only;omega,by rw[go];rfl,by simp[YI],by simp[r3'],sp,sp,sp⟩
   clear k1 nx go YI r3' rg H hT T
   rintro m ⟨rg,n',H,ds,bI⟩ ⟨i,T,hi,rfl,hT,e1,e2,e3,k1,nx,go,r0,r3,Of,Mm,Mn⟩
   dsimp only at e1 e2 e3 k1 nx go r0 r3 Of Mm Mn;subst e1 e2 e3;simp only[fp.dx]at go;by_cases cX:i<ss.length
   ·obtain⟨b,rfl,gb⟩:∃b,ab=some (b,0)/\h.get b=some (.cells true 1 (ss.map fun p=> .P p.1)):=by
     rcases arr with⟨rfl,_⟩|⟨b,e,_,g⟩
     ·simp at cX
     ·simp at e;exact⟨b,e,g⟩
    have VV:=(k1.old b (au fr gb)).trans gb;have hx:(ss.map fun p=>AV.P p.1)[i]?=some (.P ss[i].1):=(by rw[bQ,aj cX];rfl);obtain⟨cs,gc,lc,c8⟩:=(sub ss[i] (bK _)).cell;have gc':=(k1.old _ (au fr gc)).trans gc;have ne:ss[i].1≠h.next:=Nat.ne_of_lt (au fr gc);have w1:IntKind.wrap .i64 ((i:Int)+1)=((i+1:Nat):Int):=by
     rw[wr om om];simp
    simp[r0,r3,Of,Mm,Mn,cX,VV,hx];refine Dd ?_;simp[r0,r3,Of,Mm,Mn,gc',go,c8]
    repeat refine di ?_
    simp[r0,r3,Of,Mm,Mn,w1];have tk:oO ((ss.map Prod.snd).take (i+1))=max (oO ((ss.map Prod.snd).take i)) ss[i].2.dJ:=by
     rw[dG,bQ,aj cX,Ht];simp[oO]
    refine⟨_,om,i+1,cX,rfl,?_,om,?_,rfl⟩
    ·exact kT
    ·have hT3:max (tM s.eO) (max (tM s.LW) (oO ((ss.map Prod.snd).take (i+1))))=max T ss[i].2.dJ:=(by rw[tk];omega);simp[fp.dx,hT3];split<;>congr 1<;>omega
   ·have np:i=ss.length:=om;subst np;have hl:ss.length=(ss.map Prod.snd).length:=sp;have tl:(ss.map Prod.snd).take ss.length=ss.map Prod.snd:=(by rw[hl,dH]);rw[tl]at hT;have w1:IntKind.wrap .i64 ((T:Int)+1)=(s.dJ:Int):=by
     rw[wr om om];omega
    simp[r0,r3,Of,Mm,Mn,go,w1];refine S8 (p.aJ k1) s.dJ hn om fun h2 p2 k2=>?_;have go2:=(k2.old _ nx (by simp;omega)).trans go;have n2:=k2.next;simp[go2,r3];have kx:aQ [r] h h2:=(k1.x _).trans k2;have kf:aQ [r] h (h2.set h.next (.C (s.dx (.ptr pe) (.ptr pt) (.slice ab ss.length) s.dJ))):=kX;have p3:iD r a W el ec k ws (nd+1) fn dp (h2.set h.next (.C (s.dx (.ptr pe) (.ptr pt) (.slice ab ss.length) s.dJ))):=
     p.AG kf (by have:=p2.obj;simp[rn];exact this) p2.drop p2.len
    have mv:=Move.r fr xo kf;exact hQ h.next _ (uT.mk (s:=s) (ev:= .ptr pe) (tv:= .ptr pt) (lv:= .slice ab ss.length) (qs:=ss) (by simp[fp.dx]) (xo.nx (ao _)) (he.move mv) (ho.move mv) (arr.move mv) ha fun q hq=>(sub q hq).move mv) p3 kf
end
end
section
attribute [local simp] aI
section
variable{X:List Nat}{Q:Out->ah->Prop}{r a:Nat}{W:List Wo}{el ec:Int}{k:Nat}{ws:List Wo}{nd fn dp:Nat}{h:ah}
theorem WO(p:iD r a W el ec k ws nd fn dp h)(hQ:∀h',aS h h'->Q (.ret (.I (kM ws))) h'):aV env 145 [.P r] h Q:=by
 refine wb fn145 rfl ?_;have Aq:∀h',aS h h'->Q (.ret (.I (kM ws))) h':=hQ;have rl:=p.rl;simp[f145];have k1:aS h ((((((((((h.alloc (.cells true 1 [.str [124,124]])).2.alloc (.cells true 1 [.str [38,38]])).2.alloc (.cells true 1 [.str [124]])).2.alloc (.cells true 1 [.str [94]])).2.alloc (.cells true 1 [.str [38]])).2.alloc (.cells true 1 [.str [61,61],.str [33,61]])).2.alloc (.cells true 1 [.str [60],.str [60,61],.str [62],.str [62,61]])).2.alloc (.cells true 1 [.str [60,60],.str [62,62]])).2.alloc (.cells true 1 [.str [43],.str [45]])).2.alloc (.cells true 1 [.str [42],.str [47],.str [37]])).2:=kT;have p1:=p.aJ k1;refine bW (fun m x=>∃i:Nat,i<=10/\m=10-i/\pO ws i (oh.drop i)=kM ws/\x.n=25/\x.ds=[]/\x.bI=false/\x.h=((((((((((h.alloc (.cells true 1 [.str [124,124]])).2.alloc (.cells true 1 [.str [38,38]])).2.alloc (.cells true 1 [.str [124]])).2.alloc (.cells true 1 [.str [94]])).2.alloc (.cells true 1 [.str [38]])).2.alloc (.cells true 1 [.str [61,61],.str [33,61]])).2.alloc (.cells true 1 [.str [60],.str [60,61],.str [62],.str [62,61]])).2.alloc (.cells true 1 [.str [60,60],.str [62,62]])).2.alloc (.cells true 1 [.str [43],.str [45]])).2.alloc (.cells true 1 [.str [42],.str [47],.str [37]])).2/\
  x.rg.get 0=some (.P r)/\x.rg.get 15=some (.agg [.S h.next 1,.S (h.next+1) 1,.S (h.next+2) 1,.S (h.next+3) 1,.S (h.next+4) 1,.S (h.next+5) 2,.S (h.next+6) 4,.S (h.next+7) 2,.S (h.next+8) 2,.S (h.next+9) 3])/\x.rg.get 16=some (.I (i:Nat))) 10 ?_ ?_
 ·exact⟨0,om,rfl,rfl,rfl,rfl,rfl,rfl,sp,sp,sp⟩
 rintro m ⟨rg,n,H,ds,bI⟩ ⟨i,hi,rfl,hl,e1,e2,e3,e4,r0,zg,zx⟩
 dsimp only at e1 e2 e3 e4 r0 zg zx;subst e1 e2 e3 e4;by_cases cX:i<10
 ·obtain h0|h1|h2|h3|h4|h5|h6|h7|h8|h9:i=0\/i=1\/i=2\/i=3\/i=4\/i=5\/i=6\/i=7\/i=8\/i=9:=by omega
  ·subst h0;simp[oh,pO]at hl;simp[r0,zg,zx];refine qg (h.next) [[124,124]] true sp dc p1 ?_;cases hs:anyS ws [[124,124]]with
   |true=>
    simp[hs]at hl;simp[hl];exact Aq _ k1
   |false=>
    simp[hs]at hl;simp[r0,zg,zx];refine⟨_,?_,1,om,rfl,by simp[oh,pO,hl],?_⟩<;>(try omega)<;>first|rfl|simp
  ·subst h1;simp[oh,pO]at hl;simp[r0,zg,zx];refine qg (h.next+1) [[38,38]] true sp dc p1 ?_;cases hs:anyS ws [[38,38]]with
   |true=>
    simp[hs]at hl;simp[hl];exact Aq _ k1
   |false=>
    simp[hs]at hl;simp[r0,zg,zx];refine⟨_,?_,2,om,rfl,by simp[oh,pO,hl],?_⟩<;>(try omega)<;>first|rfl|simp
  ·subst h2;simp[oh,pO]at hl;simp[r0,zg,zx];refine qg (h.next+2) [[124]] true sp dc p1 ?_;cases hs:anyS ws [[124]]with
   |true=>
    simp[hs]at hl;simp[hl];exact Aq _ k1
   |false=>
    simp[hs]at hl;simp[r0,zg,zx];refine⟨_,?_,3,om,rfl,by simp[oh,pO,hl],?_⟩<;>(try omega)<;>first|rfl|simp
  ·subst h3;simp[oh,pO]at hl;simp[r0,zg,zx];refine qg (h.next+3) [[94]] true sp dc p1 ?_;cases hs:anyS ws [[94]]with
   |true=>
    simp[hs]at hl;simp[hl];exact Aq _ k1
   |false=>
    simp[hs]at hl;simp[r0,zg,zx];refine⟨_,?_,4,om,rfl,by simp[oh,pO,hl],?_⟩<;>(try omega)<;>first|rfl|simp
  ·subst h4;simp[oh,pO]at hl;simp[r0,zg,zx];refine qg (h.next+4) [[38]] true sp dc p1 ?_;cases hs:anyS ws [[38]]with
   |true=>
    simp[hs]at hl;simp[hl];exact Aq _ k1
   |false=>
    simp[hs]at hl;simp[r0,zg,zx];refine⟨_,?_,5,om,rfl,by simp[oh,pO,hl],?_⟩<;>(try omega)<;>first|rfl|simp
  ·subst h5;simp[oh,pO]at hl;simp[r0,zg,zx];refine qg (h.next+5) [[61,61],[33,61]] true sp dc p1 ?_;cases hs:anyS ws [[61,61],[33,61]]with
   |true=>
    simp[hs]at hl;simp[hl];exact Aq _ k1
   |false=>
    simp[hs]at hl;simp[r0,zg,zx];refine⟨_,?_,6,om,rfl,by simp[oh,pO,hl],?_⟩<;>(try omega)<;>first|rfl|simp
  ·subst h6;simp[oh,pO]at hl;simp[r0,zg,zx];refine qg (h.next+6) [[60],[60,61],[62],[62,61]] true sp dc p1 ?_;cases hs:anyS ws [[60],[60,61],[62],[62,61]]with
   |true=>
    simp[hs]at hl;simp[hl];exact Aq _ k1
   |false=>
    simp[hs]at hl;simp[r0,zg,zx];refine⟨_,?_,7,om,rfl,by simp[oh,pO,hl],?_⟩<;>(try omega)<;>first|rfl|simp
  ·subst h7;simp[oh,pO]at hl;simp[r0,zg,zx];refine qg (h.next+7) [[60,60],[62,62]] true sp dc p1 ?_;cases hs:anyS ws [[60,60],[62,62]]with
   |true=>
    simp[hs]at hl;simp[hl];exact Aq _ k1
   |false=>
    simp[hs]at hl;simp[r0,zg,zx];refine⟨_,?_,8,om,rfl,by simp[oh,pO,hl],?_⟩<;>(try omega)<;>first|rfl|simp
  ·subst h8;simp[oh,pO]at hl;simp[r0,zg,zx];refine qg (h.next+8) [[43],[45]] true sp dc p1 ?_;cases hs:anyS ws [[43],[45]]with
   |true=>
    simp[hs]at hl;simp[hl];exact Aq _ k1
   |false=>
    simp[hs]at hl;simp[r0,zg,zx];refine⟨_,?_,9,om,rfl,by simp[oh,pO,hl],?_⟩<;>(try omega)<;>first|rfl|simp
  ·subst h9;simp[oh,pO]at hl;simp[r0,zg,zx];refine qg (h.next+9) [[42],[47],[37]] true sp dc p1 ?_;cases hs:anyS ws [[42],[47],[37]]with
   |true=>
    simp[hs]at hl;simp[hl];exact Aq _ k1
   |false=>
    simp[hs]at hl;simp[r0,zg,zx];refine⟨10,om,rfl,by simp[oh,pO,hl],?_⟩<;>(try omega)<;>first|rfl|simp
 ·have e:i=10:=by omega
  subst e;simp[oh,pO]at hl;simp[r0,zg,zx,<-hl];rw[hl];exact Aq _ k1
end
end
section
attribute [local simp] aI
attribute [simp] Ex.kd Ex.pos Ex.Fw Ex.vV Ex.nI Ex.vW Ex.args Ex.dJ nj
def JX(f:FuncId)(extra:List AV)(Ta b:Nat)(ws dh:List Wo)(e:Ex):Prop:=
 ∀(r a:Nat)(W:List Wo)(el ec:Int)(k nd fn dp:Nat)(h:ah)(X:List Nat)(Q:Out->ah->Prop),S7 W->iD r a W el ec k ws nd fn dp h->Bh r X h->nd+ws.length<=1000->dp+2*ws.length<=Ta->b<=40->
  (∀id k' Ih h',jV X h' id e->2*e.dJ+dh.length<=ws.length+b+1->Ih+dh.length<=nd+ws.length->iD r a W el ec k' dh Ih fn dp h'->aQ [r] h h'->Q (.ret (.P id)) h')->aV env f (.P r::extra) h Q
def Tb(f:FuncId)(Ta b:Nat)(ws dh:List Wo)(s:Sm):Prop:=
 ∀(r a:Nat)(W:List Wo)(el ec:Int)(k nd fn dp:Nat)(h:ah)(X:List Nat)(Q:Out->ah->Prop),S7 W->iD r a W el ec k ws nd fn dp h->Bh r X h->nd+ws.length<=1000->dp+2*ws.length<=Ta->b<=40->
  (∀id k' Ih h',uT X h' id s->2*s.dJ+dh.length<=ws.length+b+1->Ih+dh.length<=nd+ws.length->iD r a W el ec k' dh Ih fn dp h'->aQ [r] h h'->Q (.ret (.P id)) h')->aV env f [.P r] h Q
def Spec:Tag->Nat->List Wo->List Wo->Re->Prop
 | .un,b,ws,dh,.e e=>JX 144 [] 600 b ws dh e
 | .bin l,b,ws,dh,.e e=>JX 114 [.I l] 600 b ws dh e
 | .fw,b,ws,dh,.e e=>JX 206 [] 601 b ws dh e
 | .yi,b,ws,dh,.s s=>Tb 83 599 b ws dh s
 | .AF,b,ws,dh,.s s=>Tb 57 600 b ws dh s
 | .dec,b,ws,dh,.s s=>Tb 82 599 b ws dh s
 |_,_,_,_,_=>True
def rB:Tag->Nat
 | .un=>1
 | .bin _=>2
 | .AF=>3
 | .yi=>4
 |_=>0
def nC(t:Tag)(ws:List Wo):Nat:=5*ws.length+rB t
def Hv(m:Nat):Prop:=∀(t:Tag)(b:Nat)(ws dh:List Wo)(r:Re),nC t ws<m->G t b ws dh r->Spec t b ws dh r
section
variable{X:List Nat}{Q:Out->ah->Prop}{r a:Nat}{W:List Wo}{el ec:Int}{k:Nat}{ws:List Wo}{nd fn dp:Nat}{h:ah}
theorem Move.new{h:ah}{i:Nat}(o:ej)(g:h.get i=none):Move X X h (h.set i o):=
 ⟨fun j u gj hj=>⟨by rw[ah.aM,az (by rintro rfl;rw[g]at gj;cases gj)];exact gj,hj⟩⟩
theorem iD.new(p:iD r a W el ec k ws nd fn dp h){i:Nat}(o:ej)(g:h.get i=none)(hi:i<h.next):iD r a W el ec k ws nd fn dp (h.set i o):=
 ⟨by rw[ah.aM,az (by rintro rfl;rw[p.obj]at g;cases g)];exact p.obj,by rw[ah.aM,az (by rintro rfl;rw[p.arr]at g;cases g)];exact p.arr,p.drop,p.len,p.ne,p.rl,p.al,
  fun j hj=>by
   have hj:h.next<=j:=hj;rw[ah.aM,az om];exact p.fr j hj⟩
theorem Bh.x(xo:Bh r X h){h':ah}(kx:aQ [r] h h'):Bh r X h':=xo.le kx.next
theorem WQ{P:Nat×Ex->Prop}{x:Nat×Ex}(h:P x):∀q,q∈[x]->P q:=by simpa using h
theorem adP{P:Nat×Ex->Prop}{x y:Nat×Ex}(h:P x)(h':P y):∀q,q∈[x,y]->P q:=by
 intro q hq;simp only[aq,bd,cT]at hq;rcases hq with rfl|rfl
 ·exact h
 ·exact h'
theorem xy{b:Nat}{o c:Wo}{cq:List Wo}{e:Ex}(ho:ja o [40])(hs:JX 114 [.I 0] 600 b ws (c::cq) e)(hc:ja c [41])(ok:S7 W)(p:iD r a W el ec k (o::ws) nd fn dp h)(xo:Bh r X h)
 (hn:nd+ws.length<=999) (hd:dp+2*ws.length<=600) (hb:b<=40)
 (hQ:∀id k' Ih h',jV X h' id e->2*e.dJ+cq.length<=ws.length+b->Ih+cq.length+1<=nd+ws.length->iD r a W el ec k' cq Ih fn dp h'->aQ [r] h h'->Q (.ret (.P id)) h'):
 aV env 115 [.P r] h Q:=by
 refine wb fn115 rfl ?_;simp[f115];refine jb p ho fun h2 p2 k2=>?_;simp;refine hs r a W el ec _ nd fn dp h2 X _ ok p2 (xo.x k2) om hd hb fun id k3 nd3 h3 e3 l3 n3 p3 FN=>?_;simp;refine jb p3 hc fun h4 p4 k4=>?_;simp only[ai]at l3 n3;simp;exact hQ _ _ _ _ (e3.move (Move.r p3.fr ((xo.x k2).x FN) k4)) om om p4 (k2.trans (FN.trans k4))
theorem FR:∀ws:List Wo,-1<=kM ws/\kM ws<=9:=fun ws=>by
 simp only[kM,oh,pO]
 repeat' split
 all_goals omega
theorem Tc{l b:Nat}{dh:List Wo}{re:Re}(IH:Hv (nC (.bin l) ws))(hG:G (.bin l) b ws dh re):Spec (.bin l) b ws dh re:=by
 cases hG with
 |@bin _ _ _ JY _ e0 ee hu hs hl=>
 intro r a W el ec k nd fn dp h X Q ok p xo hn hd hb hQ;refine wb fn114 rfl ?_;have lu:=hu.len;simp[Tag.strict]at lu;simp[f114];refine IH .un b ws JY _ (by simp[nC,rB]) hu r a W el ec k nd fn dp h X _ ok p xo hn hd hb fun id k1 zy h1 e1 l1 n1 p1 Mo=>?_;simp;refine bW (fun m x=>∃id e k1 zy cs,m=cs.length/\cs.length<ws.length/\G (.steps l e) b cs dh (.e ee)/\x.n=31/\x.ds=[]/\x.bI=false/\jV X x.h id e/\2*e.dJ+cs.length<=ws.length+b+1/\zy+cs.length<=nd+ws.length/\iD r a W el ec k1 cs zy fn dp x.h/\aQ [r] h x.h/\
  x.rg.get 0=some (.P r)/\x.rg.get 1=some (.I l)/\x.rg.get 5=some (.P id)) JY.length ?_ ?_
 ·exact⟨id,e0,k1,zy,JY,rfl,om,hs,rfl,rfl,rfl,e1,l1,n1,p1,Mo,sp,sp,sp⟩
 clear e1 l1 n1 p1 Mo hs lu hu id k1 zy h1 e0
 rintro m ⟨rg,n,H,ds,bI⟩ ⟨id,e,k1,zy,cs,rfl,cX,fI,x1,x2,x3,e1,l1,n1,p1,Mo,r0,r1,r5⟩
 dsimp only at x1 x2 x3 e1 p1 Mo r0 r1 r5;subst x1 x2 x3;simp[r0];refine WO p1 fun h2 k2=>?_;have p2:=p1.aJ k2;cases fI with
 |stop=>
  simp[r0,r1,r5,hl];exact hQ _ _ _ _ (e1.move (Move.k p1.fr k2)) l1 n1 p2 (Mo.trans (k2.x _))
 |@step _ _ lv o cq eK _ _ er _ ho hle hr hs=>
  have hlv:=FR (o::cq);rw[ho]at hlv;have By:¬(lv:Int)<(l:Int):=by omega
  have w1:IntKind.wrap .i64 ((lv:Int)+1)=((lv+1:Nat):Int):=by
   rw[wr om om];simp
  simp[r0,r1,r5,ho,By,hle];refine py p2 fun h3 p3 k3=>?_;simp[Wo.cells];refine Dd ?_;simp[r0,r1,r5,w1]
  repeat refine di ?_
  have adQ:((lv:Int)+1)=((lv+1:Nat):Int):=by simp
  have lr:=hr.len;simp[Tag.strict]at lr;simp at cX l1 n1;have x3:=(xo.x Mo).x ((k2.x _).trans k3);have FN:aQ [r] h h3:=Mo.trans ((k2.x _).trans k3);have K3:aS h3 (((h3.alloc (.C [.I 0,.str [],.I 0,.I 0,.I 0])).2.set h3.next (.C [.I o.kind,.str o.text,.I o.n,.I o.l,.I o.c])).bump 14):=kT;have p3':=p3.aJ K3;have x3':=x3.le K3.next;have f11:=p3.fr (h3.next+11) om;have e3:=(e1.move (Move.k p1.fr k2)).move (Move.r p2.fr (xo.le (bk Mo.next k2.next)) k3);have e3':=e3.move (Move.k p3.fr K3);rw[adQ];refine IH (.bin (lv+1)) b cq eK _ (by simp[nC,rB];omega) hr r a W el ec _ zy fn dp _ X _ ok p3' x3' om om hb fun sR k4 nd4 h4 e4 l4 n4 p4 kk4=>?_;have o4:=kk4.old h3.next sp (by have:=p3.rl;simp;omega);have o5:=kk4.old (h3.next+11) sp (by have:=p3.rl;simp;omega);have n4':=kk4.next;simp[f11]at o4 o5 n4';simp
  repeat refine di ?_
  simp[o5];have e4':=e3'.move (Move.r p3'.fr x3' kk4);have p5:=p4.new (.cells true 1 [.P id,.P sR]) o5 om;have mv5:Move X X h4 _:=Move.new (.cells true 1 [.P id,.P sR]) o5
  repeat refine di ?_
  have agf:h3.next+11∉X:=x3.nx om;have Td:dP X (h4.set (h3.next+11) (.cells true 1 [.P id,.P sR])) (.S (h3.next+11) 2) [(id,e),(sR,er)]:= .inr ⟨h3.next+11,rfl,agf,sp⟩;refine rz (.bin o.at o.text e er) _ _ p5 (((x3'.x kk4)).le (ao _)) Td rfl (adP (e4'.move mv5) (e4.move mv5)) (by simp;omega) sp om fun Ml h5 e5 p6 k5=>?_;simp
  repeat refine di ?_
  have kh4:aQ [r] h h4:=FN.trans ((K3.x _).trans kk4);have nh3:=FN.next;have kh5:aQ [r] h (h4.set (h3.next+11) (.cells true 1 [.P id,.P sR])):=kX;exact⟨_,om,Ml,_,_,_,eK,rfl,om,hs,e5,by simp;omega,om,p6,kh5.trans k5,r0,r1,rfl⟩
end
end
section
attribute [local simp] aI
section
variable{X:List Nat}{Q:Out->ah->Prop}{r a:Nat}{W:List Wo}{el ec:Int}{k:Nat}{ws:List Wo}{nd fn dp:Nat}{h:ah}
theorem lz.imp{E:Env}{k:FuncId}{args:List AV}{h:ah}{p:Option AV}{Q Q':Option AV->ah->Prop}(hw:lz E k args h p Q)(hq:∀q h',Q q h'->Q' q h'):lz E k args h p Q':=by
 obtain⟨n,v,h',p',h1,h2⟩:=hw;exact⟨n,v,h',p',h1,hq _ _ h2⟩
def YP(b:Nat)(ws dh:List Wo)(e:Ex):Prop:=JX 182 [] 601 b ws dh e
theorem Hw{b:Nat}{dh:List Wo}{eo:Ex}(IH:Hv (nC .un ws))(HP:∀{cq:List Wo}{e e':Ex},G .fw b ws cq (.e e)->G (.kj e) b cq dh (.e e')->YP b ws dh e')(hG:G .un b ws dh (.e eo)):Spec .un b ws dh (.e eo):=by
 intro r a W el ec k nd fn dp h X Q ok p xo hn hd hb hQ;refine wd fn144 rfl ?_;have hlen:=hG.len;simp[Tag.strict]at hlen;simp[f144];refine D2 p om fun cl h1 Uz YQ ER p1 k1=>?_;simp;refine Bg p1 fun h2 k2=>?_;have p2:=p1.aJ k2;have gc2:=(k2.old cl ER).trans Uz;have lc2:=aw ER k2.next;have Hx:aQ [r] h h2:=k1.trans (k2.x _);have clr:cl≠r:=by have:=p.rl;omega
 generalize rO:FM el ec ws=pl at*;have n2:h2.next≠cl:=om
 simp;have K3:aS h2 ((((h2.alloc (.C [.I 0,.I 0])).2.set h2.next (.C [.I pl.1,.I pl.2])).alloc (.cells true 1 [.str [45],.str [126],.str [33],.str [42],.str [38]])).2):=kT;have p3:=p2.aJ K3;have gc3:=(K3.old cl lc2).trans gc2;have gA:((((h2.alloc (.C [.I 0,.I 0])).2.set h2.next (.C [.I pl.1,.I pl.2])).alloc (.cells true 1 [.str [45],.str [126],.str [33],.str [42],.str [38]])).2).get h2.next=some (.C [.I pl.1,.I pl.2]):=sp
 have gU:((((h2.alloc (.C [.I 0,.I 0])).2.set h2.next (.C [.I pl.1,.I pl.2])).alloc (.cells true 1 [.str [45],.str [126],.str [33],.str [42],.str [38]])).2).get (h2.next+1)=some (.cells true 1 (Bf.map AV.str)):=by simp[Bf]
 have nA:((((h2.alloc (.C [.I 0,.I 0])).2.set h2.next (.C [.I pl.1,.I pl.2])).alloc (.cells true 1 [.str [45],.str [126],.str [33],.str [42],.str [38]])).2).next=h2.next+2:=sp
 have x3:=((xo.x Hx).le K3.next)
 have uW:aQ [r] h ((((h2.alloc (.C [.I 0,.I 0])).2.set h2.next (.C [.I pl.1,.I pl.2])).alloc (.cells true 1 [.str [45],.str [126],.str [33],.str [42],.str [38]])).2):=Hx.trans (K3.x _);generalize (((h2.alloc (.C [.I 0,.I 0])).2.set h2.next (.C [.I pl.1,.I pl.2])).alloc (.cells true 1 [.str [45],.str [126],.str [33],.str [42],.str [38]])).2=h3 at*;have lc3:cl<h3.next:=om
 have lA:h2.next<h3.next:=om
 have FT:h2.next≠r/\cl≠h2.next:=⟨by have:=p2.rl;omega,om⟩
 generalize h2.next=iA at*;clear K3 k2 p2 gc2 lc2 Hx k1 p1 Uz;have gc:h3.get cl=some (.C [.P r]):=gc3;refine qg (iA+1) Bf true gU dc p3 ?_;cases hG with
 |@unop b o _ _ e0 ho hu=>
  have lu:=hu.len;simp[Tag.strict]at lu;simp only[ai]at hd hn hlen;simp[ho];refine py p3 fun h4 p4 k4=>?_;have x4:=x3.x k4;have g4:=(k4.old iA lA (by simp[FT.1])).trans gA;have gc4:=(k4.old cl lc3 (by simp[clr])).trans gc;have n4:=k4.next;simp[Wo.cells];refine Dd ?_;simp[g4]
  repeat refine di ?_
  have Te:iD r a W el ec _ _ _ _ _ (h4.bump 9):=p4.aJ ((aS.refl h4).bump 9);have PK:Bh r X (h4.bump 9):=x4.le sp;have f5:=p4.fr (h4.next+5) om;refine IH .un b _ dh _ (by simp[nC,rB]) hu r a W el ec _ nd fn (dp+1) _ X _ ok Te PK om om om fun id k5 PL h5 e5 l5 n5 p5 ot=>?_;have o5:=ot.old (h4.next+5) sp (by have:=p4.rl;simp;omega);have g5:=ot.old iA (by simp;omega) (by simp[FT.1]);have UA:=ot.old cl (by simp;omega) (by simp[clr]);have Hy:=ot.next;simp[f5,g4]at o5 g5 UA Hy;rw[gc4]at UA;simp
  repeat refine di ?_
  simp[o5]
  repeat refine di ?_
  have p6:=p5.new (.cells true 1 [.P id]) o5 om;have x6:Bh r X (h5.set (h4.next+5) (.cells true 1 [.P id])):=(PK.x ot).le (ao _);have mv6:Move X X h5 _:=Move.new (.cells true 1 [.P id]) o5;have og:dP X (h5.set (h4.next+5) (.cells true 1 [.P id])) (.S (h4.next+5) 1) [(id,e0)]:= .inr ⟨h4.next+5,rfl,x4.nx om,sp⟩;simp only[ai]at hQ;subst rO;refine rz (.un o.at o.text e0) _ _ p6 x6 og rfl (WQ (e5.move mv6)) (by simp;omega) sp om fun UB h7 e7 p7 k7=>?_;simp
  repeat refine di ?_
  have gc7:h7.get cl=some (.C [.P r]):=by
   rw[k7.old cl (by simp;omega) (by simp[clr]),ah.aM,az om,UA]
  have kh5:aQ [r] h h5:=uW.trans (k4.trans ((((aS.refl h4).bump 9).x _).trans ot));have agh:=uW.next;have kh6:aQ [r] h (h5.set (h4.next+5) (.cells true 1 [.P id])):=kX;refine iE p7 cl gc7 om none _ fun h8 p8 k8=>?_;simp;exact hQ _ _ _ _ (e7.move (Move.r p7.fr (x6.x k7) k8)) (by simp;omega) om p8 ((kh6.trans k7).trans k8)
 |@cast b o c tq cq _ e0 ty ho ht hT hc hu=>
  have lu:=hu.len;have lT:=hT.kj;simp[Tag.strict]at lu;simp only[ai]at hd hn hlen lT;have hun:anyS (o::tq) Bf=false:=by simp[anyS,Bf,ho.du]
  have KI:du (o::tq) [40]=true:=by simp[ho.du]
  simp[hun];refine ru _ p3 ?_;have FU:=p3.obj;have uc:(0:Int)<(tq.length:Int):=by omega
  have nJ:(1:Int)<=(tq.length:Int)+1:=by omega
  have EI:(1:Int)<(tq.length:Int)+1:=by omega
  simp[PO]at FU;simp[KI,FU,p3.arr,uc,nJ,EI];have K4:=(aS.refl h3).alloc (PO a (k+1) tq.length 0 0 0 0 0);have p4:=p3.aJ K4;have q4:iD h3.next a W 0 0 (k+1) tq 0 0 0 (h3.alloc (PO a (k+1) tq.length 0 0 0 0 0)).2:=
   ⟨sp,p4.arr,mX p3.drop,by have:=p3.len;simp at this;omega,by have:=p3.al;omega,sp,p4.al,p4.fr⟩
  have hk5:5*k+5=5*(k+1):=by omega
  simp[PO]at q4 p4⊢;rw[hk5];refine Ap q4 fun h5 k5=>?_;have p5:=p4.aJ k5;have gA5:=(k5.old iA (by simp;omega)).trans ((K4.old iA lA).trans gA);have UA:=(k5.old cl (by simp;omega)).trans ((K4.old cl lc3).trans gc);have KJ:=uW.trans ((K4.trans k5).x _);have x5:=x3.le (K4.trans k5).next
  have n5:=(K4.trans k5).next
  clear q4 p4 K4 k5 p3 gA gc uW;simp[ht];refine py p5 fun h6 p6 k6=>?_;simp;refine D3 ok hT p6 fun k' h7 Gp p7 k7=>?_;simp;refine jb p7 hc fun h4 p4 k4=>?_;have K:=(k6.trans k7).trans k4;have x4:=x5.x K;have g4:=(K.old iA om (by simp[FT.1])).trans gA5;have gc4:=(K.old cl om (by simp[clr])).trans UA;have n4:=K.next;have uW:=KJ.trans K;clear p5 p6 p7 gA5 UA KJ k6 k7 k4 K;simp;refine Dd ?_;simp[g4]
  repeat refine di ?_
  have Te:iD r a W el ec _ _ _ _ _ (h4.bump 9):=p4.aJ ((aS.refl h4).bump 9);have PK:Bh r X (h4.bump 9):=x4.le sp;have f5:=p4.fr (h4.next+5) om;refine IH .un b _ dh _ (by simp[nC,rB];omega) hu r a W el ec _ nd fn (dp+1) _ X _ ok Te PK om om om fun id k5 PL h5 e5 l5 n5 p5 ot=>?_;have o5:=ot.old (h4.next+5) sp (by have:=p4.rl;simp;omega);have g5:=ot.old iA (by simp;omega) (by simp[FT.1]);have UA:=ot.old cl (by simp;omega) (by simp[clr]);have Hy:=ot.next;simp[f5,g4]at o5 g5 UA Hy;rw[gc4]at UA;simp
  repeat refine di ?_
  simp[o5]
  repeat refine di ?_
  have p6:=p5.new (.cells true 1 [.P id]) o5 om;have x6:Bh r X (h5.set (h4.next+5) (.cells true 1 [.P id])):=(PK.x ot).le (ao _);have mv6:Move X X h5 _:=Move.new (.cells true 1 [.P id]) o5;have og:dP X (h5.set (h4.next+5) (.cells true 1 [.P id])) (.S (h4.next+5) 1) [(id,e0)]:= .inr ⟨h4.next+5,rfl,x4.nx om,sp⟩;simp only[ai]at hQ lu;subst rO;refine rz (.cast o.at ty e0) _ _ p6 x6 og rfl (WQ (e5.move mv6)) (by simp;omega) sp om fun UB h7 e7 p7 k7=>?_;simp
  repeat refine di ?_
  have gc7:h7.get cl=some (.C [.P r]):=by
   rw[k7.old cl (by simp;omega) (by simp[clr]),ah.aM,az om,UA]
  have kh5:aQ [r] h h5:=uW.trans ((((aS.refl h4).bump 9).x _).trans ot);have agh:=uW.next;have kh6:aQ [r] h (h5.set (h4.next+5) (.cells true 1 [.P id])):=kX;refine iE p7 cl gc7 om none _ fun h8 p8 k8=>?_;simp;exact hQ _ _ _ _ (e7.move (Move.r p7.fr (x6.x k7) k8)) (by simp;omega) om p8 ((kh6.trans k7).trans k8)
 |@post b _ cq _ e0 _ h1 h2 hp hs=>
  simp[h1];refine ru _ p3 ?_;have fin:∀h4,aS h3 h4->aV env 182 [.P r] h4 (fun out h'=>∃id,out= .ret (.P id)/\lz env 113 [.P cl] h' none (fun q h2=>q=none/\Q (.ret (.P id)) h2)):=fun h4 k4=>
   HP hp hs r a W el ec _ nd fn (dp+1) h4 X _ ok (p3.aJ k4) (x3.le k4.next) hn om hb fun id k' Ih h9 e l n p9 k9=>⟨id,rfl,by
    have gc9:=(k9.old cl (aw lc3 k4.next) (by simp[clr])).trans ((k4.old cl lc3).trans gc);refine iE p9 cl gc9 om none _ fun h8 p8 k8=>⟨rfl,hQ _ _ _ _ (e.move (Move.r p9.fr ((x3.le k4.next).x k9) k8)) l n p8 (((uW.trans (k4.x _)).trans k9).trans k8)⟩⟩
  have FU:=p3.obj;simp[PO]at FU;cases KI:du ws [40]with
  |false=>
   simp;refine(fin _ (aS.refl _)).mono fun out h9 hq=>?_;obtain⟨id,rfl,hw⟩:=hq;simp;refine lz.imp hw fun q xU hq=>?_;obtain⟨rfl,hq⟩:=hq;simp;exact hq
  |true=>
   cases ws with
   |nil=>cases KI
   |cons o tq=>
   cases tq with
   |nil=>
    simp[FU];refine(fin _ (aS.refl _)).mono fun out h9 hq=>?_;obtain⟨id,rfl,hw⟩:=hq;simp;refine lz.imp hw fun q xU hq=>?_;obtain⟨rfl,hq⟩:=hq;simp;exact hq
   |cons o2 tN=>
    have Gp:lK (o2::tN)=false:=by
     rcases h2 with h2|h2
     ·rw[KI]at h2;cases h2
     ·exact h2
    have uc:(0:Int)<(tN.length:Int)+1:=om;have nJ:(1:Int)<=(tN.length:Int)+1+1:=om;have EI:(1:Int)<(tN.length:Int)+1+1:=om;have UC:(1:Int)<(tN.length:Int)+2:=om;have YR:(1:Int)<=(tN.length:Int)+2:=om;have hl6:(0:Int)<(tN.length:Int)+2:=om;simp at FU;simp[KI,FU,p3.arr,uc,nJ,EI,UC,YR,hl6];have K4:=(aS.refl h3).alloc (PO a (k+1) (tN.length+1) 0 0 0 0 0);have p4:=p3.aJ K4;have q4:iD h3.next a W 0 0 (k+1) (o2::tN) 0 0 0 (h3.alloc (PO a (k+1) (tN.length+1) 0 0 0 0 0)).2:=
     ⟨sp,p4.arr,mX p3.drop,by have:=p3.len;simp at this⊢;omega,by have:=p3.al;omega,sp,p4.al,p4.fr⟩
    have hk5:5*k+5=5*(k+1):=om;have adR:=fun h5(k5:aS (h3.alloc (PO a (k+1) (tN.length+1) 0 0 0 0 0)).2 h5)=>fin h5 (K4.trans k5);simp[PO]at q4 adR⊢;rw[hk5];refine Ap q4 fun h5 k5=>?_;simp[Gp];refine(adR h5 k5).mono fun out h9 hq=>?_;obtain⟨id,rfl,hw⟩:=hq;simp;refine lz.imp hw fun q xU hq=>?_;obtain⟨rfl,hq⟩:=hq;simp;exact hq
end
end
section
attribute [local simp] aI
section
variable{X:List Nat}{Q:Out->ah->Prop}{r a:Nat}{W:List Wo}{el ec:Int}{k:Nat}{ws:List Wo}{nd fn dp:Nat}{h:ah}
theorem jr{E:Env}(pm:List Nat){l l2:List Oper}{Q:bt->St->Prop}{rg:T AV}{n id:Nat}{h:ah}{ds:List fJ}{bI:Bool}(hp:tT E l.toArray=jS l.toArray pm)(hl:pm.filterMap (fun i=>(l[i]?).map (ew pm))=l2)(hd:gL l2.toArray=true)
 (hk:vR E l2.toArray (gK l2.toArray) h.next n ds bI Q l2.zipIdx rg (h.bump l2.length) [] []):bR E (.region id l.toArray true) Q ⟨rg,n,h,ds,bI⟩:=by
 show Rg E (tT E l.toArray) Q _;have e:jS l.toArray pm=l2.toArray:=by
  unfold jS;rw[<-hl];simp
 rw[hp,e];exact⟨hd,jT hk⟩
theorem Bi{b:Nat}{cq dh:List Wo}{e0 eo:Ex}(IH:Hv (nC .un ws))(hp:G .fw b ws cq (.e e0))(hs:G (.kj e0) b cq dh (.e eo)):YP b ws dh eo:=by
 intro r a W el ec k nd fn dp h X Q ok p xo hn hd hb hQ;refine wb fn182 rfl ?_;have lp:=hp.len;simp[Tag.strict]at lp;simp[f182];refine IH .fw b ws cq _ (by simp[nC,rB]) hp r a W el ec _ nd fn dp h X _ ok p xo hn om hb fun id k1 zy h1 e1 l1 n1 p1 Mo=>?_;simp;refine bW (fun m x=>∃id e b1 k1 zy cs,m=cs.length/\cs.length<ws.length/\b1<=b/\G (.kj e) b1 cs dh (.e eo)/\x.n=47/\x.ds=[]/\x.bI=false/\jV X x.h id e/\2*e.dJ+cs.length<=ws.length+b+1/\zy+cs.length<=nd+ws.length/\iD r a W el ec k1 cs zy fn dp x.h/\aQ [r] h x.h/\
  x.rg.get 0=some (.P r)/\x.rg.get 3=some (.P id)) cq.length ?_ ?_
 ·exact⟨id,e0,b,k1,zy,cq,rfl,om,ao _,hs,rfl,rfl,rfl,e1,l1,n1,p1,Mo,sp,sp⟩
 clear e1 l1 n1 p1 Mo hs lp hp id k1 zy h1 cq e0
 rintro m ⟨rg,n,H,ds,bI⟩ ⟨id,e0,b1,k1,zy,cs,rfl,cX,E9,fI,x1,x2,x3,e1,l1,n1,p1,Mo,r0,r3⟩
 dsimp only at x1 x2 x3 e1 p1 Mo r0 r3;subst x1 x2 x3;simp[r0];refine Bg p1 fun h2 k2=>?_;have p2:=p1.aJ k2;generalize rO:FM el ec cs=pl at*;simp[r0];have K3:aS h2 ((h2.alloc (.C [.I 0,.I 0])).2.set h2.next (.C [.I pl.1,.I pl.2])):=kT;have p3:=p2.aJ K3;have gA:((h2.alloc (.C [.I 0,.I 0])).2.set h2.next (.C [.I pl.1,.I pl.2])).get h2.next=some (.C [.I pl.1,.I pl.2]):=sp
 have uW:aQ [r] h _:=Mo.trans ((k2.trans K3).x [r]);have e3:=e1.move (Move.k p1.fr (k2.trans K3));have FT:h2.next≠r:=by have:=p2.rl;omega
 have lA:h2.next<((h2.alloc (.C [.I 0,.I 0])).2.set h2.next (.C [.I pl.1,.I pl.2])).next:=sp
 generalize (h2.alloc (.C [.I 0,.I 0])).2.set h2.next (.C [.I pl.1,.I pl.2])=h3 at*;generalize h2.next=iA at*;clear K3 k2 p2 p1 e1 Mo;have x3:=xo.x uW;cases fI with
 |DU tf=>
  simp[anyS]at tf;obtain⟨n1',n2',n3'⟩:=tf;refine cW _ p3 n1' ?_;simp[r0];refine cW _ p3 n2' ?_;simp[r0];refine cW _ p3 n3' ?_;simp[r3];exact hQ _ _ _ _ e3 l1 n1 p3 uW
 |@L3 b' o c tq tN _ _ ei _ ho he hc hs=>
  have lr:=he.len;simp[Tag.strict]at lr;simp only[ai]at cX l1 n1;refine gM p3 ho fun h4 p4 k4=>?_;simp[r0];refine IH (.bin 0) b' tq _ _ (by simp[nC,rB];omega) he r a W el ec _ zy fn dp _ X _ ok p4 (x3.x k4) om om om fun sR k5 PL h5 e5 l5 n5 p5 ot=>?_;simp only[ai]at l5 n5;simp[r0];refine jb p5 hc fun h6 p6 k6=>?_;have K:=(k4.trans ot).trans k6;have g6:=(K.old iA lA (by simp[FT])).trans gA;have e6:=e3.move (Move.r p3.fr x3 K);have x6:=x3.x K;have e56:=e5.move (Move.r p5.fr ((x3.x k4).x ot) k6);simp[r0,r3,g6];have K7:=(aS.refl h6).alloc (.cells true 1 [.P id,.P sR]);have Ci:dP X (h6.alloc (.cells true 1 [.P id,.P sR])).2 (.S h6.next 2) [(id,e0),(sR,ei)]:= .inr ⟨h6.next,rfl,x6.nx (ao _),sp⟩;subst rO;refine rz (.index o.at e0 ei) _ _ (p6.aJ K7) (x6.le K7.next) Ci rfl (adP (e6.move (Move.k p6.fr K7)) (e56.move (Move.k p6.fr K7))) (by simp;omega) sp om fun id8 h8 e8 p8 k8=>?_;simp[r0];exact⟨_,om,id8,_,_,_,_,tN,rfl,om,E9,hs,e8,by simp;omega,om,p8,(uW.trans K).trans ((K7.x _).trans k8),rfl⟩
 |@L4 _ o nm tq _ _ _ ho rM hs=>
  simp only[ai]at cX l1 n1;have tf:du (o::nm::tq) [91]=false:=by simp[ho.du]
  refine cW _ p3 tf ?_;simp[r0];refine gM p3 ho fun h4 p4 k4=>?_;have g4:=(k4.old iA lA (by simp[FT])).trans gA;have e4:=e3.move (Move.r p3.fr x3 k4);have x4:=x3.x k4;have n4:=k4.next;simp;refine jr [0,1,2,4,5,3,6,7,8] kr (by simp[ew,fh];rfl) kr ?_;have f4:=p4.fr (h4.next+4) om;simp[r0,r3,g4,f4]
  repeat refine di ?_
  have K4:aS h4 ((h4.bump 9).set (h4.next+4) (.cells true 1 [.P id])):=kT;have Te:=p4.aJ K4;have PK:=x4.le K4.next;have O7:dP X ((h4.bump 9).set (h4.next+4) (.cells true 1 [.P id])) (.S (h4.next+4) 1) [(id,e0)]:= .inr ⟨h4.next+4,rfl,x4.nx om,sp⟩;have e4':=e4.move (Move.k p4.fr K4);have g4':=(K4.old iA om).trans g4;have ln4:iA<((h4.bump 9).set (h4.next+4) (.cells true 1 [.P id])).next:=by simp;omega
  have nn4:((h4.bump 9).set (h4.next+4) (.cells true 1 [.P id])).next=h4.next+9:=by simp
  have gI:((h4.bump 9).set (h4.next+4) (.cells true 1 [.P id])).get iA=some (.C [.I pl.1,.I pl.2]):=g4';generalize hH5:((h4.bump 9).set (h4.next+4) (.cells true 1 [.P id]))=h5 at*;refine pz Te rM fun h6 p6 Tf=>?_;have g6:=(Tf.old iA ln4 (by simp[FT])).trans gI;have e6:=e4'.move (Move.r Te.fr PK Tf);have og:=O7.move (Move.r Te.fr PK Tf);have x6:=PK.x Tf;simp[r0,r3]
  repeat refine di ?_
  subst rO;refine rz (.mr o.at nm.text e0) _ _ p6 x6 og rfl (WQ e6) (by simp;omega) sp om fun UB h7 e7 p7 k7=>?_;simp
  repeat refine di ?_
  have kh6:aQ [r] h h6:=uW.trans (k4.trans ((K4.x _).trans Tf));simp[r0];exact⟨_,om,UB,_,_,_,_,tq,rfl,om,E9,hs,e7,by simp;omega,om,p7,kh6.trans k7,rfl⟩
 |@L5 _ o nm tq _ _ _ ho rM hs=>
  simp only[ai]at cX l1 n1;have tf:du (o::nm::tq) [91]=false:=by simp[ho.du]
  refine cW _ p3 tf ?_;simp[r0];have aa1:du (o::nm::tq) [46]=false:=by simp[ho.du]
  refine cW _ p3 aa1 ?_;simp[r0];refine gM p3 ho fun h4 p4 k4=>?_;have g4:=(k4.old iA lA (by simp[FT])).trans gA;have e4:=e3.move (Move.r p3.fr x3 k4);have x4:=x3.x k4;have n4:=k4.next;simp;refine jr [0,1,2,4,5,3,6,7,8] kr (by simp[ew,fh];rfl) kr ?_;have f4:=p4.fr (h4.next+4) om;simp[r0,r3,g4,f4]
  repeat refine di ?_
  have K4:aS h4 ((h4.bump 9).set (h4.next+4) (.cells true 1 [.P id])):=kT;have Te:=p4.aJ K4;have PK:=x4.le K4.next;have O7:dP X ((h4.bump 9).set (h4.next+4) (.cells true 1 [.P id])) (.S (h4.next+4) 1) [(id,e0)]:= .inr ⟨h4.next+4,rfl,x4.nx om,sp⟩;have e4':=e4.move (Move.k p4.fr K4);have g4':=(K4.old iA om).trans g4;have ln4:iA<((h4.bump 9).set (h4.next+4) (.cells true 1 [.P id])).next:=by simp;omega
  have nn4:((h4.bump 9).set (h4.next+4) (.cells true 1 [.P id])).next=h4.next+9:=by simp
  have gI:((h4.bump 9).set (h4.next+4) (.cells true 1 [.P id])).get iA=some (.C [.I pl.1,.I pl.2]):=g4';generalize hH5:((h4.bump 9).set (h4.next+4) (.cells true 1 [.P id]))=h5 at*;refine pz Te rM fun h6 p6 Tf=>?_;have g6:=(Tf.old iA ln4 (by simp[FT])).trans gI;have e6:=e4'.move (Move.r Te.fr PK Tf);have og:=O7.move (Move.r Te.fr PK Tf);have x6:=PK.x Tf;simp[r0,r3]
  repeat refine di ?_
  subst rO;refine rz (.arrow o.at nm.text e0) _ _ p6 x6 og rfl (WQ e6) (by simp;omega) sp om fun UB h7 e7 p7 k7=>?_;simp
  repeat refine di ?_
  have kh6:aQ [r] h h6:=uW.trans (k4.trans ((K4.x _).trans Tf));simp[r0];exact⟨_,om,UB,_,_,_,_,tq,rfl,om,E9,hs,e7,by simp;omega,om,p7,kh6.trans k7,rfl⟩
end
end
section
attribute [local simp] aI
def aK:AV->List Nat
 | .slice (some (b,_)) _=>[b]
 |_=>[]
section
variable{X:List Nat}{Q:Out->ah->Prop}{r a:Nat}{W:List Wo}{el ec:Int}{k:Nat}{ws:List Wo}{nd fn dp:Nat}{h:ah}
theorem xW{st e:TypeId}{uB:Nat}{z:AV}(hu:env.kQ st=some (.slice e))(hs:env.siz e=some 1)(hb:env.byt e=some uB)(MW:uB<=100)(hz:env.zer e=some [z]){α:Type}{av:AV}{qs:List (Nat×α)}(arr:dP X h av qs)(hq:qs.length<=300)
 (src id:Nat) (t:α) (B6:h.get src=some (.cells true 1 [.P id])) (fr:cM h):
 ∃h2,aO env h st av (.S src 1)=some (.S h.next (qs.length+1),h2)/\h2.next=h.next+1/\h2.get h.next=some (.cells true 1 ((qs++[(id,t)]).map fun p=> .P p.1))/\aQ (aK av) h h2:=by
 have r1:¬roomy<(qs.length+1)*(uB+1):=by
  have:(qs.length+1)*(uB+1)<=301*101:=uw om om;unfold roomy;omega
 have r0:¬roomy<uB+1:=by unfold roomy;omega
 rcases arr with⟨rfl,rfl⟩|⟨b,rfl,_,gb⟩
 ·refine⟨_,by simp[-nQ,hu,hs,hb,hz,B6,r0];rfl,rfl,sp,?_⟩;exact kX
 ·have hlen:(qs.map fun p=>AV.P p.1).length=qs.length:=List.length_map ..;have cX:=au fr gb;have ne:h.next≠b:=by omega
  generalize hF:(qs.map fun p=>AV.P p.1)=F at*;have g1:¬qs.length+1<=F.length:=by omega
  have g2:qs.length<=F.length:=by omega
  have tk:F.take qs.length=F:=eX om;refine⟨_,by simp[-nQ,hu,hs,hb,hz,B6,gb,r1,g1,g2,tk];rfl,rfl,by simp[hF],?_⟩;simp[aK];refine aQ.alloc _ (aQ.set _ (aQ.refl _ _) (.inl sp) cX)
theorem dP.ne{α:Type}{av:AV}{qs:List (Nat×α)}(arr:dP X h av qs)(p:iD r a W el ec k ws nd fn dp h)(hr:r∈X):∀z,z∈aK av->z≠r/\z≠a:=by
 rcases arr with⟨rfl,rfl⟩|⟨b,rfl,hb,gb⟩
 ·simp[aK]
 ·simp only[aK,aR]
  rintro z rfl
  refine⟨fun e=>hb (e▸hr),fun e=>?_⟩;subst e;have:=p.arr;rw[gb]at this;injection this with this;injection this with _ e;cases e
theorem iD.app(p:iD r a W el ec k ws nd fn dp h){h':ah}{Z:List Nat}(kx:aQ Z h h')(hZ:∀z,z∈Z->z≠r/\z≠a):iD r a W el ec k ws nd fn dp h':=
 ⟨(kx.old r p.rl fun hz=>(hZ r hz).1 rfl).trans p.obj,(kx.old a p.al fun hz=>(hZ a hz).2 rfl).trans p.arr,p.drop,p.len,p.ne,aw p.rl kx.next,aw p.al kx.next,kx.fresh p.fr⟩
theorem PM{b:Nat}{dh:List Wo}{eo:Ex}(IH:Hv (nC .fw ws))(hG:G .fw b ws dh (.e eo)):Spec .fw b ws dh (.e eo):=by
 intro r a W el ec k nd fn dp h X Q ok p xo hn hd hb hQ;refine wb fn206 rfl ?_;simp[f206];refine Bg p fun h2 k2=>?_;have p2:=p.aJ k2;have h3e:∃pl,pl=FM el ec ws:=⟨_,rfl⟩
 obtain⟨pl,rO⟩:=h3e;rw[<-rO];simp;have K3:aS h2 ((h2.alloc (.C [.I 0,.I 0])).2.set h2.next (.C [.I pl.1,.I pl.2])):=kT;have p3:=p2.aJ K3;have gA:((h2.alloc (.C [.I 0,.I 0])).2.set h2.next (.C [.I pl.1,.I pl.2])).get h2.next=some (.C [.I pl.1,.I pl.2]):=sp
 have uW:aQ [r] h _:=(k2.trans K3).x [r];have FT:h2.next≠r:=by have:=p2.rl;omega
 have lA:h2.next<((h2.alloc (.C [.I 0,.I 0])).2.set h2.next (.C [.I pl.1,.I pl.2])).next:=sp
 generalize (h2.alloc (.C [.I 0,.I 0])).2.set h2.next (.C [.I pl.1,.I pl.2])=h3 at*;generalize h2.next=iA at*;clear K3 k2 p2 p;have x3:=xo.x uW;cases hG with
 |@num b w _ hk=>
  have Mp:w.kind<3:=by omega
  refine ru _ p3 ?_;simp[jy Mp];refine cW _ p3 (jy Mp) ?_;simp;refine cW _ p3 (jy Mp) ?_;have FU:=p3.obj;obtain⟨c0,c1,c2,d0,d3,l5,l3⟩:=yB p3.drop;have uc:(0:Int)<(dh.length:Int)+1:=by omega
  simp[PO]at FU;simp[FU,p3.arr,c0,hk,uc];refine Dd ?_;simp[gA]
  repeat refine di ?_
  have KB:=(aS.refl h3).bump 8;have gB:(h3.bump 8).get iA=_:=gA;refine py (p3.aJ KB) fun h4 p4 k4=>?_;have g4:=(k4.old iA (by simp;omega) (by simp[FT])).trans gB;simp[Wo.cells]
  repeat refine di ?_
  have abc:=ok.num w (p3.mem sp);simp only[ai]at hn hQ;subst rO;refine rz (.num w.at w.n) _ [] p4 ((x3.le KB.next).x k4) (.inl ⟨rfl,rfl⟩) rfl sp (by simp<;>omega) sp om fun UB h7 e7 p7 k7=>?_;simp
  repeat refine di ?_
  exact hQ _ _ _ _ e7 (by simp<;>omega) om p7 ((uW.trans ((KB.x _).trans k4)).trans k7)
 |@var b w _ hk hs=>
  have Mp:w.kind<3:=by omega
  refine ru _ p3 ?_;simp[jy Mp];refine cW _ p3 (jy Mp) ?_;simp;refine cW _ p3 (jy Mp) ?_;have FU:=p3.obj;obtain⟨c0,c1,c2,d0,d3,l5,l3⟩:=yB p3.drop;have uc:(0:Int)<(dh.length:Int)+1:=by omega
  simp[PO]at FU;simp[FU,p3.arr,c0,hk,uc];refine pz p3 hk fun h4 p4 k4=>?_;have g4:=(k4.old iA lA (by simp[FT])).trans gA;simp;refine cW _ p4 hs ?_;have lw:=ok.text w (p3.mem sp);simp[g4];simp only[ai]at hn hQ;subst rO;refine rz (.var w.at w.text) _ [] p4 (x3.x k4) (.inl ⟨rfl,rfl⟩) rfl sp (by simp<;>omega) sp om fun UB h7 e7 p7 k7=>?_;simp;exact hQ _ _ _ _ e7 (by simp<;>omega) om p7 ((uW.trans k4).trans k7)
 |@FD b w o c _ hk ho hc=>
  have Mp:w.kind<3:=by omega
  refine ru _ p3 ?_;simp[jy Mp];refine cW _ p3 (jy Mp) ?_;simp;refine cW _ p3 (jy Mp) ?_;have FU:=p3.obj;obtain⟨c0,c1,c2,d0,d3,l5,l3⟩:=yB p3.drop;simp only[ai]at hn hd hQ;have uc:(0:Int)<(dh.length:Int)+1+1+1:=by omega
  have nJ:(0:Int)<(dh.length:Int)+1+1:=by omega
  have EI:(0:Int)<(dh.length:Int)+3:=by omega
  have UC:(0:Int)<(dh.length:Int)+2:=by omega
  simp[PO]at FU;simp[FU,p3.arr,c0,hk,uc,nJ,EI,UC];refine pz p3 hk fun h4 p4 k4=>?_;have lw:=ok.text w (p3.mem sp);simp;refine gM p4 ho fun h5 p5 k5=>?_;simp;refine gM p5 hc fun h6 p6 k6=>?_;have K:=(k4.trans k5).trans k6;have g6:=(K.old iA lA (by simp[FT])).trans gA;simp;refine bW (fun m x=>m=0/\x.n=97/\x.ds=[]/\x.bI=false/\x.h=h6/\x.rg.get 0=some (.P r)/\x.rg.get 3=some (.P iA)/\x.rg.get 5=some (.str w.text)/\x.rg.get 6=some (.Z)/\x.rg.get 7=some (.bool false)) 0 ?_ ?_
  ·exact⟨rfl,rfl,rfl,rfl,rfl,sp,sp,sp,sp,sp⟩
  rintro m ⟨rg,n,H,ds,bI⟩ ⟨rfl,e1,e2,e3,e4,r0,r3,r5,r6,r7⟩
  dsimp only at e1 e2 e3 e4 r0 r3 r5 r6 r7;subst e1 e2 e3 e4;simp[r0,r3,r5,r6,r7,g6];subst rO;refine rz (.call w.at w.text []) _ [] p6 (x3.x K) (.inl ⟨rfl,rfl⟩) rfl sp (by simp<;>omega) sp om fun UB h7 e7 p7 k7=>?_;simp;exact hQ _ _ _ _ e7 (by simp<;>omega) om p7 ((uW.trans K).trans k7)
 |@call b w o tq _ es hk ho hs ha=>
  have Mp:w.kind<3:=by omega
  refine ru _ p3 ?_;simp[jy Mp];refine cW _ p3 (jy Mp) ?_;simp;refine cW _ p3 (jy Mp) ?_;have FU:=p3.obj;obtain⟨c0,c1,c2,d0,d3,l5,l3⟩:=yB p3.drop;simp only[ai]at hn hd hQ;have uc:(0:Int)<(tq.length:Int)+1+1+1:=by omega
  have nJ:(0:Int)<(tq.length:Int)+1+1:=by omega
  have EI:(0:Int)<(tq.length:Int)+3:=by omega
  have UC:(0:Int)<(tq.length:Int)+2:=by omega
  simp[PO]at FU;simp[FU,p3.arr,c0,hk,uc,nJ,EI,UC];refine pz p3 hk fun h4 p4 k4=>?_;have lw:=ok.text w (p3.mem sp);simp;refine gM p4 ho fun h5 p5 k5=>?_;simp;refine cW _ p5 hs ?_;have K:=k4.trans k5;have g5:=(K.old iA lA (by simp[FT])).trans gA;have x5:=x3.x K;have KJ:=uW.trans K;have lA5:iA<h5.next:=aw lA K.next;simp;have lga:=ha.len;simp[Tag.strict]at lga;obtain⟨I,hI⟩:∃I:Nat->St->Prop,I=(fun m x=>∃qs av cs k1 zy M more,m=cs.length/\(more=true->∃l2,G .args b cs dh (.es l2)/\qs.map Prod.snd++l2=es/\dh.length<cs.length)/\(more=false->cs=dh/\qs.map Prod.snd=es)/\cs.length<=tq.length/\qs.length+cs.length<=tq.length/\x.n=97/\x.ds=[]/\x.bI=false/\dP X x.h av qs/\(∀q,q∈qs->jV (aK av++X) x.h q.1 q.2)/\nj (qs.map Prod.snd)<=M/\2*M+dh.length<=tq.length+b+1/\zy+cs.length<=nd+tq.length/\iD r a W el ec k1 cs zy fn dp x.h/\
   (∀z,z∈aK av->h.next<=z/\z≠iA/\z<x.h.next)/\aQ [r] h x.h/\iA<x.h.next/\x.h.get iA=some (.C [.I pl.1,.I pl.2])/\
   x.rg.get 0=some (.P r)/\x.rg.get 3=some (.P iA)/\x.rg.get 5=some (.str w.text)/\x.rg.get 6=some av/\x.rg.get 7=some (.bool more)):=⟨_,rfl⟩
  refine bW I tq.length (by rw[hI];exact⟨[],.Z,tq,_,nd,0,true,rfl,fun _=>⟨_,ha,sp,om⟩,sp,ao _,sp,rfl,rfl,rfl,.inl ⟨rfl,rfl⟩,sp,by simp[nj],om,om,p5,by simp[aK],KJ,lA5,g5,sp,sp,sp,sp,sp⟩) ?_;clear p5 p4 p3 k4 k5 K g5 x5 KJ lA5 gA uW x3 FU c0 c1 c2 d0 d3 l5 l3 lA;intro m st fI;have lQ:=fI;rw[hI]at lQ;obtain⟨rg,n,H,ds,bI⟩:=st;obtain⟨qs,av,cs,k1,zy,M,more,rfl,HS,QV,zo,qZ,e1,e2,e3,arr,sub,hM,hM2,Kn,p1,hz,Og,lA,gA,r0,r3,r5,r6,r7⟩:=lQ;clear fI;dsimp only at e1 e2 e3 arr sub p1 hz Og lA gA r0 r3 r5 r6 r7;subst e1 e2 e3;have nx1:=Og.next;cases more with
  |false=>
   obtain⟨rfl,wC⟩:=QV rfl;rw[wC]at hM;obtain⟨ab,rfl⟩:∃ab,av= .slice ab qs.length:=by
    rcases arr with⟨rfl,rfl⟩|⟨b,rfl,_,_⟩
    ·exact⟨none,rfl⟩
    ·exact⟨some (b,0),rfl⟩
   simp[r0,r3,r5,r6,r7,gA];have abe:∀q,q∈qs->jV X H q.1 q.2:=fun q hq=>(sub q hq).move (X:=aK (.slice ab qs.length)++X) ⟨fun i o g hi=>⟨g,fun hx=>hi (bJ _ hx)⟩⟩;subst rO;refine rz (.call w.at w.text es) _ qs p1 (xo.x Og) arr wC abe (by simp;omega) (by have:=ok.len;have:=p1.len;omega) om fun UB h7 e7 p7 k7=>?_;simp;exact hQ _ _ _ _ e7 (by simp<;>omega) om p7 (Og.trans k7)
  |true=>
   obtain⟨l2,hga,nJ,XI⟩:=HS rfl;have fst:∃tN c ea,G (.bin 0) b cs (c::tN) (.e ea)/\((ja c [41]/\tN=dh/\qs.map Prod.snd++[ea]=es)\/(ja c [44]/\∃l3,G .args b tN dh (.es l3)/\(qs.map Prod.snd++[ea])++l3=es)):=by
    cases hga with
    |yP he hc=>exact⟨_,_,_,he,.inl ⟨hc,rfl,nJ⟩⟩
    |L2 he hc hr=>exact⟨_,_,_,he,.inr ⟨hc,_,hr,by rw[<-nJ];simp⟩⟩
   obtain⟨tN,c,ea,he,Oe⟩:=fst;have lh:=he.len;simp[Tag.strict]at lh;have xo2:Bh r (aK av++X) H:=⟨bJ _ xo.r,fun y hy=>by
    rcases aP.1 hy with hy|hy
    ·exact(hz y hy).2.2
    ·exact(xo.x Og).lt y hy⟩
   simp[r0,r3,r5,r6,r7];refine IH (.bin 0) b cs _ _ (by simp[nC,rB];omega) he r a W el ec _ zy fn dp H (aK av++X) _ ok p1 xo2 om om om fun sR k5 PL h5 e5 l5 n5 p5 ot=>?_;simp only[ai]at l5 n5;have Td:=arr.move (Move.r p1.fr (xo.x Og) ot);have K6:=(aS.refl h5).alloc (.cells true 1 [.P sR]);have og:=Td.move (Move.k p5.fr K6);have p6:=p5.aJ K6;obtain⟨h7,j8,tX,g7,k7⟩:=xW (st:=220) (e:=171) rfl ty171.1 ty171.2.1 dc ty171.2.2.2 og (by have:=ok.len;have:=p1.len;omega) h5.next sR ea sp p6.fr;have nn7:=k7.next;simp[-aO];rw[j8];simp[-aO,r0];have hZ:=og.ne p6 xo.r;have p7:=p6.app k7 hZ;have hmv:Move (aK av++X) ([(h5.alloc (.cells true 1 [.P sR])).2.next]++X) (h5.alloc (.cells true 1 [.P sR])).2 h7:=Move.of p6.fr k7 (fun z hz _=>gS _ hz) fun y hy=>by
    rcases aP.1 hy with hy|hy
    ·simp at hy;right;simp;omega
    ·exact .inl (bJ _ hy)
   have e7:=(e5.move (Move.k p5.fr K6)).move hmv;have adS:∀q,q∈qs->jV ([(h5.alloc (.cells true 1 [.P sR])).2.next]++X) h7 q.1 q.2:=fun q hq=>(((sub q hq).move (Move.r p1.fr xo2 ot)).move (Move.k p5.fr K6)).move hmv;have wa:(h5.alloc (.cells true 1 [.P sR])).2.next=h5.next+1:=by simp
   have x5:=xo.x (Og.trans ot);have Hy:=ot.next;have Ci:dP X h7 (.S (h5.next+1) (qs.length+1)) (qs++[(sR,ea)]):= .inr ⟨h5.next+1,sp,x5.nx om,by rw[<-wa];exact g7⟩;have BW:aQ [r] h h7:=((Og.trans ot).trans (K6.x _)).trans' k7 (fun z Gs cX=>by have:=(hz z Gs).1;omega);have gA7:=(k7.old iA (by simp;omega) (fun Gs=>(hz iA Gs).2.1 rfl)).trans ((K6.old iA om).trans ((ot.old iA lA (by simp[FT])).trans gA));rw[wa]at e7 adS tX;have lA7:iA<h7.next:=om;have adT:∀q,q∈qs++[(sR,ea)]->jV (aK (.S (h5.next+1) (qs.length+1))++X) h7 q.1 q.2:=by
    intro q hq;rcases aP.1 hq with hq|hq
    ·exact adS q hq
    ·simp at hq;subst hq;exact e7
   have adU:nj ((qs++[(sR,ea)]).map Prod.snd)<=max M ea.dJ:=by
    rw[j7,Ao];simp;omega
   have adV:(qs++[(sR,ea)]).map Prod.snd=qs.map Prod.snd++[ea]:=sp;have WR:∀z,z∈aK (.S (h5.next+1) (qs.length+1))->h.next<=z/\z≠iA/\z<h7.next:=by
    intro z Gs;simp[aK]at Gs;subst Gs;exact⟨om,om,om⟩
   rcases Oe with⟨hc,rfl,wC⟩|⟨hc,l3,hr,wC⟩
   ·refine cW _ p7 (by simp[hc.du]) ?_;simp[r0];refine jb p7 hc fun h8 p8 k8=>?_;have El:Move (aK (.S (h5.next+1) (qs.length+1))++X) (aK (.S (h5.next+1) (qs.length+1))++X) h7 h8:=Move.of p7.fr k8 (fun z hz _=>by simp at hz;subst hz;exact bJ _ xo.r) fun _ hy=> .inl hy;have nn8:=k8.next;simp[r0];refine⟨tN.length,om,?_⟩;rw[hI];exact⟨qs++[(sR,ea)],.S (h5.next+1) (qs.length+1),_,_,PL,max M ea.dJ,false,rfl,sp,fun _=>⟨rfl,by rw[adV];exact wC⟩,om,by simp;omega,rfl,rfl,rfl,Ci.move (Move.r p7.fr (xo.x BW) k8),fun q hq=>(adT q hq).move El,adU,om,om,p8,fun z Gs=>⟨(WR z Gs).1,(WR z Gs).2.1,aw (WR z Gs).2.2 nn8⟩,BW.trans k8,aw lA7 nn8,(k8.old iA lA7 (by simp[FT])).trans gA7,by simp[r0],by simp[r3],by simp[r5],sp,sp⟩
   ·refine gM p7 hc fun h8 p8 k8=>?_;have El:Move (aK (.S (h5.next+1) (qs.length+1))++X) (aK (.S (h5.next+1) (qs.length+1))++X) h7 h8:=Move.of p7.fr k8 (fun z hz _=>by simp at hz;subst hz;exact bJ _ xo.r) fun _ hy=> .inl hy;have nn8:=k8.next;have lhr:=hr.len;simp[Tag.strict]at lhr;simp[r0];refine⟨tN.length,om,?_⟩;rw[hI];exact⟨qs++[(sR,ea)],.S (h5.next+1) (qs.length+1),_,_,PL,max M ea.dJ,true,rfl,fun _=>⟨l3,hr,by rw[adV];exact wC,om⟩,sp,om,by simp;omega,rfl,rfl,rfl,Ci.move (Move.r p7.fr (xo.x BW) k8),fun q hq=>(adT q hq).move El,adU,om,om,p8,fun z Gs=>⟨(WR z Gs).1,(WR z Gs).2.1,aw (WR z Gs).2.2 nn8⟩,BW.trans k8,aw lA7 nn8,(k8.old iA lA7 (by simp[FT])).trans gA7,by simp[r0],by simp[r3],by simp[r5],sp,sp⟩
 |@paren b o c tq _ _ ho he hc=>
  refine ru _ p3 ?_;simp only[ai]at hn hd hQ;simp[ho.du];refine xy ho (IH (.bin 0) b tq _ _ (by simp[nC,rB];omega) he) hc ok p3 x3 om om om fun id k4 nd4 h4 e4 l4 n4 p4 k4=>?_;simp;exact hQ _ _ _ _ e4 om om p4 (uW.trans k4)
 |@Cf b w o c _ hw ho hc=>
  refine ru _ p3 ?_;simp only[ai]at hn hd hQ;simp[hw.du];refine gM p3 hw fun h4 p4 k4=>?_;simp;refine jb p4 ho fun h5 p5 k5=>?_;simp;refine jb p5 hc fun h6 p6 k6=>?_;have K:=(k4.trans k5).trans k6;have g6:=(K.old iA lA (by simp[FT])).trans gA;simp[g6];subst rO;refine rz (.Cf w.at) _ [] p6 (x3.x K) (.inl ⟨rfl,rfl⟩) rfl sp (by simp<;>omega) sp om fun UB h7 e7 p7 k7=>?_;simp;exact hQ _ _ _ _ e7 (by simp<;>omega) om p7 ((uW.trans K).trans k7)
 |@size b w o c tq cq _ t0 tyn hw ho ht ha hc=>
  have lT:=ht.kj;have lA':=ha.kj;refine ru _ p3 ?_;simp only[ai]at hn hd hQ lA';simp[hw.du];refine cW _ p3 (by simp[hw.du]) ?_;simp;refine gM p3 hw fun h4 p4 k4=>?_;simp;refine jb p4 ho fun h5 p5 k5=>?_;simp;refine D3 ok ht p5 fun k' h6 Gp p6 k6=>?_;simp;refine Ar ok ha om p6 fun k'' h7 WW p7 k7=>?_;simp;refine jb p7 hc fun h8 p8 k8=>?_;have K:=(((k4.trans k5).trans k6).trans k7).trans k8;have g8:=(K.old iA lA (by simp[FT])).trans gA;simp[g8];subst rO;refine rz (.size w.at tyn) _ [] p8 (x3.x K) (.inl ⟨rfl,rfl⟩) rfl sp (by simp<;>omega) sp om fun id9 h9 e9 p9 k9=>?_;simp;exact hQ _ _ _ _ e9 (by simp<;>omega) om p9 ((uW.trans K).trans k9)
end
end
section
attribute [local simp] aI
attribute [simp] fp.kd fp.pos fp.vV fp.vW fp.eO fp.LW fp.list fp.dJ tM oO
structure SD where
 kk:Int
 l:Int
 c:Int
 nm:List UInt8
 ty:List UInt8
 ev:AV
 tv:AV
 av:AV
 eo:Option Ex
 to:Option Ex
 ss:List (Nat×Sm)
def SD.obj(d:SD):ej:=(.C [.I d.kk,.I d.l,.I d.c,.str d.nm,.str d.ty,d.ev,d.tv,d.av,.I 0])
structure Mk(r:Nat)(X:List Nat)(h:ah)(iT cl:Nat)(d:SD)(H:ah):Prop where
 get:H.get iT=some d.obj
 lo:h.next<=iT
 lt:iT<H.next
 kx:aQ [r] h H
 xo:Bh r X h
 he:tK (aK d.av++iT::X) H d.ev d.eo
 ho:tK (aK d.av++iT::X) H d.tv d.to
 arr:dP (iT::X) H d.av d.ss
 sub:∀q,q∈d.ss->uT (aK d.av++iT::X) H q.1 q.2
 z:∀z,z∈aK d.av->h.next<=z/\z≠iT/\z≠cl/\z<H.next
structure Cl(r:Nat)(h:ah)(iT cl:Nat)(H:ah):Prop where
 get:H.get cl=some (.C [.P r])
 lo:h.next<=cl
 lt:cl<H.next
 ne:cl≠iT
 nr:cl≠r
theorem Move.on{X:List Nat}{h:ah}{i:Nat}(o:ej)(hi:i∈X):Move X X h (h.set i o):=
 ⟨fun j u gj hj=>⟨by rw[ah.aM,az (by rintro rfl;exact hj hi)];exact gj,hj⟩⟩
theorem Move.less{X Y:List Nat}{h:ah}(hy:∀y,y∈Y->y∈X):Move X Y h h:=
 ⟨fun j u gj hj=>⟨gj,fun hx=>hj (hy j hx)⟩⟩
theorem Move.comp{X Y Z:List Nat}{h h' h'':ah}(m:Move X Y h h')(m':Move Y Z h' h''):Move X Z h h'':=
 ⟨fun j u gj hj=>m'.aJ j u (m.aJ j u gj hj).1 (m.aJ j u gj hj).2⟩
theorem cM.put{h:ah}(f:cM h){i:Nat}(o:ej)(hi:i<h.next):cM (h.set i o):=fun j hj=>by
 have hj:h.next<=j:=hj;rw[ah.aM,az om];exact f j hj
section
variable{X:List Nat}{Q:Out->ah->Prop}{r a:Nat}{W:List Wo}{el ec:Int}{k:Nat}{ws:List Wo}{nd fn dp:Nat}{h H H':ah}{iT cl:Nat}{d:SD}
theorem iD.put(p:iD r a W el ec k ws nd fn dp h){i:Nat}(o:ej)(h1:i≠r)(h2:i≠a)(hi:i<h.next):iD r a W el ec k ws nd fn dp (h.set i o):=
 ⟨by rw[ah.aM,az (iw h1)];exact p.obj,by rw[ah.aM,az (iw h2)];exact p.arr,p.drop,p.len,p.ne,p.rl,p.al,p.fr.put o hi⟩
theorem Mk.pQ(m:Mk r X h iT cl d H):Bh r (aK d.av++iT::X) H:=⟨bJ _ (ay _ m.xo.r),fun y hy=>by
 rcases aP.1 hy with hy|hy
 ·exact(m.z y hy).2.2.2
 ·rcases aq.1 hy with rfl|hy
  ·exact m.lt
  ·exact(m.xo.x m.kx).lt y hy⟩
theorem Mk.nr(m:Mk r X h iT cl d H):iT≠r:=by have:=m.xo.lt r m.xo.r;have:=m.lo;omega
theorem Mk.mv(m:Mk r X h iT cl d H)(fr:cM H)(kx:aQ [r] H H'):Move (aK d.av++iT::X) (aK d.av++iT::X) H H':=Move.r fr m.pQ kx
theorem Mk.call(m:Mk r X h iT cl d H)(fr:cM H)(kx:aQ [r] H H'):Mk r X h iT cl d H':=by
 have mv:=m.mv fr kx;have WX:Move (iT::X) (iT::X) H H':=Move.r fr ⟨ay _ m.xo.r,fun y hy=>m.pQ.lt y (bJ _ hy)⟩ kx;have nx:=kx.next;exact⟨(kx.old iT m.lt (by simp[m.nr])).trans m.get,m.lo,aw m.lt nx,m.kx.trans kx,m.xo,m.he.move mv,m.ho.move mv,m.arr.move WX,fun q hq=>(m.sub q hq).move mv,fun z hz=>⟨(m.z z hz).1,(m.z z hz).2.1,(m.z z hz).2.2.1,aw (m.z z hz).2.2.2 nx⟩⟩
theorem Mk.aJ(m:Mk r X h iT cl d H)(fr:cM H)(kk':aS H H'):Mk r X h iT cl d H':=m.call fr (kk'.x _)
theorem Mk.put(m:Mk r X h iT cl d H)(p:iD r a W el ec k ws nd fn dp H)(al:a<h.next)(d':SD)(rQ:d'.av=d.av)(hss:d'.ss=d.ss)(he:tK (aK d.av++iT::X) H d'.ev d'.eo)(ho:tK (aK d.av++iT::X) H d'.tv d'.to):
 ∃H',H.set iT d'.obj=H'/\Mk r X h iT cl d' H'/\iD r a W el ec k ws nd fn dp H'/\(Cl r h iT cl H->Cl r h iT cl H'):=by
 have mv:∀o,Move (aK d.av++iT::X) (aK d.av++iT::X) H (H.set iT o):=fun o=>Move.on o (bJ _ (aY ..));have WX:∀o,Move (iT::X) (iT::X) H (H.set iT o):=fun o=>Move.on o (aY ..);exact⟨_,rfl,⟨by rw[ah.aM,aW rfl],m.lo,m.lt,aQ.set _ m.kx (.inr m.lo) m.lt,m.xo,by rw[rQ];exact he.move (mv _),by rw[rQ];exact ho.move (mv _),by rw[rQ,hss];exact m.arr.move (WX _),fun q hq=>by rw[rQ];rw[hss]at hq;exact(m.sub q hq).move (mv _),by rw[rQ];exact m.z⟩,p.put _ m.nr (by have:=m.lo;omega) m.lt,fun cc=>⟨by rw[ah.aM,az cc.ne];exact cc.get,cc.lo,cc.lt,cc.ne,cc.nr⟩⟩
theorem Mk.agi(m:Mk r X h iT cl d H):dP X H d.av d.ss:=m.arr.move (Move.less fun y hy=>ay _ hy)
theorem Mk.abe(m:Mk r X h iT cl d H):∀q,q∈d.ss->uT X H q.1 q.2:=fun q hq=>(m.sub q hq).move (Move.less fun y hy=>bJ _ (ay _ hy))
theorem Mk.heX(m:Mk r X h iT cl d H):tK X H d.ev d.eo:=m.he.move (Move.less fun y hy=>bJ _ (ay _ hy))
theorem Mk.Se(m:Mk r X h iT cl d H):tK X H d.tv d.to:=m.ho.move (Move.less fun y hy=>bJ _ (ay _ hy))
theorem Cl.call(cc:Cl r h iT cl H)(kx:aQ [r] H H'):Cl r h iT cl H':=⟨(kx.old cl cc.lt (by simp[cc.nr])).trans cc.get,cc.lo,aw cc.lt kx.next,cc.ne,cc.nr⟩
theorem Cl.aJ(cc:Cl r h iT cl H)(kx:aS H H'):Cl r h iT cl H':=cc.call (kx.x _)
theorem Cl.put(cc:Cl r h iT cl H)(o:ej):Cl r h iT cl (H.set iT o):=⟨by rw[ah.aM,az cc.ne];exact cc.get,cc.lo,cc.lt,cc.ne,cc.nr⟩
theorem Mk.new{h1:ah}(o:ej)(kx:aQ [r] h h1)(xo:Bh r X h)(kk l c:Int)(nm ty:List UInt8):Mk r X h h1.next cl ⟨kk,l,c,nm,ty,.N,.N,.Z,none,none,[]⟩ ((h1.alloc o).2.set h1.next (SD.obj ⟨kk,l,c,nm,ty,.N,.N,.Z,none,none,[]⟩)):=
 ⟨by rw[ah.aM,aW rfl],kx.next,sp,by have:=kx.next;exact kX,xo,.inl ⟨rfl,rfl⟩,.inl ⟨rfl,rfl⟩,.inl ⟨rfl,rfl⟩,sp,by simp[aK]⟩
theorem Mk.end(m:Mk r X h iT cl d H)(p:iD r a W el ec k ws nd fn dp H)(s:Sm)(h1:d.kk=s.kd/\(d.l,d.c)=s.pos/\d.nm=s.vV/\d.ty=s.vW/\d.eo=s.eO/\d.to=s.LW/\d.ss.map Prod.snd=s.list)(hM2:s.dJ<=200)(la:d.ss.length<=300)(hn:nd+1<=20000)
 (hQ:∀id h',uT X h' id s->iD r a W el ec k ws (nd+1) fn dp h'->aQ [r] H h'->Q (.ret (.P id)) h'):
 aV env 84 [.P r,.agg [.I d.kk,.I d.l,.I d.c,.str d.nm,.str d.ty,d.ev,d.tv,d.av,.I 0]] H Q:=by
 obtain⟨a1,a2,a3,a4,a5,a6,a7⟩:=h1;have e1:d.l=s.pos.1:=wz Prod.fst a2;have e2:d.c=s.pos.2:=wz Prod.snd a2;rw[a1,e1,e2,a3,a4];exact abd s d.ev d.tv d.av d.ss p (m.xo.x m.kx) (a5▸m.heX) (a6▸m.Se) m.agi a7 m.abe hM2 la hn hQ
theorem abg{b:Nat}{dh:List Wo}{so:Sm}(IH:Hv (nC .dec ws))(hG:G .dec b ws dh (.s so)):Spec .dec b ws dh (.s so):=by
 intro r a W el ec k nd fn dp h X Q ok p xo hn hd hb hQ;refine wb fn82 rfl ?_;have jv:=hG.dJ;simp only[Tag.cap,Re.dJ]at jv;obtain⟨n,Ii,ty,hT,hk,hc⟩:∃n Ii ty,yz ws (n::Ii) ty/\n.kind=1/\((∃c ty2,du Ii [61]=false/\Kz Ii (c::dh) ty ty2/\ja c [59]/\so= .decl n.at ty2 n.text none)\/(∃q cq c b1 e,Ii=q::cq/\ja q [61]/\b=b1+1/\G (.bin 0) b1 cq (c::dh) (.e e)/\ja c [59]/\so= .decl n.at ty n.text (some e))):=by
  cases hG with
  |EM ht hn hs ha hc=>exact⟨_,_,_,ht,hn,.inl ⟨_,_,hs,ha,hc,rfl⟩⟩
  |Hm ht hn hq he hc=>exact⟨_,_,_,ht,hn,.inr ⟨_,_,_,_,_,rfl,hq,rfl,he,hc,rfl⟩⟩
 clear hG;have lT:=hT.kj;have Mq:ws.length<=250:=by have:=ok.len;have:=p.len;omega
 simp only[ai]at lT;simp[f82];refine D3 ok hT p fun k1 h1 Gp p1 Og=>?_;have nx1:=Og.next;simp;have m2:=Mk.new (cl:=0) (.C [.I 0,.I 0,.I 0,.str [],.str [],.N,.N,.Z,.I 0]) Og xo 3 0 0 [] ty;simp only[SD.obj]at m2;have p2:=p1.aJ (show aS h1 ((h1.alloc (.C [.I 0,.I 0,.I 0,.str [],.str [],.N,.N,.Z,.I 0])).2.set h1.next (.C [.I 3,.I 0,.I 0,.str [],.str ty,.N,.N,.Z,.I 0]))from kT);generalize (h1.alloc (.C [.I 0,.I 0,.I 0,.str [],.str [],.N,.N,.Z,.I 0])).2.set h1.next (.C [.I 3,.I 0,.I 0,.str [],.str ty,.N,.N,.Z,.I 0])=h2 at*;generalize h1.next=iT at*;have al:=p.al;refine Bg p2 fun h3 k3=>?_;have m3:=m2.aJ p2.fr k3;have p3:=p2.aJ k3;have g3:=m3.get;simp only[SD.obj]at g3;simp[g3,FM];clear m2 k3 p2;obtain⟨h4,e4,m4,p4,-⟩:=m3.put p3 al ⟨3,n.l,n.c,[],ty,.N,.N,.Z,none,none,[]⟩ rfl rfl (.inl ⟨rfl,rfl⟩) (.inl ⟨rfl,rfl⟩);simp only[SD.obj]at e4;rw[e4];clear e4 g3 m3 p3;refine pz p4 hk fun h5 p5 k5=>?_;have m5:=m4.call p4.fr k5;have g5:=m5.get;simp only[SD.obj]at g5;have ln:=ok.text n (p4.mem sp);simp[g5];obtain⟨h6,e6,m6,p6,-⟩:=m5.put p5 al ⟨3,n.l,n.c,n.text,ty,.N,.N,.Z,none,none,[]⟩ rfl rfl (.inl ⟨rfl,rfl⟩) (.inl ⟨rfl,rfl⟩);simp only[SD.obj]at e6;rw[e6];clear e6 g5 m5 p5 k5 m4 p4;rcases hc with⟨c,ty2,hs,ha,hc,rfl⟩|⟨q,cq,c,b1,e0,rfl,hq,rfl,he,hc,rfl⟩
 ·refine cW _ p6 hs ?_;have g6:=m6.get;simp only[SD.obj]at g6;simp[g6];have la:=ha.kj;simp only[ai]at la;refine Ar ok ha om p6 fun k7 h7 WW p7 BW=>?_;have m7:=m6.call p6.fr BW;have g7:=m7.get;simp only[SD.obj]at g7;simp[g7];obtain⟨h8,e8,m8,p8,-⟩:=m7.put p7 al ⟨3,n.l,n.c,n.text,ty2,.N,.N,.Z,none,none,[]⟩ rfl rfl (.inl ⟨rfl,rfl⟩) (.inl ⟨rfl,rfl⟩);simp only[SD.obj]at e8;rw[e8];refine jb p8 hc fun h9 p9 k9=>?_;have m9:=m8.call p8.fr k9;have g9:=m9.get;simp only[SD.obj]at g9;simp[g9];refine m9.end p9 (.decl n.at ty2 n.text none) ⟨rfl,rfl,rfl,rfl,rfl,rfl,rfl⟩ om sp om fun id xU s10 Oh Ig=>?_;simp;exact hQ _ _ _ _ s10 om om Oh (m9.kx.trans Ig)
 ·refine gM p6 hq fun h7 p7 k7=>?_;have m7:=m6.call p6.fr k7;have lh:=he.len;simp only[ai,Tag.strict]at lh lT;simp;refine IH (.bin 0) b1 cq _ _ (by simp[nC,rB];omega) he r a W el ec _ nd fn dp h7 (iT::X) _ ok p7 m7.pQ om om om fun id k8 nd8 h8 e8 l8 n8 p8 UD=>?_;have m8:=m7.call p7.fr UD;have g8:=m8.get;simp only[SD.obj]at g8;simp only[ai]at l8 n8;simp[g8];obtain⟨h9,e9,m9,p9,-⟩:=m8.put p8 al ⟨3,n.l,n.c,n.text,ty,.P id,.N,.Z,some e0,none,[]⟩ rfl rfl (.inr ⟨id,e0,rfl,rfl,e8⟩) (.inl ⟨rfl,rfl⟩);simp only[SD.obj]at e9;rw[e9];refine jb p9 hc fun xU Oh Ig=>?_;have m10:=m9.call p9.fr Ig;have g10:=m10.get;simp only[SD.obj]at g10;simp[g10];refine m10.end Oh (.decl n.at ty n.text (some e0)) ⟨rfl,rfl,rfl,rfl,rfl,rfl,rfl⟩ om sp om fun id EE s11 WY k11=>?_;simp;exact hQ _ _ _ _ s11 om om WY (m10.kx.trans k11)
end
end
end Go.Proofs.YtgebeldoibkkpaaGreatDoor
