/- Lemmas for CheckTurns; each states its own conditions. -/
import Derived.Test.YtaekaifihehgdaaGreatDoorD
set_option maxRecDepth 100000
set_option maxHeartbeats 0
set_option linter.unusedSimpArgs false
set_option linter.unusedVariables false
namespace Go.Proofs.YtaekaifihehgdaaGreatDoor
open Go.Am Tryz
abbrev Pl:=Int×Int
inductive Ex where
 |num (p:Pl) (n:Int)
 |var (p:Pl) (s:List UInt8)
 |un (p:Pl) (op:List UInt8) (a:Ex)
 |bin (p:Pl) (op:List UInt8) (a b:Ex)
 |cast (p:Pl) (ty:List UInt8) (a:Ex)
 |call (p:Pl) (f:List UInt8) (xs:List Ex)
 |index (p:Pl) (a i:Ex)
 |fN (p:Pl) (nm:List UInt8) (a:Ex)
 |arrow (p:Pl) (nm:List UInt8) (a:Ex)
 |qp (p:Pl)
 |size (p:Pl) (ty:List UInt8)
inductive dw where
 |block (p:Pl) (l:List dw)
 |empty (p:Pl)
 |decl (p:Pl) (ty nm:List UInt8) (e:Option Ex)
 |assign (p:Pl) (to e:Ex)
 |eval (p:Pl) (e:Ex)
 |ifs (p:Pl) (e:Ex) (s:dw)
 |wD (p:Pl) (e:Ex) (s t:dw)
 |wE (p:Pl) (e:Ex) (s:dw)
 |xq (p:Pl)
 |cont (p:Pl)
 |ret (p:Pl) (e:Option Ex)
 |out (p:Pl) (e:Ex)
abbrev Sm:=dw
structure Fd where
 ty:List UInt8
 nm:List UInt8
structure Pm where
 p:Pl
 AR:Bool
 ty:List UInt8
 nm:List UInt8
inductive It where
 |struct (p:Pl) (nm:List UInt8) (fs:List Fd)
 |global (p:Pl) (ty nm:List UInt8)
 |func (p:Pl) (ty nm:List UInt8) (ps:List Pm) (b:Sm)
abbrev nj:=List It
mutual
def Ex.cR:Ex->Nat
 | .num _ _=>1
 | .var _ _=>1
 | .un _ _ a=>a.cR+1
 | .bin _ _ a b=>max a.cR b.cR+1
 | .cast _ _ a=>a.cR+1
 | .call _ _ xs=>lJ xs+1
 | .index _ a i=>max a.cR i.cR+1
 | .fN _ _ a=>a.cR+1
 | .arrow _ _ a=>a.cR+1
 | .qp _=>1
 | .size _ _=>1
def lJ:List Ex->Nat
 |[]=>0
 |e::es=>max e.cR (lJ es)
end
mutual
def Ex.nodes:Ex->Nat
 | .num _ _=>1
 | .var _ _=>1
 | .un _ _ a=>a.nodes+1
 | .bin _ _ a b=>a.nodes+b.nodes+1
 | .cast _ _ a=>a.nodes+1
 | .call _ _ xs=>nV xs+1
 | .index _ a i=>a.nodes+i.nodes+1
 | .fN _ _ a=>a.nodes+1
 | .arrow _ _ a=>a.nodes+1
 | .qp _=>1
 | .size _ _=>1
def nV:List Ex->Nat
 |[]=>0
 |e::es=>e.nodes+nV es
end
def Ex.kd:Ex->Int
 | .num ..=>1
 | .var ..=>2
 | .un ..=>3
 | .bin ..=>4
 | .cast ..=>5
 | .call ..=>6
 | .index ..=>7
 | .fN ..=>8
 | .arrow ..=>9
 | .qp ..=>10
 | .size ..=>11
def Ex.pos:Ex->Pl
 | .num p _| .var p _| .un p _ _| .bin p _ _ _| .cast p _ _| .call p _ _| .index p _ _| .fN p _ _| .arrow p _ _| .qp p| .size p _=>p
def Ex.CQ:Ex->List UInt8
 | .un _ o _| .bin _ o _ _=>o
 |_=>[]
def Ex.uT:Ex->List UInt8
 | .var _ s| .call _ s _| .fN _ s _| .arrow _ s _=>s
 |_=>[]
def Ex.nI:Ex->Int
 | .num _ n=>n
 |_=>0
def Ex.uU:Ex->List UInt8
 | .cast _ t _| .size _ t=>t
 |_=>[]
def Ex.args:Ex->List Ex
 | .un _ _ a| .cast _ _ a| .fN _ _ a| .arrow _ _ a=>[a]
 | .bin _ _ a b| .index _ a b=>[a,b]
 | .call _ _ xs=>xs
 |_=>[]
def rP:Option Ex->Nat
 |none=>0
 |some e=>e.cR
def uB:Option Ex->Nat
 |none=>0
 |some e=>e.nodes
mutual
def dw.cR:dw->Nat
 | .block _ l=>mW l+1
 | .empty _=>1
 | .decl _ _ _ e=>rP e+1
 | .assign _ to e=>max e.cR to.cR+1
 | .eval _ e=>e.cR+1
 | .ifs _ e s=>max e.cR s.cR+1
 | .wD _ e s t=>max (max e.cR s.cR) t.cR+1
 | .wE _ e s=>max e.cR s.cR+1
 | .xq _=>1
 | .cont _=>1
 | .ret _ e=>rP e+1
 | .out _ e=>e.cR+1
def mW:List dw->Nat
 |[]=>0
 |s::l=>max s.cR (mW l)
end
mutual
def dw.nodes:dw->Nat
 | .block _ l=>eh l+1
 | .empty _=>1
 | .decl _ _ _ e=>uB e+1
 | .assign _ to e=>to.nodes+e.nodes+1
 | .eval _ e=>e.nodes+1
 | .ifs _ e s=>e.nodes+s.nodes+1
 | .wD _ e s t=>e.nodes+s.nodes+t.nodes+1
 | .wE _ e s=>e.nodes+s.nodes+1
 | .xq _=>1
 | .cont _=>1
 | .ret _ e=>uB e+1
 | .out _ e=>e.nodes+1
def eh:List dw->Nat
 |[]=>0
 |s::l=>s.nodes+eh l
end
def dw.kd:dw->Int
 | .block ..=>1
 | .empty ..=>2
 | .decl ..=>3
 | .assign ..=>4
 | .eval ..=>5
 | .ifs ..=>6
 | .wD ..=>6
 | .wE ..=>7
 | .xq ..=>8
 | .cont ..=>9
 | .ret ..=>10
 | .out ..=>11
def dw.pos:dw->Pl
 | .block p _| .empty p| .decl p _ _ _| .assign p _ _| .eval p _| .ifs p _ _| .wD p _ _ _| .wE p _ _| .xq p| .cont p| .ret p _| .out p _=>p
def dw.uT:dw->List UInt8
 | .decl _ _ n _=>n
 |_=>[]
def dw.uU:dw->List UInt8
 | .decl _ t _ _=>t
 |_=>[]
def dw.eO:dw->Option Ex
 | .decl _ _ _ e=>e
 | .assign _ _ e=>some e
 | .eval _ e=>some e
 | .ifs _ e _=>some e
 | .wD _ e _ _=>some e
 | .wE _ e _=>some e
 | .ret _ e=>e
 | .out _ e=>some e
 |_=>none
def dw.Ho:dw->Option Ex
 | .assign _ to _=>some to
 |_=>none
def dw.list:dw->List dw
 | .block _ l=>l
 | .ifs _ _ s=>[s]
 | .wD _ _ s t=>[s,t]
 | .wE _ _ s=>[s]
 |_=>[]
theorem Ex.Eh(e:Ex):e.cR=lJ e.args+1:=by cases e<;>simp[Ex.cR,lJ,Ex.args]
theorem Ex.pz(e:Ex):e.nodes=nV e.args+1:=by cases e<;>simp[Ex.nodes,nV,Ex.args]
theorem dw.Eh(s:dw):s.cR=max (max (rP s.eO) (rP s.Ho)) (mW s.list)+1:=by cases s<;>simp[dw.cR,mW,dw.eO,dw.Ho,dw.list,rP]<;>omega
theorem dw.pz(s:dw):s.nodes=uB s.eO+uB s.Ho+eh s.list+1:=by cases s<;>simp[dw.nodes,eh,dw.eO,dw.Ho,dw.list,uB]<;>omega
theorem yF(a b:List Ex):lJ (a++b)=max (lJ a) (lJ b):=by
 induction a with
 |nil=>simp[lJ]
 |cons x a e=>simp[lJ,e]<;>omega
theorem Ei(a b:List Sm):mW (a++b)=max (mW a) (mW b):=by
 induction a with
 |nil=>simp[mW]
 |cons x a e=>simp[mW,e]<;>omega
def bF(ws:List Wo)(s:List UInt8):Bool:=match ws with
 |[]=>false
 |w::_=>(w.text==s)&&decide (3<=w.kind)
def anyS(ws:List Wo)(l:List (List UInt8)):Bool:=l.any (bF ws)
structure eX(w:Wo)(s:List UInt8):Prop where
 t:w.text=s
 k:3<=w.kind
theorem oe{ws:dh}{s:bu}:bF ws s=true↔∃w r,ws=w::r/\eX w s:=by
 cases ws with
 |nil=>simp[bF]
 |cons w r=>simp[bF];exact⟨λh=>⟨h.1,h.2⟩,λh=>⟨h.1,h.2⟩⟩
theorem eX.bF{w:Wo}{s s':bu}{r:dh}(h:eX w s):Go.Proofs.YtaekaifihehgdaaGreatDoor.bF (w::r) s'=(s==s'):=by
 simp[Go.Proofs.YtaekaifihehgdaaGreatDoor.bF,h.t,h.k]
theorem dY{w:Wo}{ws:dh}{s:bu}(h:w.kind<3):bF (w::ws) s=false:=by
 have:¬3<=w.kind:=om
 simp[bF,this]
def wJ:List (List UInt8):=[[99,104,97,114],[105,110,116],[108,111,110,103],[118,111,105,100],[115,116,114,117,99,116]]
def vm:List (List UInt8):=[[45],[126],[33],[42],[38]]
def ly:List (List (List UInt8)):=[[[124,124]],[[38,38]],[[124]],[[94]],[[38]],[[61,61],[33,61]],[[60],[60,61],[62],[62,61]],[[60,60],[62,62]],[[43],[45]],[[42],[47],[37]]]
def dF(ws:List Wo):Bool:=anyS ws wJ
def kL(ws:List Wo):Nat->List (List (List UInt8))->Int
 |_,[]=>-1
 |i,l::r=>if anyS ws l=true then(i:Int)else kL ws (i+1) r
def iZ(ws:List Wo):Int:=kL ws 0 ly
def Cr(ws:List Wo):Bool:=anyS ws [[123],[59],[105,102],[119,104,105,108,101],[98,114,101,97,107],[99,111,110,116,105,110,117,101],[114,101,116,117,114,110],[111,117,116]]
def jy(n:Int):List UInt8:=oJ 20 n.toNat
inductive pH:List Wo->List Wo->List UInt8->Prop where
 |done {ws:List Wo} (h:bF ws [42]=false):pH ws ws []
 |star {w:Wo} {ws bQ:List Wo} {s:List UInt8} (h:eX w [42]) (hr:pH ws bQ s):pH (w::ws) bQ (42::s)
inductive vj:List Wo->List Wo->List UInt8->Prop where
 |base {w:Wo} {ws bQ:List Wo} {s:List UInt8} (h:dF (w::ws)=true) (hn:w.text≠[115,116,114,117,99,116]) (hs:pH ws bQ s):vj (w::ws) bQ (w.text++s)
 |struct {w n:Wo} {ws bQ:List Wo} {s:List UInt8} (h:eX w [115,116,114,117,99,116]) (hn:n.kind=1) (hs:pH ws bQ s):vj (w::n::ws) bQ (([115,116,114,117,99,116,32]++n.text)++s)
inductive Eb:List Wo->List Wo->List UInt8->List UInt8->Prop where
 |none {ws:List Wo} {t:List UInt8} (h:bF ws [91]=false):Eb ws ws t t
 |some {o n c:Wo} {ws:List Wo} {t:List UInt8} (h:eX o [91]) (hn:n.kind=2) (hc:eX c [93]):Eb (o::n::c::ws) ws t (t++[91]++jy n.n++[93])
def Wo.at(w:Wo):Pl:=(w.l,w.c)
def De(el ec:Int):List Wo->Pl
 |[]=>(el,ec)
 |w::_=>(w.l,w.c)
def JR:List Wo->Pl
 |[]=>(0,0)
 |w::_=>(w.l,w.c)
inductive Tag where
 |ed|args|jx (e:Ex)|un|bin (l:Nat)|steps (l:Nat) (e:Ex)|ub|L8|dec|pW
inductive Re where
 |e (e:Ex)|es (l:List Ex)|s (s:Sm)|ss (l:List Sm)
inductive G:Tag->Nat->List Wo->List Wo->Re->Prop where
 |num {b:Nat} {w:Wo} {ws:List Wo} (h:w.kind=2):G .ed b (w::ws) ws (.e (.num w.at w.n))
 |var {b:Nat} {w:Wo} {ws:List Wo} (h:w.kind=1) (hs:bF ws [40]=false):G .ed b (w::ws) ws (.e (.var w.at w.text))
 |tT {b:Nat} {w o c:Wo} {ws:List Wo} (h:w.kind=1) (ho:eX o [40]) (hc:eX c [41]):G .ed b (w::o::c::ws) ws (.e (.call w.at w.text []))
 |call {b:Nat} {w o:Wo} {ws bQ:List Wo} {l:List Ex} (h:w.kind=1) (ho:eX o [40]) (hs:bF ws [41]=false) (ha:G .args b ws bQ (.es l)):G .ed (b+1) (w::o::ws) bQ (.e (.call w.at w.text l))
 |paren {b:Nat} {o c:Wo} {ws bQ:List Wo} {e:Ex} (ho:eX o [40]) (he:G (.bin 0) b ws (c::bQ) (.e e)) (hc:eX c [41]):G .ed (b+1) (o::ws) bQ (.e e)
 |qp {b:Nat} {w o c:Wo} {ws:List Wo} (h:eX w [105,110]) (ho:eX o [40]) (hc:eX c [41]):G .ed b (w::o::c::ws) ws (.e (.qp w.at))
 |size {b:Nat} {w o c:Wo} {ws bQ dR:List Wo} {t t':List UInt8} (h:eX w [115,105,122,101,111,102]) (ho:eX o [40]) (ht:vj ws bQ t) (ha:Eb bQ (c::dR) t t') (hc:eX c [41]):G .ed b (w::o::ws) dR (.e (.size w.at t'))
 |Ec {b:Nat} {c:Wo} {ws bQ:List Wo} {e:Ex} (he:G (.bin 0) b ws (c::bQ) (.e e)) (hc:eX c [41]):G .args b ws bQ (.es [e])
 |Co {b:Nat} {c:Wo} {ws bQ dR:List Wo} {e:Ex} {l:List Ex} (he:G (.bin 0) b ws (c::bQ) (.e e)) (hc:eX c [44]) (hr:G .args b bQ dR (.es l)):G .args b ws dR (.es (e::l))
 |uV {b:Nat} {ws:List Wo} {e:Ex} (h:anyS ws [[91],[46],[45,62]]=false):G (.jx e) b ws ws (.e e)
 |Aw {b:Nat} {o c:Wo} {ws bQ dR:List Wo} {e i e':Ex} (ho:eX o [91]) (he:G (.bin 0) b ws (c::bQ) (.e i)) (hc:eX c [93]) (hs:G (.jx (.index o.at e i)) (b+1) bQ dR (.e e')):G (.jx e) (b+1) (o::ws) dR (.e e')
 |Ax {b:Nat} {o n:Wo} {ws bQ:List Wo} {e e':Ex} (ho:eX o [46]) (hn:n.kind=1) (hs:G (.jx (.fN o.at n.text e)) b ws bQ (.e e')):G (.jx e) b (o::n::ws) bQ (.e e')
 |Ay {b:Nat} {o n:Wo} {ws bQ:List Wo} {e e':Ex} (ho:eX o [45,62]) (hn:n.kind=1) (hs:G (.jx (.arrow o.at n.text e)) b ws bQ (.e e')):G (.jx e) b (o::n::ws) bQ (.e e')
 |unop {b:Nat} {o:Wo} {ws bQ:List Wo} {e:Ex} (ho:anyS (o::ws) vm=true) (hu:G .un b ws bQ (.e e)):G .un (b+1) (o::ws) bQ (.e (.un o.at o.text e))
 |cast {b:Nat} {o c:Wo} {ws bQ dR:List Wo} {e:Ex} {t:List UInt8} (ho:eX o [40]) (ht:dF ws=true) (hT:vj ws (c::bQ) t) (hc:eX c [41]) (hu:G .un b bQ dR (.e e)):G .un (b+1) (o::ws) dR (.e (.cast o.at t e))
 |post {b:Nat} {ws bQ dR:List Wo} {e e':Ex} (h1:anyS ws vm=false) (h2:bF ws [40]=false\/dF ws.tail=false) (hp:G .ed b ws bQ (.e e)) (hs:G (.jx e) b bQ dR (.e e')):G .un b ws dR (.e e')
 |bin {b l:Nat} {ws bQ dR:List Wo} {e e':Ex} (hu:G .un b ws bQ (.e e)) (hs:G (.steps l e) b bQ dR (.e e')) (hl:iZ dR<l):G (.bin l) b ws dR (.e e')
 |stop {b l:Nat} {ws:List Wo} {e:Ex}:G (.steps l e) b ws ws (.e e)
 |step {b l n:Nat} {o:Wo} {ws bQ dR:List Wo} {e r e':Ex} (ho:iZ (o::ws)=n) (hl:l<=n) (hr:G (.bin (n+1)) b ws bQ (.e r)) (hs:G (.steps l (.bin o.at o.text e r)) b bQ dR (.e e')):G (.steps l e) b (o::ws) dR (.e e')
 |ub {b:Nat} {o:Wo} {ws bQ:List Wo} {l:List Sm} (ho:eX o [123]) (hl:G .L8 b ws bQ (.ss l)):G .ub b (o::ws) bQ (.s (.block o.at l))
 |zp {b:Nat} {c:Wo} {ws:List Wo} (hc:eX c [125]):G .L8 b (c::ws) ws (.ss [])
 |Az {b:Nat} {ws bQ dR:List Wo} {s:Sm} {l:List Sm} (hs:bF ws [125]=false) (ht:dF ws=true) (hd:G .dec b ws bQ (.s s)) (hl:G .L8 b bQ dR (.ss l)):G .L8 b ws dR (.ss (s::l))
 |AA {b:Nat} {ws bQ dR:List Wo} {s:Sm} {l:List Sm} (hs:bF ws [125]=false) (ht:dF ws=false) (hd:G .pW b ws bQ (.s s)) (hl:G .L8 b bQ dR (.ss l)):G .L8 b ws dR (.ss (s::l))
 |zu {b:Nat} {n c:Wo} {ws bQ dR:List Wo} {t t':List UInt8} (ht:vj ws (n::bQ) t) (hn:n.kind=1) (hs:bF bQ [61]=false) (ha:Eb bQ (c::dR) t t') (hc:eX c [59]):G .dec b ws dR (.s (.decl n.at t' n.text none))
 |AB {b:Nat} {n q c:Wo} {ws bQ dR:List Wo} {t:List UInt8} {e:Ex} (ht:vj ws (n::q::bQ) t) (hn:n.kind=1) (hq:eX q [61]) (he:G (.bin 0) b bQ (c::dR) (.e e)) (hc:eX c [59]):G .dec (b+1) ws dR (.s (.decl n.at t n.text (some e)))
 |uD {b:Nat} {ws bQ:List Wo} {s:Sm} (hs:bF ws [123]=true) (hb:G .ub b ws bQ (.s s)):G .pW (b+1) ws bQ (.s s)
 |uE {b:Nat} {c:Wo} {ws:List Wo} (hc:eX c [59]):G .pW b (c::ws) ws (.s (.empty c.at))
 |CT {b:Nat} {i o c:Wo} {ws bQ dR:List Wo} {e:Ex} {s:Sm} (hi:eX i [105,102]) (ho:eX o [40]) (he:G (.bin 0) b ws (c::bQ) (.e e)) (hc:eX c [41]) (hs:G .pW b bQ dR (.s s)) (hn:bF dR [101,108,115,101]=false):G .pW (b+1) (i::o::ws) dR (.s (.ifs i.at e s))
 |tU {b:Nat} {i o c f:Wo} {ws bQ dR IK:List Wo} {e:Ex} {s t:Sm} (hi:eX i [105,102]) (ho:eX o [40]) (he:G (.bin 0) b ws (c::bQ) (.e e)) (hc:eX c [41]) (hs:G .pW b bQ (f::dR) (.s s)) (hn:eX f [101,108,115,101]) (ht:G .pW b dR IK (.s t)):G .pW (b+1) (i::o::ws) IK (.s (.wD i.at e s t))
 |jJ {b:Nat} {i o c:Wo} {ws bQ dR:List Wo} {e:Ex} {s:Sm} (hi:eX i [119,104,105,108,101]) (ho:eX o [40]) (he:G (.bin 0) b ws (c::bQ) (.e e)) (hc:eX c [41]) (hs:G .pW b bQ dR (.s s)):G .pW (b+1) (i::o::ws) dR (.s (.wE i.at e s))
 |uF {b:Nat} {i c:Wo} {ws:List Wo} (hi:eX i [98,114,101,97,107]) (hc:eX c [59]):G .pW b (i::c::ws) ws (.s (.xq i.at))
 |nW {b:Nat} {i c:Wo} {ws:List Wo} (hi:eX i [99,111,110,116,105,110,117,101]) (hc:eX c [59]):G .pW b (i::c::ws) ws (.s (.cont i.at))
 |nZ {b:Nat} {i c:Wo} {ws:List Wo} (hi:eX i [114,101,116,117,114,110]) (hc:eX c [59]):G .pW b (i::c::ws) ws (.s (.ret i.at none))
 |oa {b:Nat} {i c:Wo} {ws bQ:List Wo} {e:Ex} (hi:eX i [114,101,116,117,114,110]) (hs:bF ws [59]=false) (he:G (.bin 0) b ws (c::bQ) (.e e)) (hc:eX c [59]):G .pW (b+1) (i::ws) bQ (.s (.ret i.at (some e)))
 |uG {b:Nat} {i o c q:Wo} {ws bQ:List Wo} {e:Ex} (hi:eX i [111,117,116]) (ho:eX o [40]) (he:G (.bin 0) b ws (c::q::bQ) (.e e)) (hc:eX c [41]) (hq:eX q [59]):G .pW (b+1) (i::o::ws) bQ (.s (.out i.at e))
 |uH {b:Nat} {c:Wo} {ws bQ:List Wo} {e:Ex} (hk:Cr ws=false) (he:G (.bin 0) b ws (c::bQ) (.e e)) (hc:eX c [59]):G .pW (b+1) ws bQ (.s (.eval (JR ws) e))
 |tV {b:Nat} {q c:Wo} {ws bQ dR:List Wo} {to e:Ex} (hk:Cr ws=false) (he:G (.bin 0) b ws (q::bQ) (.e to)) (hq:eX q [61]) (hf:G (.bin 0) b bQ (c::dR) (.e e)) (hc:eX c [59]):G .pW (b+1) ws dR (.s (.assign (JR ws) to e))
theorem G.S9{t:Tag}{b:Nat}{ws bH:dh}{r:Re}(h:G t b ws bH r):G t (b+1) ws bH r:=by
 induction h with
 |num h=>exact .num h
 |var h g=>exact .var h g
 |tT h ho e=>exact .tT h ho e
 |call h ho g _ a=>exact .call h ho g a
 |paren ho _ e a=>exact .paren ho a e
 |qp h ho e=>exact .qp h ho e
 |size h ho ht m e=>exact .size h ho ht m e
 |Ec _ e a=>exact .Ec a e
 |Co _ e _ a f=>exact .Co a e f
 |uV h=>exact .uV h
 |Aw ho _ e _ a f=>exact .Aw ho a e f
 |Ax ho i _ a=>exact .Ax ho i a
 |Ay ho i _ a=>exact .Ay ho i a
 |unop ho _ a=>exact .unop ho a
 |cast ho ht v e _ a=>exact .cast ho ht v e a
 |post w y _ _ a f=>exact .post w y a f
 |bin _ _ o a f=>exact .bin a f o
 |stop=>exact .stop
 |step ho o _ _ a f=>exact .step ho o a f
 |ub ho _ a=>exact .ub ho a
 |zp e=>exact .zp e
 |Az g ht _ _ a f=>exact .Az g ht a f
 |AA g ht _ _ a f=>exact .AA g ht a f
 |zu ht i g m e=>exact .zu ht i g m e
 |AB ht i j _ e a=>exact .AB ht i j a e
 |uD g _ a=>exact .uD g a
 |uE e=>exact .uE e
 |CT hi ho _ e _ i a f=>exact .CT hi ho a e f i
 |tU hi ho _ e _ i _ a f p=>exact .tU hi ho a e f i p
 |jJ hi ho _ e _ a f=>exact .jJ hi ho a e f
 |uF hi e=>exact .uF hi e
 |nW hi e=>exact .nW hi e
 |nZ hi e=>exact .nZ hi e
 |oa hi g _ e a=>exact .oa hi g a e
 |uG hi ho _ e j a=>exact .uG hi ho a e j
 |uH u _ e a=>exact .uH u a e
 |tV u _ j _ e a f=>exact .tV u a j f e
theorem G.mono{t:Tag}{b a:Nat}{ws bH:dh}{r:Re}(h:G t b ws bH r)(e:b<=a):G t a ws bH r:=by
 obtain⟨k,rfl⟩:=Nat.exists_eq_add_of_le e;clear e;induction k with
 |zero=>exact h
 |succ k f=>exact f.S9
theorem pH.jx{ws bH:dh}{s:bu}(h:pH ws bH s):bH.length+s.length=ws.length:=by
 induction h with
 |done=>rfl
 |star _ _ a=>simp only[ai];omega
theorem vj.jx{ws bH:dh}{s:bu}(h:vj ws bH s):bH.length<ws.length:=by
 cases h with
 |base _ _ a=>have:=a.jx;simp only[ai];omega
 |struct _ _ a=>have:=a.jx;simp only[ai];omega
theorem Eb.jx{ws bH:dh}{t t':bu}(h:Eb ws bH t t'):bH.length<=ws.length:=by
 cases h with
 |none=>exact ao _
 |some=>simp only[ai];omega
inductive Fields:List Wo->List Wo->List Fd->Prop where
 |done {c:Wo} {ws:List Wo} (hc:eX c [125]):Fields (c::ws) ws []
 |field {n c:Wo} {ws bQ dR IK:List Wo} {t t':List UInt8} {l:List Fd} (hs:bF ws [125]=false) (ht:vj ws (n::bQ) t) (hn:n.kind=1) (ha:Eb bQ (c::dR) t t') (hc:eX c [59]) (hr:Fields dR IK l):Fields ws IK (⟨t',n.text⟩::l)
inductive Ks:List Wo->List Wo->Bool->Prop where
 |no {ws:List Wo} (h:bF ws [112,117,98,108,105,99]=false):Ks ws ws false
 |yes {w:Wo} {ws:List Wo} (h:eX w [112,117,98,108,105,99]):Ks (w::ws) ws true
inductive rM:List Wo->List Wo->List Pm->Prop where
 |one {n c:Wo} {ws bQ dR:List Wo} {b:Bool} {t:List UInt8} (hp:Ks ws bQ b) (ht:vj bQ (n::c::dR) t) (hn:n.kind=1) (hc:eX c [41]):rM ws dR [⟨n.at,b,t,n.text⟩]
 |more {n c:Wo} {ws bQ dR IK:List Wo} {b:Bool} {t:List UInt8} {l:List Pm} (hp:Ks ws bQ b) (ht:vj bQ (n::c::dR) t) (hn:n.kind=1) (hc:eX c [44]) (hr:rM dR IK l):rM ws IK (⟨n.at,b,t,n.text⟩::l)
inductive Item(b:Nat):List Wo->List Wo->It->Prop where
 |struct {w n o c:Wo} {ws bQ:List Wo} {l:List Fd} (hw:eX w [115,116,114,117,99,116]) (hn:n.kind=1) (ho:eX o [123]) (hf:Fields ws (c::bQ) l) (hc:eX c [59]):Item b (w::n::o::ws) bQ (.struct w.at n.text l)
 |global {n c:Wo} {ws bQ dR:List Wo} {t t':List UInt8} (ht:vj ws (n::bQ) t) (hn:n.kind=1) (hs:bF bQ [40]=false) (ha:Eb bQ (c::dR) t t') (hc:eX c [59]):Item b ws dR (.global n.at t' n.text)
 |func0 {n o c:Wo} {ws bQ dR:List Wo} {t:List UInt8} {s:Sm} (ht:vj ws (n::o::c::bQ) t) (hn:n.kind=1) (ho:eX o [40]) (hc:eX c [41]) (hb:G .ub b bQ dR (.s s)):Item b ws dR (.func n.at t n.text [] s)
 |func {n o:Wo} {ws bQ dR IK:List Wo} {t:List UInt8} {l:List Pm} {s:Sm} (ht:vj ws (n::o::bQ) t) (hn:n.kind=1) (ho:eX o [40]) (hs:bF bQ [41]=false) (hp:rM bQ dR l) (hb:G .ub b dR IK (.s s)):Item b ws IK (.func n.at t n.text l s)
inductive jK(b:Nat):List Wo->List It->Prop where
 |done:jK b [] []
 |item {ws bQ:List Wo} {i:It} {l:List It} (hi:Item b ws bQ i) (hr:jK b bQ l):jK b ws (i::l)
def Tag.strict:Tag->Bool
 | .steps _ _=>false
 | .jx _=>false
 |_=>true
theorem G.len{t:Tag}{b:Nat}{ws bH:dh}{r:Re}(h:G t b ws bH r):bH.length<=ws.length/\(t.strict=true->bH.length<ws.length):=by
 induction h with
 |size h ho ht a e=>have a1:=ht.jx;have a2:=a.jx;simp only[ai]at*;exact⟨om,λ_=>om⟩
 |zu ht f j a e=>have a1:=ht.jx;have a2:=a.jx;simp only[ai]at*;exact⟨om,λ_=>om⟩
 |AB ht f m _ e g=>have a1:=ht.jx;simp[Tag.strict]at*;omega
 |cast ho ht i e _ g=>have a1:=i.jx;simp[Tag.strict]at*;omega
 |_=>simp[Tag.strict]at*<;>omega
def Tag.vT:Tag->Nat
 | .steps _ e=>e.nodes
 | .jx e=>e.nodes
 |_=>0
def Re.cR:Re->Nat
 | .e x=>x.cR
 | .es l=>lJ l
 | .s x=>x.cR
 | .ss l=>mW l
def Re.nodes:Re->Nat
 | .e x=>x.nodes
 | .es l=>nV l
 | .s x=>x.nodes
 | .ss l=>eh l
theorem G.nodes{t:Tag}{b:Nat}{ws bH:dh}{r:Re}(h:G t b ws bH r):r.nodes+bH.length<=t.vT+ws.length:=by
 induction h with
 |size h ho ht a e=>have a1:=ht.jx;have a2:=a.jx;simp only[ai,Re.nodes,Tag.vT,Ex.nodes]at*;omega
 |zu ht f j a e=>have a1:=ht.jx;have a2:=a.jx;simp only[ai,Re.nodes,Tag.vT,dw.nodes,uB]at*;omega
 |AB ht f m _ e g=>have a1:=ht.jx;simp only[ai,Re.nodes,Tag.vT,dw.nodes,uB]at*;omega
 |cast ho ht i e _ g=>have a1:=i.jx;simp only[ai,Re.nodes,Tag.vT,Ex.nodes]at*;omega
 |_=>simp only[ai,Re.nodes,Tag.vT,Ex.nodes,nV,dw.nodes,eh,uB]at*<;>omega
def Tag.cap(t:Tag)(b:Nat)(n a:Nat)(k:Nat):Prop:=match t with
 | .steps _ e| .jx e=>∀m,2*e.cR+n<=m->b+2+n<=m->2*k+a<=m
 | .L8=>2*k+a<=n+b
 |_=>2*k+a<=n+b+1
theorem G.cR{t:Tag}{b:Nat}{ws bH:dh}{r:Re}(h:G t b ws bH r):t.cap b ws.length bH.length r.cR:=by
 induction h with
 |size h ho ht u g=>have a1:=ht.jx;have a2:=u.jx;simp only[ai,Re.cR,Tag.cap,Ex.cR]at*;omega
 |zu ht o f u g=>have a1:=ht.jx;have a2:=u.jx;simp only[ai,Re.cR,Tag.cap,dw.cR,rP]at*;omega
 |AB ht o w _ g e=>have a1:=ht.jx;simp only[ai,Re.cR,Tag.cap,dw.cR,rP]at*;omega
 |cast ho ht y g _ e=>have a1:=y.jx;simp only[ai,Re.cR,Tag.cap,Ex.cR]at*;omega
 |uV=>intro m i j;exact i
 |stop=>intro m i j;exact i
 |Aw ho he g f e a=>
  intro m i j;have:=he.len.2 rfl;have:=f.len.1;simp only[ai,Re.cR,Tag.cap,Ex.cR]at*;exact a m om om
 |Ax ho o f e=>
  intro m i j;simp only[ai,Re.cR,Tag.cap,Ex.cR]at*;exact e m om om
 |Ay ho o f e=>
  intro m i j;simp only[ai,Re.cR,Tag.cap,Ex.cR]at*;exact e m om om
 |step ho p hr f e a=>
  intro m i j;have:=hr.len.2 rfl;simp only[ai,Re.cR,Tag.cap,Ex.cR]at*;exact a m om om
 |post i j A f e a=>
  have:=A.len.2 rfl;simp only[Re.cR,Tag.cap]at*;exact a _ om om
 |bin hu f p e a=>
  have:=hu.len.2 rfl;simp only[Re.cR,Tag.cap]at*;exact a _ om om
 |Co he g hr e a=>have:=he.len.2 rfl;have:=hr.len.2 rfl;simp only[ai,Re.cR,Tag.cap,lJ]at*;omega
 |Az f ht v p e a=>have:=v.len.2 rfl;have:=p.len.2 rfl;simp only[Re.cR,Tag.cap,mW]at*;omega
 |AA f ht v p e a=>have:=v.len.2 rfl;have:=p.len.2 rfl;simp only[Re.cR,Tag.cap,mW]at*;omega
 |CT hi ho he g f o e a=>have:=he.len.2 rfl;have:=f.len.2 rfl;simp only[ai,Re.cR,Tag.cap,dw.cR]at*;omega
 |tU hi ho he g f o ht e a B=>have:=he.len.2 rfl;have:=f.len.2 rfl;have:=ht.len.2 rfl;simp only[ai,Re.cR,Tag.cap,dw.cR]at*;omega
 |jJ hi ho he g f e a=>have:=he.len.2 rfl;have:=f.len.2 rfl;simp only[ai,Re.cR,Tag.cap,dw.cR]at*;omega
 |tV D he w C g e a=>have:=he.len.2 rfl;have:=C.len.2 rfl;simp only[ai,Re.cR,Tag.cap,dw.cR]at*;omega
 |_=>simp only[ai,Re.cR,Tag.cap,Ex.cR,lJ,dw.cR,mW,rP]at*<;>omega
section
def eG(W:List Wo):List AV:=W.flatMap Wo.cells
theorem BP(W:dh):(eG W).length=5*W.length:=LA W
theorem Al:∀(W:dh)(k:Nat),(eG W).drop (5*k)=eG (W.drop k)
 |W,0=>by simp
 |[],k+1=>by simp[eG]
 |w::W,k+1=>by
  have e:eG (w::W)=w.cells++eG W:=rfl;have e2:5*(k+1)=5*k+1+1+1+1+1:=by omega
  rw[e,e2];simp only[Wo.cells,aI,aX,List.drop_succ_cons];exact Al W k
def PO(a k n:Nat)(el ec nd fn dp:Int):dK:= .C [.slice (some (a,5*k)) n,.I el,.I ec,.I nd,.I fn,.I dp,.N]
structure gy(r a:Nat)(W:List Wo)(el ec:Int)(k:Nat)(ws:List Wo)(nd fn dp:Nat)(h:ah):Prop where
 obj:h.get r=some (PO a k ws.length el ec nd fn dp)
 arr:h.get a=some (.D 5 (eG W))
 drop:W.drop k=ws
 len:k+ws.length=W.length
 ne:r≠a
 rl:r<h.nx
 al:a<h.nx
 fr:bP h
structure Uf(W:List Wo)(k:Nat)(w:Wo):Prop where
 c0:(eG W)[5*k]?=some (.I w.kind)
 c1:(eG W)[5*k+1]?=some (.str w.text)
 c2:(eG W)[5*k+2]?=some (.I w.n)
 d0:((eG W).drop (5*k)).take 5=w.cells
 d3:((eG W).drop (5*k+3)).take 2=[.I w.l,.I w.c]
 l5:5*k+5<=(eG W).length
 l3:5*k+3+2<=(eG W).length
theorem xt{W:dh}{k:Nat}{w:Wo}{ws:dh}(h:W.drop k=w::ws):Uf W k w:=by
 have e:(eG W).drop (5*k)=w.cells++eG ws:=by rw[Al,h];rfl
 have g:∀j,(eG W)[5*k+j]?=(w.cells++eG ws)[j]?:=λj=>by rw[<-e,eM]
 have l:5*k+5<=(eG W).length:=by
  have:=nt List.length h;rw[bK,ai]at this;rw[BP];omega
 refine⟨g 0,g 1,g 2,by rw[e];rfl,?_,l,l⟩;rw[<-List.drop_drop,e];rfl
section
variable{r a:Nat}{W:dh}{el ec:Int}{k:Nat}{ws:dh}{nd fn dp:Nat}{h:ah}
theorem Ug(p:gy r a W el ec k ws nd fn dp h):
 ba env 62 [.P r] h (λout h'=>out= .ret (.agg [.I (De el ec ws).1,.I (De el ec ws).2])/\aJ h h'):=by
 refine wb fn62 rfl ?_;obtain⟨o,ar,b,ln,ne,rl,al,fr⟩:=p;have rn:r≠h.nx:=om
 have an:a≠h.nx:=om
 cases ws with
 |nil=>
  simp[f62,o,PO,rn,De];exact kT
 |cons w rs=>
  obtain⟨c0,c1,c2,d0,d3,l5,l3⟩:=xt b;have z:((rs.length:Int)+1==0)=false:=by rw[az];omega
  simp[f62,o,PO,rn,ar,an,z,d3,l3,De];exact kT
theorem OP(s:bu)(p:gy r a W el ec k ws nd fn dp h):
 ba env 69 [.P r,.str s] h (λout h'=>out= .ret (.bool (bF ws s))/\h'=h):=by
 refine wb fn69 rfl ?_;obtain⟨o,ar,b,ln,ne,rl,al,fr⟩:=p;cases ws with
 |nil=>
  simp[f69,o,PO,bF]
 |cons w rs=>
  obtain⟨c0,c1,c2,d0,d3,l5,l3⟩:=xt b;have z:((0:Int)<(rs.length:Int)+1):=by omega
  cases e1:(w.text==s)with
  |false=>
   simp[f69,o,PO,ar,z,c1,bF,e1]
  |true=>
   simp[f69,o,PO,ar,z,c0,c1,bF,e1]
theorem gy.aH(p:gy r a W el ec k ws nd fn dp h){h':ah}(kk:aJ h h'):gy r a W el ec k ws nd fn dp h':=
 ⟨(kk.old r p.rl).trans p.obj,(kk.old a p.al).trans p.arr,p.drop,p.len,p.ne,aq p.rl kk.nx,aq p.al kk.nx,kk.fresh p.fr⟩
theorem gy.yX(p:gy r a W el ec k ws nd fn dp h){h':ah}(kx:aR [r] h h'){g:Nat}{bH:dh}{b e f:Nat}(o:h'.get r=some (PO a g bH.length el ec b e f))(i:W.drop g=bH)(ln:g+bH.length=W.length):gy r a W el ec g bH b e f h':=
 ⟨o,(kx.old a p.al (by simp[p.ne.symm])).trans p.arr,i,ln,p.ne,aq p.rl kx.nx,aq p.al kx.nx,kx.fresh p.fr⟩
theorem lI{W:dh}{k:Nat}{w:Wo}{ws:dh}(h:W.drop k=w::ws):W.drop (k+1)=ws:=by
 rw[<-List.drop_drop,h];rfl
theorem og{Q:Out->ah->Prop}{w:Wo}{rs:dh}(p:gy r a W el ec k (w::rs) nd fn dp h)(i:∀h',gy r a W el ec (k+1) rs nd fn dp h'->aR [r] h h'->Q (.ret (.agg w.cells)) h'):ba env 71 [.P r] h Q:=by
 refine wb fn71 rfl ?_;have j:=p;obtain⟨o,ar,g,ln,ne,rl,al,fr⟩:=p;have rn:r≠h.nx:=om
 have an:a≠h.nx:=om
 have b:r≠h.nx+1:=om
 have e:a≠h.nx+1:=om
 obtain⟨c0,c1,c2,d0,d3,l5,l3⟩:=xt g;have z:((1:Int)<=(rs.length:Int)+1):=om
 simp[f71,o,PO,rn,rn.symm,ar,an,d0,l5,Wo.cells,z,b,e,b.symm];refine i _ (j.yX ?_ ?_ (lI g) ?_) ?_
 ·exact kX
 ·simp[PO,rn];omega
 ·simp at ln;omega
 ·exact kX
theorem IU{w:Wo}{rs:dh}(p:gy r a W el ec k (w::rs) nd fn dp h):
 ba env 71 [.P r] h (λout h'=>out= .ret (.agg w.cells)/\gy r a W el ec (k+1) rs nd fn dp h'/\aR [r] h h'):=og p λ_ p k=>⟨rfl,p,k⟩
theorem L9{s:bu}{w:Wo}{rs:dh}(p:gy r a W el ec k (w::rs) nd fn dp h)(e:eX w s):
 ba env 63 [.P r,.str s] h (λout h'=>out= .ret (.bool true)/\gy r a W el ec (k+1) rs nd fn dp h'/\aR [r] h h'):=by
 refine wb fn63 rfl ?_;simp[f63];refine(OP s p).m1 λg b=>?_;subst b;simp[e.bF];refine(IU p).mono λout i b=>?_;obtain⟨rfl,p3,k3⟩:=b;simp;exact⟨p3,k3⟩
theorem PN(s:bu)(p:gy r a W el ec k ws nd fn dp h)(b:bF ws s=false):
 ba env 63 [.P r,.str s] h (λout h'=>out= .ret (.bool false)/\h'=h):=by
 refine wb fn63 rfl ?_;simp[f63];refine(OP s p).m1 λg e=>?_;subst e;simp[b]
theorem Rn{s:bu}{w:Wo}{rs:dh}(p:gy r a W el ec k (w::rs) nd fn dp h)(b:eX w s):
 ba env 67 [.P r,.str s] h (λout h'=>out= .ret (.iO [])/\gy r a W el ec (k+1) rs nd fn dp h'/\aR [r] h h'):=by
 refine wb fn67 rfl ?_;simp[f67];refine(L9 p b).mono λout g e=>?_;obtain⟨rfl,p3,k3⟩:=e;simp;exact⟨p3,k3⟩
theorem OQ{w:Wo}{rs:dh}(p:gy r a W el ec k (w::rs) nd fn dp h)(e:w.kind=1):
 ba env 64 [.P r] h (λout h'=>out= .ret (.str w.text)/\gy r a W el ec (k+1) rs nd fn dp h'/\aR [r] h h'):=by
 refine wb fn64 rfl ?_;obtain⟨o,ar,b,ln,ne,rl,al,fr⟩:=p;obtain⟨c0,c1,c2,d0,d3,l5,l3⟩:=xt b;have z:((rs.length:Int)+1==0)=false:=by rw[az];omega
 simp[f64,o,PO,ar,c0,e,z];refine(IU ⟨o,ar,b,ln,ne,rl,al,fr⟩).mono λout i g=>?_;obtain⟨rfl,p3,k3⟩:=g;simp[Wo.cells];exact⟨p3,k3⟩
theorem PQ(b n:Nat)(l:List (bu))(rw:Bool)(v:h.get b=some (.cells rw 1 (l.map AV.str)))(A:l.length<=100)(p:gy r a W el ec k ws nd fn dp h):
 ba env 115 [.P r,.S b l.length] h (λout h'=>out= .ret (.bool (anyS ws l))/\h'=h):=by
 refine wb fn115 rfl ?_;simp[f115];refine bz (λm x=>∃i,i<=l.length/\m=l.length-i/\anyS ws (l.take i)=false/\x.n=17/\x.ds=[]/\x.bX=false/\x.h=h/\x.rg.get 0=some (.P r)/\x.rg.get 7=some (.S b l.length)/\x.rg.get 8=some (.I l.length)/\x.rg.get 9=some (.I i)) l.length ?_ ?_
 ·exact⟨0,om,rfl,by simp[anyS],rfl,rfl,rfl,rfl,sp,sp,sp,sp⟩
 rintro m ⟨rg,n,H,ds,bX⟩ ⟨i,hi,rfl,g,e1,e2,e3,t,r0,r7,r8,j⟩
 dsimp only at e1 e2 e3 t r0 r7 r8 j;subst e1 e2 e3 t;by_cases e:i<l.length
 ·have B:(l.map AV.str)[i]?=some (.str l[i]):=by rw[bt,aj e];rfl
  have w:IntKind.wrap .i64 ((i:Int)+1)=((i+1:Nat):Int):=by
   rw[wr om om];simp
  simp[r0,r7,r8,j,e,v];refine(OP _ p).m1 λC y=>?_;subst y;have tk:l.take (i+1)=l.take i++[l[i]]:=by rw[cy,aj e];rfl
  cases u:bF ws l[i]with
  |true=>
   have:anyS ws l=true:=fw.2 ⟨l[i],bk _,u⟩;simp[this]
  |false=>
   simp[r0,r7,r8,j,w];exact⟨_,om,i+1,e,rfl,by rw[tk];simp only[anyS,List.any_append]at g⊢;rw[g];simp[u],sp⟩
 ·have o:i=l.length:=by omega
  subst o;rw[cF]at g;simp[r8,j,g]
theorem OR(p:gy r a W el ec k ws nd fn dp h):
 ba env 88 [.P r] h (λout h'=>out= .ret (.bool (dF ws))/\aJ h h'):=by
 refine wb fn88 rfl ?_;simp[f88];have pk:=p.aH ((aJ.refl h).alloc (.D 1 (wJ.map AV.str)));refine(PQ _ 5 wJ true (by simp[wJ]) dc pk).m1 λe b=>?_;subst b;simp[dF];exact kT
variable{Q:Out->ah->Prop}
theorem zF(p:gy r a W el ec k ws nd fn dp h)(b:∀h',aJ h h'->Q (.ret (.agg [.I (De el ec ws).1,.I (De el ec ws).2])) h'):ba env 62 [.P r] h Q:=
 (Ug p).mono λ_ _ ⟨e,k⟩=>e▸b _ k
theorem pX(s:bu)(p:gy r a W el ec k ws nd fn dp h)(b:Q (.ret (.bool (bF ws s))) h):ba env 69 [.P r,.str s] h Q:=
 (OP s p).mono λ_ _ ⟨e,k⟩=>e▸k▸b
theorem fR{s:bu}{w:Wo}{rs:dh}(p:gy r a W el ec k (w::rs) nd fn dp h)(b:eX w s)(f:∀h',gy r a W el ec (k+1) rs nd fn dp h'->aR [r] h h'->Q (.ret (.bool true)) h'):ba env 63 [.P r,.str s] h Q:=
 (L9 p b).mono λ_ _ ⟨e,p,k⟩=>e▸f _ p k
theorem cx(s:bu)(p:gy r a W el ec k ws nd fn dp h)(b:bF ws s=false)(f:Q (.ret (.bool false)) h):ba env 63 [.P r,.str s] h Q:=
 (PN s p b).mono λ_ _ ⟨e,k⟩=>e▸k▸f
theorem iE{s:bu}{w:Wo}{rs:dh}(p:gy r a W el ec k (w::rs) nd fn dp h)(b:eX w s)(f:∀h',gy r a W el ec (k+1) rs nd fn dp h'->aR [r] h h'->Q (.ret (.iO [])) h'):ba env 67 [.P r,.str s] h Q:=
 (Rn p b).mono λ_ _ ⟨e,p,k⟩=>e▸f _ p k
theorem oh{w:Wo}{rs:dh}(p:gy r a W el ec k (w::rs) nd fn dp h)(b:w.kind=1)(f:∀h',gy r a W el ec (k+1) rs nd fn dp h'->aR [r] h h'->Q (.ret (.str w.text)) h'):ba env 64 [.P r] h Q:=
 (OQ p b).mono λ_ _ ⟨e,p,k⟩=>e▸f _ p k
theorem oD(b:Nat)(l:List (bu))(rw:Bool)(f:h.get b=some (.cells rw 1 (l.map AV.str)))(g:l.length<=100)(p:gy r a W el ec k ws nd fn dp h)(i:Q (.ret (.bool (anyS ws l))) h):
 ba env 115 [.P r,.S b l.length] h Q:=
 (PQ b 0 l rw f g p).mono λ_ _ ⟨e,k⟩=>e▸k▸i
theorem yG(p:gy r a W el ec k ws nd fn dp h)(b:∀h',aJ h h'->Q (.ret (.bool (dF ws))) h'):ba env 88 [.P r] h Q:=
 (OR p).mono λ_ _ ⟨e,k⟩=>e▸b _ k
end
attribute[simp] fq
structure Ma(W:List Wo):Prop where
 len:W.length<=250
 text:∀w,w∈W->w.text.length<=65536
 num:∀w,w∈W->0<=w.n/\w.n<9223372036854775808
section
variable{Q:Out->ah->Prop}{r a:Nat}{W:dh}{el ec:Int}{k:Nat}{ws:dh}{nd fn dp:Nat}{h:ah}
theorem gy.mem(p:gy r a W el ec k ws nd fn dp h){w:Wo}(hw:w∈ws):w∈W:=vg (p.drop▸hw)
theorem wK(h:ah)(r:Nat):ba env 70 [.P r,.bool true] h (λout h'=>out= .ret (.iO [])/\h'=h):=by
 refine wb fn70 rfl ?_;simp[f70]
theorem BQ(p:gy r a W el ec k ws nd fn dp h)(t:dp+1<=800)
 (e:∀b h',h'.get b=some (.C [.P r])->h.nx<=b->b<h'.nx->gy r a W el ec k ws nd fn (dp+1) h'->aR [r] h h'->Q (.ret (.func 122 [.P b])) h'):
 ba env 91 [.P r] h Q:=by
 refine wb fn91 rfl ?_;have g:=p;obtain⟨o,ar,i,ln,ne,rl,al,fr⟩:=p;have rn:r≠h.nx:=om
 have j:IntKind.wrap .i64 ((dp:Int)+1)=((dp+1:Nat):Int):=by
  rw[wr om om];simp
 have g1:(dp:Int)+1<=800:=om
 simp[f91,o,PO,rn,j];refine Dd ?_;simp[rn.symm,g1];repeat refine di ?_
 refine(wK _ _).m1 λu m=>?_;subst m;simp;refine⟨dd,?_⟩;refine e h.nx _ (by simp[rn.symm]) om sp (g.yX ?_ (by simp[PO]) i ln) ?_
 all_goals exact kX
theorem gD(p:gy r a W el ec k ws nd fn (dp+1) h)(b:Nat)(e:h.get b=some (.C [.P r]))(m:dp<=800)(q:Option AV)(Q:Option AV->ah->Prop)
 (f:∀h',gy r a W el ec k ws nd fn dp h'->aR [r] h h'->Q q h'):jS env 122 [.P b] h q Q:=by
 refine jS.mk fn122.1 rfl (et rfl) ?_;have g:=p;obtain⟨o,ar,i,ln,ne,rl,al,fr⟩:=p;have j:IntKind.wrap .i64 (dp:Int)=(dp:Int):=wr om om;refine WS.region kr ?_;simp[e,o,PO,j];refine f _ (g.yX ?_ (by simp[PO]) i ln) ?_
 all_goals exact kX
theorem Mb(p:gy r a W el ec k ws nd fn dp h)(t:Nat)(m:nd+1<=20000)(ht:t<=200)
 (b:∀h',gy r a W el ec k ws (nd+1) fn dp h'->aR [r] h h'->Q (.ret (.I t)) h'):ba env 125 [.P r,.I t] h Q:=by
 refine wb fn125 rfl ?_;have e:=p;obtain⟨o,ar,g,ln,ne,rl,al,fr⟩:=p;have i:IntKind.wrap .i64 ((nd:Int)+1)=((nd+1:Nat):Int):=by
  rw[wr om om];simp
 have g1:(nd:Int)+1<=20000:=om
 have g2:(t:Int)<=200:=om
 simp[f125,o,PO,i,g1,g2];refine(wK _ _).m1 λu j=>?_;subst j;simp;refine b _ (e.yX ?_ (by simp[PO]) g ln) ?_
 all_goals exact kX
theorem Ej{bH:dh}{j:bu}(y:pH ws bH j)(base:bu)(p:gy r a W el ec k ws nd fn dp h)(I:W.length<=250)(J:base.length<=100000)
 (A:∀e h',gy r a W el ec e bH nd fn dp h'->aR [r] h h'->Q (.ret (.str (base++j))) h'):ba env 68 [.P r,.str base] h Q:=by
 refine wb fn68 rfl ?_;have B:=p.len;simp[f68];refine bz (λm x=>∃i e cs s,m=cs.length/\i+cs.length<=ws.length/\pH cs bH s/\j=List.replicate i 42++s/\x.n=14/\x.ds=[]/\x.bX=false/\gy r a W el ec e cs nd fn dp x.h/\aR [r] h x.h/\x.rg.get 0=some (.P r)/\x.rg.get 1=some (.str base)/\x.rg.get 5=some (.I (i:Nat))) ws.length ?_ ?_
 ·exact⟨0,k,ws,j,rfl,om,y,rfl,rfl,rfl,rfl,p,aR.refl _ _,sp,sp,sp⟩
 rintro m ⟨rg,n,H,ds,bX⟩ ⟨i,e,cs,s,rfl,hi,t,b,e1,e2,e3,o,k1,r0,u,r5⟩
 dsimp only at e1 e2 e3 o k1 r0 u r5;subst e1 e2 e3;have C:IntKind.wrap .i64 ((i:Int)+1)=((i+1:Nat):Int):=by
  rw[wr om om];simp
 cases t with
 |done v=>
  simp[r0];refine(PN _ o v).m1 λD w=>?_;subst w;simp[u,r5];refine ba.ed pr90 (show dP D1 [.str [42],.I (i:Nat)] _=_ from by simp[dP,D1];rw[aY om]) ?_;have hle:base.length+i<=4611686018427387904:=by omega
  simp[hle];simp at b;have g:=A _ _ o k1;rw[b]at g;exact g
 |star hw hr=>
  simp[r0];refine(L9 o hw).mono λout D w=>?_;obtain⟨rfl,F,k2⟩:=w;simp[r5,C,r0,u];simp at hi;exact⟨_,om,i+1,e+1,_,rfl,om,_,hr,by rw[b,List.replicate_succ',aU];rfl,F,k1.trans k2,sp⟩
end
section
variable{Q:Out->ah->Prop}{r a:Nat}{W:dh}{el ec:Int}{k:Nat}{ws:dh}{nd fn dp:Nat}{h:ah}
theorem vj.Ta{ws bH:dh}{s:bu}(ok:Ma W)(ht:vj ws bH s)(hm:∀w,w∈ws->w∈W)(f:ws.length<=250):s.length<=66000:=by
 cases ht with
 |@base w bQ _ s h e b=>
  have:=b.jx;have:=ok.text w (hm w sp);simp only[ai,aO]at*;omega
 |@struct w n bQ _ s h e b=>
  have:=b.jx;have:=ok.text n (hm n sp);simp only[ai,aO,aW]at*;omega
theorem BR{bH:dh}{o:bu}(ok:Ma W)(ht:vj ws bH o)(p:gy r a W el ec k ws nd fn dp h)
 (u:∀v h',o.length<=66000->gy r a W el ec v bH nd fn dp h'->aR [r] h h'->Q (.ret (.str o)) h'):ba env 65 [.P r] h Q:=by
 refine wb fn65 rfl ?_;have b:=ht.Ta ok (λw hw=>p.mem hw) (by have:=p.len;have:=ok.len;omega);simp[f65];refine yG p λK k1=>?_;have D:=p.aH k1;cases ht with
 |@base w bQ _ s1 g y i=>
  have j:(w.text==[115,116,114,117,99,116])=false:=az.2 y;simp[g];refine og D λe A k2=>?_;simp[Wo.cells,j];have k3:=(aJ.refl e).alloc (.C [.I 0,.str [],.I 0,.I 0,.I 0]);have m:aJ e ((e.alloc (.C [.I 0,.str [],.I 0,.I 0,.I 0])).2.set e.nx (.C w.cells)):=kT;have hlen:=ok.text w (p.mem (bc ..));refine Ej i w.text (A.aH m) ok.len om λv I B C=>?_;simp;exact u _ _ b B (((k1.x _).trans k2).trans ((m.x _).trans C))
 |@struct w n bQ _ s1 F J i=>
  have g:dF (w::n::bQ)=true:=by simp[dF,anyS,wJ,F.bF]
  simp[g];refine og D λe A k2=>?_;simp[Wo.cells,F.t];have m:aJ e ((e.alloc (.C [.I 0,.str [],.I 0,.I 0,.I 0])).2.set e.nx (.C [.I w.kind,.str [115,116,114,117,99,116],.I w.n,.I w.l,.I w.c])):=kT;have hlen:=ok.text n (p.mem sp);refine oh (A.aH m) J λN p3 k3=>?_;have hle:7+n.text.length<=4611686018427387904:=by omega
  simp[hle];refine Ej i _ p3 ok.len IN λv I B C=>?_;simp;simp at u;exact u _ _ (by simp at b;omega) B (((k1.x _).trans k2).trans ((m.x _).trans (k3.trans C)))
theorem vS:∀(f n:Nat),(oJ f n).length<=f
 |0,n=>by simp[oJ]
 |f+1,n=>by
  have:=vS f (n/10);unfold oJ;cases Nat.blt n 10<;>simp[cond]<;>omega
theorem Mc{w:Wo}{rs:dh}(ok:Ma W)(p:gy r a W el ec k (w::rs) nd fn dp h)(t:w.kind=2)
 (e:∀h',gy r a W el ec (k+1) rs nd fn dp h'->aR [r] h h'->Q (.ret (.str (jy w.n))) h'):ba env 89 [.P r] h Q:=by
 refine wb fn89 rfl ?_;have g:=p;obtain⟨o,ar,u,ln,ne,rl,al,fr⟩:=p;obtain⟨c0,c1,c2,d0,d3,l5,l3⟩:=xt u;have z:((rs.length:Int)+1==0)=false:=by rw[az];omega
 have i:=ok.num w (g.mem sp);simp[f89,o,PO,ar,c0,t,z];refine og g λj v k2=>?_;simp[Wo.cells];refine wb fn116 rfl ?_;simp[f116];obtain⟨m,hm⟩:∃m:Nat,w.n=(m:Int):=⟨w.n.toNat,om⟩
 have b:m<9223372036854775808:=om
 rw[hm];refine ba.ed pr148 (show wC [.I (.ofNat m),.I (.ofNat 10)] j=some (.ret (.str (oJ 20 m)),j)from by
  have:Nat.blt m 9223372036854775808=true:=by rw[uL];exact b
  simp only[wC,this];rfl) ?_
 simp;have y:jy w.n=oJ 20 m:=by rw[hm];rfl
 rw[y]at e;exact e _ v k2
theorem yH{bH:dh}{s s':bu}(ok:Ma W)(ht:Eb ws bH s s')(u:s.length<=67000)(p:gy r a W el ec k ws nd fn dp h)
 (b:∀g h',s'.length<=68000->gy r a W el ec g bH nd fn dp h'->aR [r] h h'->Q (.ret (.str s')) h'):ba env 66 [.P r,.str s] h Q:=by
 refine wb fn66 rfl ?_;simp[f66];cases ht with
 |none e=>
  refine cx _ p e ?_;simp;exact b _ _ om p (aR.refl _ _)
 |@some o n c _ _ ho i j=>
  refine fR p ho λv m k2=>?_;simp;refine Mc ok m i λw p3 k3=>?_;simp;refine iE p3 j λy p4 t=>?_;have A:(jy n.n).length<=20:=vS 20 _;simp at b;generalize jy n.n=d at*;have l1:s.length+1<=4611686018427387904:=by omega
  have l2:s.length+(d.length+1)<=4611686018427387904:=by omega
  have l4:s.length+(1+d.length)<=4611686018427387904:=by omega
  have l5:s.length+(d.length+1+1)<=4611686018427387904:=by omega
  have B:s.length+(d.length+(1+1))<=4611686018427387904:=by omega
  simp[l1,l4,l5];exact b _ _ om p4 (k2.trans (k3.trans t))
end
end
section
theorem aw{h:ah}(f:bP h){i:Nat}{o:dK}(g:h.get i=some o):i<h.nx:=by
 rcases dJ i h.nx with b|b
 ·exact b
 ·rw[f i b]at g;cases g
def cQ{α:Type}(X:List Nat)(h:ah)(av:AV)(qs:List (Nat×α)):Prop:=
 (qs=[]/\av= .Z)\/∃b,av= .S b qs.length/\b∉X/\h.get b=some (.D 1 (qs.map λp=> .P p.1))
def Ex.cA(e:Ex)(av:AV)(t:Nat):List AV:=[.I e.kd,.I e.pos.1,.I e.pos.2,.str e.CQ,.str e.uT,.I e.nI,.str e.uU,av,.I t]
inductive jl(X:List Nat)(h:ah):Nat->Ex->Prop where
 |mk {id:Nat} {e:Ex} {av:AV} {qs:List (Nat×Ex)} (obj:h.get id=some (.C (e.cA av e.cR))) (nx:id∉X) (arr:cQ X h av qs) (ha:qs.map Prod.snd=e.args) (sub:∀p,p∈qs->jl X h p.1 p.2):jl X h id e
def rL(X:List Nat)(h:ah)(v:AV)(o:Option Ex):Prop:=(v= .N/\o=none)\/∃id e,v= .P id/\o=some e/\jl X h id e
def dw.cA(s:Sm)(ev tv lv:AV)(t:Nat):List AV:=[.I s.kd,.I s.pos.1,.I s.pos.2,.str s.uT,.str s.uU,ev,tv,lv,.I t]
inductive tS(X:List Nat)(h:ah):Nat->Sm->Prop where
 |mk {id:Nat} {s:Sm} {ev tv lv:AV} {qs:List (Nat×Sm)} (obj:h.get id=some (.C (s.cA ev tv lv s.cR))) (nx:id∉X) (he:rL X h ev s.eO) (ho:rL X h tv s.Ho) (arr:cQ X h lv qs) (ha:qs.map Prod.snd=s.list) (sub:∀p,p∈qs->tS X h p.1 p.2):tS X h id s
structure Move(X Y:List Nat)(h h':ah):Prop where
 aH:∀i o,h.get i=some o->i∉X->h'.get i=some o/\i∉Y
theorem Move.of{X Y Z:cB}{h h':ah}(f:bP h)(k:aR Z h h')(j:∀z,z∈Z->z<h.nx->z∈X)(m:∀y,y∈Y->y∈X\/h.nx<=y):Move X Y h h':=
 ⟨λi o g hi=>by
  have b:=aw f g;refine⟨(k.old i b λp=>hi (j i p b)).trans g,λt=>?_⟩;rcases m i t with e|e
  ·exact hi e
  ·omega⟩
theorem cQ.move{α:Type}{X Y:cB}{h h':ah}(s:Move X Y h h'){av:AV}{qs:List (Nat×α)}(p:cQ X h av qs):cQ Y h' av qs:=by
 rcases p with p|⟨b,e,f,g⟩
 ·exact .inl p
 ·exact .inr ⟨b,e,(s.aH _ _ g f).2,(s.aH _ _ g f).1⟩
theorem jl.move{X Y:cB}{h h':ah}(s:Move X Y h h'){id:Nat}{t:Ex}(e:jl X h id t):jl Y h' id t:=by
 induction e with
 |mk obj nx arr b sub f=>exact .mk (s.aH _ _ obj nx).1 (s.aH _ _ obj nx).2 (arr.move s) b f
theorem rL.move{X Y:cB}{h h':ah}(s:Move X Y h h'){v:AV}{o:Option Ex}(e:rL X h v o):rL Y h' v o:=by
 rcases e with e|⟨id,e,b,f,g⟩
 ·exact .inl e
 ·exact .inr ⟨id,e,b,f,g.move s⟩
theorem tS.move{X Y:cB}{h h':ah}(s:Move X Y h h'){id:Nat}{t:Sm}(e:tS X h id t):tS Y h' id t:=by
 induction e with
 |mk obj nx he ho arr b sub f=>exact .mk (s.aH _ _ obj nx).1 (s.aH _ _ obj nx).2 (he.move s) (ho.move s) (arr.move s) b f
structure zG(r:Nat)(X:List Nat)(h:ah):Prop where
 r:r∈X
 lt:∀x,x∈X->x<h.nx
theorem zG.nx{r:Nat}{X:cB}{h:ah}(x:zG r X h){i:Nat}(hi:h.nx<=i):i∉X:=λb=>by have:=x.lt i b;omega
theorem zG.le{r:Nat}{X:cB}{h h':ah}(x:zG r X h)(b:h.nx<=h'.nx):zG r X h':=⟨x.r,λy e=>aq (x.lt y e) b⟩
theorem Move.r{r:Nat}{X:cB}{h h':ah}(f:bP h)(x:zG r X h)(k:aR [r] h h'):Move X X h h':=
 Move.of f k (λz b _=>by simp at b;subst b;exact x.r) λ_ e=> .inl e
theorem Move.k{X:cB}{h h':ah}(f:bP h)(k:aJ h h'):Move X X h h':=Move.of f (k.x []) sp λ_ b=> .inl b
theorem jl.cell{X:cB}{h:ah}{id:Nat}{t:Ex}(e:jl X h id t):∃cs:eu,h.get id=some (.C cs)/\cs.length=9/\cs[8]?=some (.I t.cR):=by
 cases e with
 |mk obj=>exact⟨_,obj,rfl,rfl⟩
theorem tS.cell{X:cB}{h:ah}{id:Nat}{t:Sm}(e:tS X h id t):∃cs:eu,h.get id=some (.C cs)/\cs.length=9/\cs[8]?=some (.I t.cR):=by
 cases e with
 |mk obj=>exact⟨_,obj,rfl,rfl⟩
section
variable{X:cB}{Q:Out->ah->Prop}{r a:Nat}{W:dh}{el ec:Int}{k:Nat}{ws:dh}{nd fn dp:Nat}{h:ah}
theorem qc(e:Ex)(av:AV)(qs:List (Nat×Ex))(p:gy r a W el ec k ws nd fn dp h)(xo:zG r X h)(arr:cQ X h av qs)(I:qs.map Prod.snd=e.args)(sub:∀q,q∈qs->jl X h q.1 q.2)(K:e.cR<=200)(la:qs.length<=300)(N:nd+1<=20000)
 (O:∀id h',jl X h' id e->gy r a W el ec k ws (nd+1) fn dp h'->aR [r] h h'->Q (.ret (.P id)) h'):
 ba env 155 [.P r,.agg [.I e.kd,.I e.pos.1,.I e.pos.2,.str e.CQ,.str e.uT,.I e.nI,.str e.uU,av,.I 0]] h Q:=by
 refine wb fn155 rfl ?_;have P:av.scalar=true:=by rcases arr with⟨_,rfl⟩|⟨b,rfl,_,_⟩<;>rfl
 have fr:=p.fr;have hr:=p.rl;have rn:r≠h.nx:=om
 obtain⟨J,t⟩:∃J,av= .slice J qs.length:=by
  rcases arr with⟨rfl,rfl⟩|⟨b,rfl,_,_⟩
  ·exact⟨none,rfl⟩
  ·exact⟨some (b,0),rfl⟩
 have v:=e.Eh;rw[<-I]at v;simp[f155,t];refine bz (λm x=>∃i,i<=qs.length/\m=qs.length-i/\x.n=29/\x.ds=[]/\x.bX=false/\aJ h x.h/\h.nx<x.h.nx/\x.h.get h.nx=some (.C (e.cA av (lJ ((qs.map Prod.snd).take i))))/\
  x.rg.get 0=some (.P r)/\x.rg.get 3=some (.P h.nx)/\x.rg.get 8=some av/\x.rg.get 9=some (.I qs.length)/\x.rg.get 10=some (.I i)) qs.length ?_ ?_
 ·exact⟨0,om,rfl,rfl,rfl,rfl,(aJ.refl h).alloc _,sp,by simp[t,Ex.cA,lJ],sp,sp,by simp[t],sp,sp⟩
 rintro m ⟨rg,V,H,ds,bX⟩ ⟨i,hi,rfl,e1,e2,e3,k1,nx,go,r0,r3,r8,u,o⟩
 dsimp only at e1 e2 e3 k1 nx go r0 r3 r8 u o;subst e1 e2 e3;simp only[Ex.cA]at go;by_cases j:i<qs.length
 ·obtain⟨b,rfl,gb⟩:∃b,av= .S b qs.length/\h.get b=some (.D 1 (qs.map λp=> .P p.1)):=by
   rcases arr with⟨rfl,_⟩|⟨b,e,_,g⟩
   ·simp at j
   ·exact⟨b,e,g⟩
  have w:=(k1.old b (aw fr gb)).trans gb;have Z:(qs.map λp=>AV.P p.1)[i]?=some (.P qs[i].1):=by rw[bt,aj j];rfl
  obtain⟨cs,gc,lc,R⟩:=(sub qs[i] (bk _)).cell;have y:=(k1.old _ (aw fr gc)).trans gc;have A:IntKind.wrap .i64 ((i:Int)+1)=((i+1:Nat):Int):=by
   rw[wr om om];simp
  have tk:lJ ((qs.map Prod.snd).take (i+1))=max (lJ ((qs.map Prod.snd).take i)) qs[i].2.cR:=by
   rw[cy,bt,aj j,yF];simp[lJ]
  simp[r8,u,o,j,w];refine Dd ?_;simp[r0,r3,r8,u,o,y,go,R]
  repeat refine di ?_
  simp[A];refine⟨_,om,i+1,j,rfl,?_,om,?_,rfl⟩
  ·exact kT
  ·simp only[Ex.cA];rw[tk];simp;split<;>congr 1<;>omega
 ·have B:i=qs.length:=by omega
  subst B;have S:qs.length=(qs.map Prod.snd).length:=by simp
  have tl:(qs.map Prod.snd).take qs.length=qs.map Prod.snd:=by rw[S,cF]
  rw[tl]at go;have A:IntKind.wrap .i64 ((lJ (qs.map Prod.snd):Int)+1)=(e.cR:Int):=by
   rw[wr om om];omega
  simp[r0,r3,u,o,go,A];refine Mb (p.aH k1) e.cR N om λC D k2=>?_;have go2:=(k2.old _ nx IN).trans go;have n2:=k2.nx;simp[go2,r3];have kx:aR [r] h C:=(k1.x _).trans k2;have F:aR [r] h (C.set h.nx (.C (e.cA av e.cR))):=kX;have p3:gy r a W el ec k ws (nd+1) fn dp (C.set h.nx (.C (e.cA av e.cR))):=
   p.yX F (by have:=D.obj;simp[rn];exact this) D.drop D.len
  have mv:=Move.r fr xo F;exact O h.nx _ (jl.mk (e:=e) (av:=av) (qs:=qs) (by simp[Ex.cA]) (xo.nx (ao _)) (arr.move mv) I λq U=>(sub q U).move mv) p3 F
end
end
section
section
variable{X:cB}{Q:Out->ah->Prop}{r a:Nat}{W:dh}{el ec:Int}{k:Nat}{ws:dh}{nd fn dp:Nat}{h:ah}
theorem rL.sc{v:AV}{o:Option Ex}(e:rL X h v o):v.scalar=true/\v.cells=[v]:=by
 rcases e with⟨rfl,_⟩|⟨id,e,rfl,b,f⟩<;>exact⟨rfl,rfl⟩
theorem Ro(s:Sm)(ev tv lv:AV)(ss:List (Nat×Sm))(p:gy r a W el ec k ws nd fn dp h)(xo:zG r X h)(he:rL X h ev s.eO)(ho:rL X h tv s.Ho)(arr:cQ X h lv ss)(ha:ss.map Prod.snd=s.list)(sub:∀q,q∈ss->tS X h q.1 q.2)(A4:s.cR<=200)(la:ss.length<=300)(hn:nd+1<=20000)
 (hQ:∀id h',tS X h' id s->gy r a W el ec k ws (nd+1) fn dp h'->aR [r] h h'->Q (.ret (.P id)) h'):
 ba env 94 [.P r,.agg [.I s.kd,.I s.pos.1,.I s.pos.2,.str s.uT,.str s.uU,ev,tv,lv,.I 0]] h Q:=by
 refine wb fn94 rfl ?_;have A5:lv.scalar=true:=by rcases arr with⟨_,rfl⟩|⟨b,rfl,_,_⟩<;>rfl
 have fr:=p.fr;have hr:=p.rl;have rn:r≠h.nx:=om
 obtain⟨A,rfl⟩:∃A,ev= .ptr A:=by rcases he with⟨rfl,_⟩|⟨id,e,rfl,_,_⟩<;>exact⟨_,rfl⟩
 obtain⟨B,rfl⟩:∃B,tv= .ptr B:=by rcases ho with⟨rfl,_⟩|⟨id,e,rfl,_,_⟩<;>exact⟨_,rfl⟩
 obtain⟨C,rfl⟩:∃C,lv= .slice C ss.length:=by
  rcases arr with⟨rfl,rfl⟩|⟨b,rfl,_,_⟩
  ·exact⟨none,rfl⟩
  ·exact⟨some (b,0),rfl⟩
 have Z:=s.Eh;rw[<-ha]at Z;simp[f94];refine bz (λm x=>∃i T,i<=2/\m=2-i/\(i=0->T=0)/\(i=1->T=rP s.eO)/\(i=2->T=max (rP s.eO) (rP s.Ho))/\x.n=52/\x.ds=[]/\x.bX=false/\aJ h x.h/\h.nx+1<x.h.nx/\x.h.get h.nx=some (.C (s.cA (.ptr A) (.ptr B) (.slice C ss.length) T))/\x.h.get (h.nx+1)=some (.D 1 [(.ptr A),(.ptr B)])/\
  x.rg.get 0=some (.P r)/\x.rg.get 3=some (.P h.nx)/\x.rg.get 13=some (.S (h.nx+1) 2)/\x.rg.get 14=some (.I 2)/\x.rg.get 15=some (.I i)) 2 ?_ ?_
 ·exact⟨0,0,om,rfl,λ_=>rfl,sp,sp,rfl,rfl,rfl,((aJ.refl h).alloc _).alloc _,sp,by simp[dw.cA],sp,sp,sp,sp,sp,sp⟩
 ·rintro m ⟨rg,n',H,ds,bX⟩ ⟨i,T,hi,rfl,K,N,O,e1,e2,e3,k1,nx,go,ga,r0,r3,w,t,u⟩
  dsimp only at e1 e2 e3 k1 nx go ga r0 r3 w t u;subst e1 e2 e3;simp only[dw.cA]at go;by_cases j:i<2
  ·have P:(i:Int)<2:=om;have I:IntKind.wrap .i64 ((i:Int)+1)=((i+1:Nat):Int):=by
    rw[wr om om];simp
   obtain⟨v,o,hx,hv,y⟩:∃v o,([(.ptr A),(.ptr B)]:eu)[i]?=some v/\rL X h v o/\∀J,J=max T (rP o)->(i+1=0->J=0)/\(i+1=1->J=rP s.eO)/\(i+1=2->J=max (rP s.eO) (rP s.Ho)):=by
    obtain h0|h1:i=0\/i=1:=by omega
    ·subst h0;exact⟨(.ptr A),_,rfl,he,λJ h=>⟨om,λ_=>by rw[h,K rfl];simp,om⟩⟩
    ·subst h1;exact⟨(.ptr B),_,rfl,ho,λJ h=>⟨om,om,λ_=>by rw[h,N rfl]⟩⟩
   simp[w,t,u,P,ga,hx];rcases hv with⟨rfl,rfl⟩|⟨e,te,rfl,rfl,A1⟩
   ·simp[r0,r3,w,t,u,I];obtain⟨n0,n1,U⟩:=y T (by simp[rP]);exact⟨_,om,i+1,om,rfl,T,n0,λe=>n1 om,λe=>U om,k1,nx,by rw[go];rfl,ga,rfl⟩
   ·obtain⟨cs,gc,lc,c8⟩:=A1.cell;have D:=(k1.old _ (aw fr gc)).trans gc;have ne:e≠h.nx:=Nat.ne_of_lt (aw fr gc);simp;refine Dd ?_;simp[r0,r3,w,t,u,D,go,c8]
    repeat refine di ?_
    simp[I];obtain⟨n0,n1,U⟩:=y (max T te.cR) (by simp[rP]);refine⟨_,om,i+1,om,rfl,max T te.cR,n0,λe=>n1 om,λe=>U om,?_,om,?_,ga,rfl⟩
    ·exact kT
    ·simp[dw.cA];split<;>congr 1<;>omega
  ·have F:i=2:=om;subst F;have V:=O rfl;simp[r3,t,u,go];clear ga w t u K N O j hi;have R:=r0;have S:=r3;clear r0 r3;refine bz (λm x=>∃i T,i<=ss.length/\m=ss.length-i/\T=max (max (rP s.eO) (rP s.Ho)) (mW ((ss.map Prod.snd).take i))/\x.n=52/\x.ds=[]/\x.bX=false/\aJ h x.h/\h.nx<x.h.nx/\x.h.get h.nx=some (.C (s.cA (.ptr A) (.ptr B) (.slice C ss.length) T))/\
    x.rg.get 0=some (.P r)/\x.rg.get 3=some (.P h.nx)/\x.rg.get 31=some (.slice C ss.length)/\x.rg.get 32=some (.I ss.length)/\x.rg.get 33=some (.I i)) ss.length ?_ ?_
   ·exact⟨0,T,om,rfl,by simp[V,mW],rfl,rfl,rfl,k1,by dsimp only;omega,by rw[go];rfl,by simp[R],by simp[S],sp,sp,sp⟩
   clear k1 nx go R S rg H V T
   rintro m ⟨rg,n',H,ds,bX⟩ ⟨i,T,hi,rfl,V,e1,e2,e3,k1,nx,go,r0,r3,OS,Md,Me⟩
   dsimp only at e1 e2 e3 k1 nx go r0 r3 OS Md Me;subst e1 e2 e3;simp only[dw.cA]at go;by_cases j:i<ss.length
   ·obtain⟨b,rfl,gb⟩:∃b,C=some (b,0)/\h.get b=some (.D 1 (ss.map λp=> .P p.1)):=by
     rcases arr with⟨rfl,_⟩|⟨b,e,_,g⟩
     ·simp at j
     ·simp at e;exact⟨b,e,g⟩
    have A2:=(k1.old b (aw fr gb)).trans gb;have hx:(ss.map λp=>AV.P p.1)[i]?=some (.P ss[i].1):=(by rw[bt,aj j];rfl);obtain⟨cs,gc,lc,c8⟩:=(sub ss[i] (bk _)).cell;have D:=(k1.old _ (aw fr gc)).trans gc;have ne:ss[i].1≠h.nx:=Nat.ne_of_lt (aw fr gc);have I:IntKind.wrap .i64 ((i:Int)+1)=((i+1:Nat):Int):=by
     rw[wr om om];simp
    simp[OS,Md,Me,j,A2];refine Dd ?_;simp[r0,r3,OS,Md,Me,D,go,c8]
    repeat refine di ?_
    simp[I];have tk:mW ((ss.map Prod.snd).take (i+1))=max (mW ((ss.map Prod.snd).take i)) ss[i].2.cR:=by
     rw[cy,bt,aj j,Ei];simp[mW]
    refine⟨_,om,i+1,j,rfl,?_,om,?_,rfl⟩
    ·exact kT
    ·have A3:max (rP s.eO) (max (rP s.Ho) (mW ((ss.map Prod.snd).take (i+1))))=max T ss[i].2.cR:=(by rw[tk];omega);simp[dw.cA,A3];split<;>congr 1<;>omega
   ·have F:i=ss.length:=om;subst F;have hl:ss.length=(ss.map Prod.snd).length:=sp;have tl:(ss.map Prod.snd).take ss.length=ss.map Prod.snd:=(by rw[hl,cF]);rw[tl]at V;have I:IntKind.wrap .i64 ((T:Int)+1)=(s.cR:Int):=by
     rw[wr om om];omega
    simp[r0,r3,Md,Me,go,I];refine Mb (p.aH k1) s.cR hn om λh2 p2 k2=>?_;have go2:=(k2.old _ nx IN).trans go;have U:=k2.nx;simp[go2,r3];have kx:aR [r] h h2:=(k1.x _).trans k2;have kf:aR [r] h (h2.set h.nx (.C (s.cA (.ptr A) (.ptr B) (.slice C ss.length) s.cR))):=kX;have p3:gy r a W el ec k ws (nd+1) fn dp (h2.set h.nx (.C (s.cA (.ptr A) (.ptr B) (.slice C ss.length) s.cR))):=
     p.yX kf (by have:=p2.obj;simp[rn];exact this) p2.drop p2.len
    have mv:=Move.r fr xo kf;exact hQ h.nx _ (tS.mk (s:=s) (ev:= .ptr A) (tv:= .ptr B) (lv:= .slice C ss.length) (qs:=ss) (by simp[dw.cA]) (xo.nx (ao _)) (he.move mv) (ho.move mv) (arr.move mv) ha λq hq=>(sub q hq).move mv) p3 kf
end
end
section
section
variable{X:cB}{Q:Out->ah->Prop}{r a:Nat}{W:dh}{el ec:Int}{k:Nat}{ws:dh}{nd fn dp:Nat}{h:ah}
theorem OT(p:gy r a W el ec k ws nd fn dp h)(w:∀h',aJ h h'->Q (.ret (.I (iZ ws))) h'):ba env 154 [.P r] h Q:=by
 refine wb fn154 rfl ?_;have t:∀h',aJ h h'->Q (.ret (.I (iZ ws))) h':=w;have rl:=p.rl;simp[f154];have k1:aJ h ((((((((((h.alloc (.D 1 [.str [124,124]])).2.alloc (.D 1 [.str [38,38]])).2.alloc (.D 1 [.str [124]])).2.alloc (.D 1 [.str [94]])).2.alloc (.D 1 [.str [38]])).2.alloc (.D 1 [.str [61,61],.str [33,61]])).2.alloc (.D 1 [.str [60],.str [60,61],.str [62],.str [62,61]])).2.alloc (.D 1 [.str [60,60],.str [62,62]])).2.alloc (.D 1 [.str [43],.str [45]])).2.alloc (.D 1 [.str [42],.str [47],.str [37]])).2:=kT;have u:=p.aH k1;refine bz (λm x=>∃i:Nat,i<=10/\m=10-i/\kL ws i (ly.drop i)=iZ ws/\x.n=25/\x.ds=[]/\x.bX=false/\x.h=((((((((((h.alloc (.D 1 [.str [124,124]])).2.alloc (.D 1 [.str [38,38]])).2.alloc (.D 1 [.str [124]])).2.alloc (.D 1 [.str [94]])).2.alloc (.D 1 [.str [38]])).2.alloc (.D 1 [.str [61,61],.str [33,61]])).2.alloc (.D 1 [.str [60],.str [60,61],.str [62],.str [62,61]])).2.alloc (.D 1 [.str [60,60],.str [62,62]])).2.alloc (.D 1 [.str [43],.str [45]])).2.alloc (.D 1 [.str [42],.str [47],.str [37]])).2/\
  x.rg.get 0=some (.P r)/\x.rg.get 15=some (.agg [.S h.nx 1,.S (h.nx+1) 1,.S (h.nx+2) 1,.S (h.nx+3) 1,.S (h.nx+4) 1,.S (h.nx+5) 2,.S (h.nx+6) 4,.S (h.nx+7) 2,.S (h.nx+8) 2,.S (h.nx+9) 3])/\x.rg.get 16=some (.I (i:Nat))) 10 ?_ ?_
 ·exact⟨0,om,rfl,rfl,rfl,rfl,rfl,rfl,sp,sp,sp⟩
 rintro m ⟨rg,n,H,ds,bX⟩ ⟨i,hi,rfl,b,e1,e2,e3,v,r0,j,g⟩
 dsimp only at e1 e2 e3 v r0 j g;subst e1 e2 e3 v;by_cases y:i<10
 ·obtain h0|A|B|C|D|F|I|J|K|N:i=0\/i=1\/i=2\/i=3\/i=4\/i=5\/i=6\/i=7\/i=8\/i=9:=by omega
  ·subst h0;simp[ly,kL]at b;simp[r0,j,g];refine oD (h.nx) [[124,124]] true sp dc u ?_;cases o:anyS ws [[124,124]]with
   |true=>
    simp[o]at b;simp[b];exact t _ k1
   |false=>
    simp[o]at b;simp[r0,j,g];refine⟨_,?_,1,om,rfl,by simp[ly,kL,b],?_⟩<;>(try omega)<;>first|rfl|simp
  ·subst A;simp[ly,kL]at b;simp[r0,j,g];refine oD (h.nx+1) [[38,38]] true sp dc u ?_;cases o:anyS ws [[38,38]]with
   |true=>
    simp[o]at b;simp[b];exact t _ k1
   |false=>
    simp[o]at b;simp[r0,j,g];refine⟨_,?_,2,om,rfl,by simp[ly,kL,b],?_⟩<;>(try omega)<;>first|rfl|simp
  ·subst B;simp[ly,kL]at b;simp[r0,j,g];refine oD (h.nx+2) [[124]] true sp dc u ?_;cases o:anyS ws [[124]]with
   |true=>
    simp[o]at b;simp[b];exact t _ k1
   |false=>
    simp[o]at b;simp[r0,j,g];refine⟨_,?_,3,om,rfl,by simp[ly,kL,b],?_⟩<;>(try omega)<;>first|rfl|simp
  ·subst C;simp[ly,kL]at b;simp[r0,j,g];refine oD (h.nx+3) [[94]] true sp dc u ?_;cases o:anyS ws [[94]]with
   |true=>
    simp[o]at b;simp[b];exact t _ k1
   |false=>
    simp[o]at b;simp[r0,j,g];refine⟨_,?_,4,om,rfl,by simp[ly,kL,b],?_⟩<;>(try omega)<;>first|rfl|simp
  ·subst D;simp[ly,kL]at b;simp[r0,j,g];refine oD (h.nx+4) [[38]] true sp dc u ?_;cases o:anyS ws [[38]]with
   |true=>
    simp[o]at b;simp[b];exact t _ k1
   |false=>
    simp[o]at b;simp[r0,j,g];refine⟨_,?_,5,om,rfl,by simp[ly,kL,b],?_⟩<;>(try omega)<;>first|rfl|simp
  ·subst F;simp[ly,kL]at b;simp[r0,j,g];refine oD (h.nx+5) [[61,61],[33,61]] true sp dc u ?_;cases o:anyS ws [[61,61],[33,61]]with
   |true=>
    simp[o]at b;simp[b];exact t _ k1
   |false=>
    simp[o]at b;simp[r0,j,g];refine⟨_,?_,6,om,rfl,by simp[ly,kL,b],?_⟩<;>(try omega)<;>first|rfl|simp
  ·subst I;simp[ly,kL]at b;simp[r0,j,g];refine oD (h.nx+6) [[60],[60,61],[62],[62,61]] true sp dc u ?_;cases o:anyS ws [[60],[60,61],[62],[62,61]]with
   |true=>
    simp[o]at b;simp[b];exact t _ k1
   |false=>
    simp[o]at b;simp[r0,j,g];refine⟨_,?_,7,om,rfl,by simp[ly,kL,b],?_⟩<;>(try omega)<;>first|rfl|simp
  ·subst J;simp[ly,kL]at b;simp[r0,j,g];refine oD (h.nx+7) [[60,60],[62,62]] true sp dc u ?_;cases o:anyS ws [[60,60],[62,62]]with
   |true=>
    simp[o]at b;simp[b];exact t _ k1
   |false=>
    simp[o]at b;simp[r0,j,g];refine⟨_,?_,8,om,rfl,by simp[ly,kL,b],?_⟩<;>(try omega)<;>first|rfl|simp
  ·subst K;simp[ly,kL]at b;simp[r0,j,g];refine oD (h.nx+8) [[43],[45]] true sp dc u ?_;cases o:anyS ws [[43],[45]]with
   |true=>
    simp[o]at b;simp[b];exact t _ k1
   |false=>
    simp[o]at b;simp[r0,j,g];refine⟨_,?_,9,om,rfl,by simp[ly,kL,b],?_⟩<;>(try omega)<;>first|rfl|simp
  ·subst N;simp[ly,kL]at b;simp[r0,j,g];refine oD (h.nx+9) [[42],[47],[37]] true sp dc u ?_;cases o:anyS ws [[42],[47],[37]]with
   |true=>
    simp[o]at b;simp[b];exact t _ k1
   |false=>
    simp[o]at b;simp[r0,j,g];refine⟨10,om,rfl,by simp[ly,kL,b],?_⟩<;>(try omega)<;>first|rfl|simp
 ·have e:i=10:=by omega
  subst e;simp[ly,kL]at b;simp[g,<-b];rw[b];exact t _ k1
end
end
section
attribute[simp] Ex.kd Ex.pos Ex.CQ Ex.uT Ex.nI Ex.uU Ex.args Ex.cR lJ
def Gb(f:FuncId)(extra:List AV)(g b:Nat)(ws bH:List Wo)(e:Ex):Prop:=
 ∀(r a:Nat)(W:List Wo)(el ec:Int)(k nd fn dp:Nat)(h:ah)(X:List Nat)(Q:Out->ah->Prop),Ma W->gy r a W el ec k ws nd fn dp h->zG r X h->nd+ws.length<=1000->dp+2*ws.length<=g->b<=40->
  (∀id j i h',jl X h' id e->2*e.cR+bH.length<=ws.length+b+1->i+bH.length<=nd+ws.length->gy r a W el ec j bH i fn dp h'->aR [r] h h'->Q (.ret (.P id)) h')->ba env f (.P r::extra) h Q
def Mf(f:FuncId)(e b:Nat)(ws bH:List Wo)(s:Sm):Prop:=
 ∀(r a:Nat)(W:List Wo)(el ec:Int)(k nd fn dp:Nat)(h:ah)(X:List Nat)(Q:Out->ah->Prop),Ma W->gy r a W el ec k ws nd fn dp h->zG r X h->nd+ws.length<=1000->dp+2*ws.length<=e->b<=40->
  (∀id i g h',tS X h' id s->2*s.cR+bH.length<=ws.length+b+1->g+bH.length<=nd+ws.length->gy r a W el ec i bH g fn dp h'->aR [r] h h'->Q (.ret (.P id)) h')->ba env f [.P r] h Q
def Spec:Tag->Nat->List Wo->List Wo->Re->Prop
 | .un,b,ws,bH,.e e=>Gb 153 [] 600 b ws bH e
 | .bin l,b,ws,bH,.e e=>Gb 123 [.I l] 600 b ws bH e
 | .ed,b,ws,bH,.e e=>Gb 213 [] 601 b ws bH e
 | .pW,b,ws,bH,.s s=>Mf 93 599 b ws bH s
 | .ub,b,ws,bH,.s s=>Mf 72 600 b ws bH s
 | .dec,b,ws,bH,.s s=>Mf 92 599 b ws bH s
 |_,_,_,_,_=>True
def qf:Tag->Nat
 | .un=>1
 | .bin _=>2
 | .ub=>3
 | .pW=>4
 |_=>0
def lO(t:Tag)(ws:List Wo):Nat:=5*ws.length+qf t
def Ek(m:Nat):Prop:=∀(t:Tag)(b:Nat)(ws bH:List Wo)(r:Re),lO t ws<m->G t b ws bH r->Spec t b ws bH r
section
variable{X:cB}{Q:Out->ah->Prop}{r a:Nat}{W:dh}{el ec:Int}{k:Nat}{ws:dh}{nd fn dp:Nat}{h:ah}
theorem Move.new{h:ah}{i:Nat}(o:dK)(g:h.get i=none):Move X X h (h.set i o):=
 ⟨λj u b e=>⟨by rw[ah.aM,ay (by rintro rfl;rw[g]at b;cases b)];exact b,e⟩⟩
theorem gy.new(p:gy r a W el ec k ws nd fn dp h){i:Nat}(o:dK)(g:h.get i=none)(hi:i<h.nx):gy r a W el ec k ws nd fn dp (h.set i o):=
 ⟨by rw[ah.aM,ay (by rintro rfl;rw[p.obj]at g;cases g)];exact p.obj,by rw[ah.aM,ay (by rintro rfl;rw[p.arr]at g;cases g)];exact p.arr,p.drop,p.len,p.ne,p.rl,p.al,
  λj b=>by
   have b:h.nx<=j:=b;rw[ah.aM,ay om];exact p.fr j b⟩
theorem zG.x(xo:zG r X h){h':ah}(kx:aR [r] h h'):zG r X h':=xo.le kx.nx
theorem OU{P:Nat×Ex->Prop}{x:Nat×Ex}(h:P x):∀q,q∈[x]->P q:=by simpa using h
theorem Tb{P:Nat×Ex->Prop}{x y:Nat×Ex}(h:P x)(h':P y):∀q,q∈[x,y]->P q:=by
 intro q b;simp only[ak,bm,cT]at b;rcases b with rfl|rfl
 ·exact h
 ·exact h'
theorem vY{b:Nat}{o c:Wo}{bQ:dh}{e:Ex}(ho:eX o [40])(m:Gb 123 [.I 0] 600 b ws (c::bQ) e)(t:eX c [41])(ok:Ma W)(p:gy r a W el ec k (o::ws) nd fn dp h)(xo:zG r X h)
 (F:nd+ws.length<=999) (u:dp+2*ws.length<=600) (v:b<=40)
 (w:∀id y g h',jl X h' id e->2*e.cR+bQ.length<=ws.length+b->g+bQ.length+1<=nd+ws.length->gy r a W el ec y bQ g fn dp h'->aR [r] h h'->Q (.ret (.P id)) h'):
 ba env 124 [.P r] h Q:=by
 refine wb fn124 rfl ?_;simp[f124];refine iE p ho λA B k2=>?_;simp;refine m r a W el ec _ nd fn dp A X _ ok B (xo.x k2) om u v λid k3 C I e3 l3 D p3 i=>?_;simp;refine iE p3 t λJ p4 j=>?_;simp only[ai]at l3 D;simp;exact w _ _ _ _ (e3.move (Move.r p3.fr ((xo.x k2).x i) j)) om om p4 (k2.trans (i.trans j))
theorem Df:∀ws:dh,-1<=iZ ws/\iZ ws<=9:=λws=>by
 simp only[iZ,ly,kL]
 repeat' split
 all_goals omega
theorem Mg{l b:Nat}{bH:dh}{re:Re}(IH:Ek (lO (.bin l) ws))(hG:G (.bin l) b ws bH re):Spec (.bin l) b ws bH re:=by
 cases hG with
 |@bin _ _ _ w _ e0 ee hu N hl=>
 intro r a W el ec k nd fn dp h X Q ok p xo hn hd hb hQ;refine wb fn123 rfl ?_;have lu:=hu.len;simp[Tag.strict]at lu;simp[f123];refine IH .un b ws w _ (by simp[lO,qf]) hu r a W el ec k nd fn dp h X _ ok p xo hn hd hb λid k1 i h1 e1 l1 B v g=>?_;simp;refine bz (λm x=>∃id e k1 i cs,m=cs.length/\cs.length<ws.length/\G (.steps l e) b cs bH (.e ee)/\x.n=31/\x.ds=[]/\x.bX=false/\jl X x.h id e/\2*e.cR+cs.length<=ws.length+b+1/\i+cs.length<=nd+ws.length/\gy r a W el ec k1 cs i fn dp x.h/\aR [r] h x.h/\
  x.rg.get 0=some (.P r)/\x.rg.get 1=some (.I l)/\x.rg.get 5=some (.P id)) w.length ?_ ?_
 ·exact⟨id,e0,k1,i,w,rfl,om,N,rfl,rfl,rfl,e1,l1,B,v,g,sp,sp,sp⟩
 clear e1 l1 B v g N lu hu id k1 i h1 e0
 rintro m ⟨rg,n,H,ds,bX⟩ ⟨id,e,k1,i,cs,rfl,U,V,x1,x2,C,e1,l1,B,v,g,r0,O,r5⟩
 dsimp only at x1 x2 C e1 v g r0 O r5;subst x1 x2 C;simp[r0];refine OT v λh2 k2=>?_;have Z:=v.aH k2;cases V with
 |stop=>
  simp[O,r5,hl];exact hQ _ _ _ _ (e1.move (Move.k v.fr k2)) l1 B Z (g.trans (k2.x _))
 |@step _ _ lv o bQ dR _ _ er _ ho hle hr N=>
  have A1:=Df (o::bQ);rw[ho]at A1;have A2:¬(lv:Int)<(l:Int):=by omega
  have w1:IntKind.wrap .i64 ((lv:Int)+1)=((lv+1:Nat):Int):=by
   rw[wr om om];simp
  simp[r0,O,ho,A2];refine og Z λt p3 k3=>?_;simp[Wo.cells];refine Dd ?_;simp[r0,r5,w1]
  repeat refine di ?_
  have y:((lv:Int)+1)=((lv+1:Nat):Int):=by simp
  have lr:=hr.len;simp[Tag.strict]at lr;simp at U l1 B;have C:=(xo.x g).x ((k2.x _).trans k3);have D:aR [r] h t:=g.trans ((k2.x _).trans k3);have P:aJ t (((t.alloc (.C [.I 0,.str [],.I 0,.I 0,.I 0])).2.set t.nx (.C [.I o.kind,.str o.text,.I o.n,.I o.l,.I o.c])).bump 14):=kT;have F:=p3.aH P;have A:=C.le P.nx;have f11:=p3.fr (t.nx+11) om;have e3:=(e1.move (Move.k v.fr k2)).move (Move.r Z.fr (xo.le (bh g.nx k2.nx)) k3);have A3:=e3.move (Move.k p3.fr P);rw[y];refine IH (.bin (lv+1)) b bQ dR _ (by simp[lO,qf];omega) hr r a W el ec _ i fn dp _ X _ ok F A om om hb λu k4 C2 R e4 l4 n4 p4 j=>?_;have o4:=j.old t.nx sp (by have:=p3.rl;simp;omega);have S:=j.old (t.nx+11) sp (by have:=p3.rl;simp;omega);have A4:=j.nx;simp[f11]at o4 S A4;simp
  repeat refine di ?_
  simp[S];have A5:=A3.move (Move.r F.fr A j);have p5:=p4.new (.D 1 [.P id,.P u]) S om;have I:Move X X R _:=Move.new (.D 1 [.P id,.P u]) S
  repeat refine di ?_
  have J:t.nx+11∉X:=C.nx om;have K:cQ X (R.set (t.nx+11) (.D 1 [.P id,.P u])) (.S (t.nx+11) 2) [(id,e),(u,er)]:= .inr ⟨t.nx+11,rfl,J,sp⟩;refine qc (.bin o.at o.text e er) _ _ p5 (((A.x j)).le (ao _)) K rfl (Tb (A5.move I) (e4.move I)) IN sp om λAu h5 e5 p6 k5=>?_;simp
  repeat refine di ?_
  have C3:aR [r] h R:=D.trans ((P.x _).trans j);have C4:=D.nx;have C1:aR [r] h (R.set (t.nx+11) (.D 1 [.P id,.P u])):=kX;exact⟨_,om,Au,_,_,_,dR,rfl,om,N,e5,IN,om,p6,C1.trans k5,r0,O,rfl⟩
end
end
section
section
variable{X:cB}{Q:Out->ah->Prop}{r a:Nat}{W:dh}{el ec:Int}{k:Nat}{ws:dh}{nd fn dp:Nat}{h:ah}
theorem jS.imp{E:Env}{k:FuncId}{args:eu}{h:ah}{p:Option AV}{Q Q':Option AV->ah->Prop}(hw:jS E k args h p Q)(b:∀q h',Q q h'->Q' q h'):jS E k args h p Q':=by
 obtain⟨n,v,h',e,f,g⟩:=hw;exact⟨n,v,h',e,f,b _ _ g⟩
def PR(b:Nat)(ws bH:List Wo)(e:Ex):Prop:=Gb 190 [] 601 b ws bH e
theorem El{b:Nat}{bH:dh}{eo:Ex}(IH:Ek (lO .un ws))(HP:∀{bQ:dh}{e e':Ex},G .ed b ws bQ (.e e)->G (.jx e) b bQ bH (.e e')->PR b ws bH e')(hG:G .un b ws bH (.e eo)):Spec .un b ws bH (.e eo):=by
 intro r a W el ec k nd fn dp h X Q ok p xo hn hd hb hQ;refine wd fn153 rfl ?_;have hlen:=hG.len;simp[Tag.strict]at hlen;simp[f153];refine BQ p om λcl h1 C4 G2 V p1 k1=>?_;simp;refine zF p1 λg k2=>?_;have p2:=p1.aH k2;have C5:=(k2.old cl V).trans C4;have C6:=aq V k2.nx;have A2:aR [r] h g:=k1.trans (k2.x _);have A:cl≠r:=by have:=p.rl;omega
 generalize C7:De el ec ws=pl at*
 simp;have K3:aJ g ((((g.alloc (.C [.I 0,.I 0])).2.set g.nx (.C [.I pl.1,.I pl.2])).alloc (.D 1 [.str [45],.str [126],.str [33],.str [42],.str [38]])).2):=kT;have p3:=p2.aH K3;have F4:=(K3.old cl C6).trans C5;have gA:((((g.alloc (.C [.I 0,.I 0])).2.set g.nx (.C [.I pl.1,.I pl.2])).alloc (.D 1 [.str [45],.str [126],.str [33],.str [42],.str [38]])).2).get g.nx=some (.C [.I pl.1,.I pl.2]):=sp
 have gU:((((g.alloc (.C [.I 0,.I 0])).2.set g.nx (.C [.I pl.1,.I pl.2])).alloc (.D 1 [.str [45],.str [126],.str [33],.str [42],.str [38]])).2).get (g.nx+1)=some (.D 1 (vm.map AV.str)):=by simp[vm]
 have nA:((((g.alloc (.C [.I 0,.I 0])).2.set g.nx (.C [.I pl.1,.I pl.2])).alloc (.D 1 [.str [45],.str [126],.str [33],.str [42],.str [38]])).2).nx=g.nx+2:=sp
 have x3:=((xo.x A2).le K3.nx)
 have v:aR [r] h ((((g.alloc (.C [.I 0,.I 0])).2.set g.nx (.C [.I pl.1,.I pl.2])).alloc (.D 1 [.str [45],.str [126],.str [33],.str [42],.str [38]])).2):=A2.trans (K3.x _);generalize (((g.alloc (.C [.I 0,.I 0])).2.set g.nx (.C [.I pl.1,.I pl.2])).alloc (.D 1 [.str [45],.str [126],.str [33],.str [42],.str [38]])).2=F at*;have P:cl<F.nx:=om
 have lA:g.nx<F.nx:=om
 have R:g.nx≠r/\cl≠g.nx:=⟨by have:=p2.rl;omega,om⟩
 generalize g.nx=iA at*;clear K3 k2 p2 C5 C6 A2 k1 p1 C4;have gc:F.get cl=some (.C [.P r]):=F4;refine oD (iA+1) vm true gU dc p3 ?_;cases hG with
 |@unop b o _ _ e0 ho hu=>
  have lu:=hu.len;simp[Tag.strict]at lu;simp only[ai]at hd hn hlen;simp[ho];refine og p3 λi p4 B=>?_;have x4:=x3.x B;have g4:=(B.old iA lA (by simp[R.1])).trans gA;have A3:=(B.old cl P (by simp[A])).trans gc;have n4:=B.nx;simp[Wo.cells];refine Dd ?_;simp[g4]
  repeat refine di ?_
  have A4:gy r a W el ec _ _ _ _ _ (i.bump 9):=p4.aH ((aJ.refl i).bump 9);have I:zG r X (i.bump 9):=x4.le sp;have f5:=p4.fr (i.nx+5) om;refine IH .un b _ bH _ (by simp[lO,qf]) hu r a W el ec _ nd fn (dp+1) _ X _ ok A4 I om om om λid D F5 w e5 l5 n5 p5 j=>?_;have S:=j.old (i.nx+5) sp (by have:=p4.rl;simp;omega);have g5:=j.old iA IN (by simp[R.1]);have m:=j.old cl IN (by simp[A]);have A5:=j.nx;simp[f5,g4]at S g5 m A5;rw[A3]at m;simp
  repeat refine di ?_
  simp[S]
  repeat refine di ?_
  have p6:=p5.new (.D 1 [.P id]) S om;have x6:zG r X (w.set (i.nx+5) (.D 1 [.P id])):=(I.x j).le (ao _);have Au:Move X X w _:=Move.new (.D 1 [.P id]) S;have J:cQ X (w.set (i.nx+5) (.D 1 [.P id])) (.S (i.nx+5) 1) [(id,e0)]:= .inr ⟨i.nx+5,rfl,x4.nx om,sp⟩;simp only[ai]at hQ;subst C7;refine qc (.un o.at o.text e0) _ _ p6 x6 J rfl (OU (e5.move Au)) IN sp om λF6 h7 e7 Z N=>?_;simp
  repeat refine di ?_
  have C1:h7.get cl=some (.C [.P r]):=by
   rw[N.old cl IN (by simp[A]),ah.aM,ay om,m]
  have F7:aR [r] h w:=v.trans (B.trans ((((aJ.refl i).bump 9).x _).trans j));have C8:=v.nx;have C2:aR [r] h (w.set (i.nx+5) (.D 1 [.P id])):=kX;refine gD Z cl C1 om none _ λh8 p8 k8=>?_;simp;exact hQ _ _ _ _ (e7.move (Move.r Z.fr (x6.x N) k8)) IN om p8 ((C2.trans N).trans k8)
 |@cast b o c t bQ _ e0 ty ho ht hT hc hu=>
  have lu:=hu.len;have lT:=hT.jx;simp[Tag.strict]at lu;simp only[ai]at hd hn hlen lT;have FF:anyS (o::t) vm=false:=by simp[anyS,vm,ho.bF]
  have U:bF (o::t) [40]=true:=by simp[ho.bF]
  simp[FF];refine pX _ p3 ?_;have C:=p3.obj;have FO:(0:Int)<(t.length:Int):=by omega
  have C9:(1:Int)<=(t.length:Int)+1:=by omega
  have CL:(1:Int)<(t.length:Int)+1:=by omega
  simp[PO]at C;simp[U,C,p3.arr,C9,CL];have O:=(aJ.refl F).alloc (PO a (k+1) t.length 0 0 0 0 0);have p4:=p3.aH O;have q4:gy F.nx a W 0 0 (k+1) t 0 0 0 (F.alloc (PO a (k+1) t.length 0 0 0 0 0)).2:=
   ⟨sp,p4.arr,lI p3.drop,by have:=p3.len;simp at this;omega,by have:=p3.al;omega,sp,p4.al,p4.fr⟩
  have C3:5*k+5=5*(k+1):=by omega
  simp[PO]at q4 p4⊢;rw[C3];refine yG q4 λw D=>?_;have p5:=p4.aH D;have F0:=(D.old iA IN).trans ((O.old iA lA).trans gA);have m:=(D.old cl IN).trans ((O.old cl P).trans gc);have F1:=v.trans ((O.trans D).x _);have x5:=x3.le (O.trans D).nx
  have n5:=(O.trans D).nx
  clear q4 p4 O D p3 gA gc v;simp[ht];refine og p5 λh6 p6 k6=>?_;simp;refine BR ok hT p6 λk' h7 F2 Z N=>?_;simp;refine iE Z hc λi p4 B=>?_;have K:=(k6.trans N).trans B;have x4:=x5.x K;have g4:=(K.old iA om (by simp[R.1])).trans F0;have A3:=(K.old cl om (by simp[A])).trans m;have n4:=K.nx;have v:=F1.trans K;clear p5 p6 Z F0 m F1 k6 N B K;simp;refine Dd ?_;simp[g4]
  repeat refine di ?_
  have A4:gy r a W el ec _ _ _ _ _ (i.bump 9):=p4.aH ((aJ.refl i).bump 9);have I:zG r X (i.bump 9):=x4.le sp;have f5:=p4.fr (i.nx+5) om;refine IH .un b _ bH _ (by simp[lO,qf];omega) hu r a W el ec _ nd fn (dp+1) _ X _ ok A4 I om om om λid D F5 w e5 l5 n5 p5 j=>?_;have S:=j.old (i.nx+5) sp (by have:=p4.rl;simp;omega);have g5:=j.old iA IN (by simp[R.1]);have m:=j.old cl IN (by simp[A]);have A5:=j.nx;simp[f5,g4]at S g5 m A5;rw[A3]at m;simp
  repeat refine di ?_
  simp[S]
  repeat refine di ?_
  have p6:=p5.new (.D 1 [.P id]) S om;have x6:zG r X (w.set (i.nx+5) (.D 1 [.P id])):=(I.x j).le (ao _);have Au:Move X X w _:=Move.new (.D 1 [.P id]) S;have J:cQ X (w.set (i.nx+5) (.D 1 [.P id])) (.S (i.nx+5) 1) [(id,e0)]:= .inr ⟨i.nx+5,rfl,x4.nx om,sp⟩;simp only[ai]at hQ lu;subst C7;refine qc (.cast o.at ty e0) _ _ p6 x6 J rfl (OU (e5.move Au)) IN sp om λF6 h7 e7 Z N=>?_;simp
  repeat refine di ?_
  have C1:h7.get cl=some (.C [.P r]):=by
   rw[N.old cl IN (by simp[A]),ah.aM,ay om,m]
  have F7:aR [r] h w:=v.trans ((((aJ.refl i).bump 9).x _).trans j);have C8:=v.nx;have C2:aR [r] h (w.set (i.nx+5) (.D 1 [.P id])):=kX;refine gD Z cl C1 om none _ λh8 p8 k8=>?_;simp;exact hQ _ _ _ _ (e7.move (Move.r Z.fr (x6.x N) k8)) IN om p8 ((C2.trans N).trans k8)
 |@post b _ bQ _ e0 _ h1 g hp hs=>
  simp[h1];refine pX _ p3 ?_;have fin:∀i,aJ F i->ba env 190 [.P r] i (λout h'=>∃id,out= .ret (.P id)/\jS env 122 [.P cl] h' none (λq g=>q=none/\Q (.ret (.P id)) g)):=λi B=>
   HP hp hs r a W el ec _ nd fn (dp+1) i X _ ok (p3.aH B) (x3.le B.nx) hn om hb λid k' G3 h9 e l n p9 k9=>⟨id,rfl,by
    have FP:=(k9.old cl (aq P B.nx) (by simp[A])).trans ((B.old cl P).trans gc);refine gD p9 cl FP om none _ λh8 p8 k8=>⟨rfl,hQ _ _ _ _ (e.move (Move.r p9.fr ((x3.le B.nx).x k9) k8)) l n p8 (((v.trans (B.x _)).trans k9).trans k8)⟩⟩
  have C:=p3.obj;simp[PO]at C;cases U:bF ws [40]with
  |false=>
   simp;refine(fin _ (aJ.refl _)).mono λout h9 y=>?_;obtain⟨id,rfl,hw⟩:=y;simp;refine jS.imp hw λq F3 y=>?_;obtain⟨rfl,y⟩:=y;simp;exact y
  |true=>
   cases ws with
   |nil=>cases U
   |cons o t=>
   cases t with
   |nil=>
    simp[C];refine(fin _ (aJ.refl _)).mono λout h9 y=>?_;obtain⟨id,rfl,hw⟩:=y;simp;refine jS.imp hw λq F3 y=>?_;obtain⟨rfl,y⟩:=y;simp;exact y
   |cons o2 u=>
    have F2:dF (o2::u)=false:=by
     rcases g with g|g
     ·rw[U]at g;cases g
     ·exact g
    have FO:(0:Int)<(u.length:Int)+1:=om;have C9:(1:Int)<=(u.length:Int)+1+1:=om;have CL:(1:Int)<(u.length:Int)+1+1:=om;have FQ:(1:Int)<(u.length:Int)+2:=om;have FW:(1:Int)<=(u.length:Int)+2:=om;simp at C;simp[C,p3.arr,FQ,FW];have O:=(aJ.refl F).alloc (PO a (k+1) (u.length+1) 0 0 0 0 0);have p4:=p3.aH O;have q4:gy F.nx a W 0 0 (k+1) (o2::u) 0 0 0 (F.alloc (PO a (k+1) (u.length+1) 0 0 0 0 0)).2:=
     ⟨sp,p4.arr,lI p3.drop,by have:=p3.len;simp at this⊢;omega,by have:=p3.al;omega,sp,p4.al,p4.fr⟩
    have C3:5*k+5=5*(k+1):=om;have A1:=λw(D:aJ (F.alloc (PO a (k+1) (u.length+1) 0 0 0 0 0)).2 w)=>fin w (O.trans D);simp[PO]at q4 A1⊢;rw[C3];refine yG q4 λw D=>?_;simp[F2];refine(A1 w D).mono λout h9 y=>?_;obtain⟨id,rfl,hw⟩:=y;simp;refine jS.imp hw λq F3 y=>?_;obtain⟨rfl,y⟩:=y;simp;exact y
end
end
section
section
variable{X:cB}{Q:Out->ah->Prop}{r a:Nat}{W:dh}{el ec:Int}{k:Nat}{ws:dh}{nd fn dp:Nat}{h:ah}
theorem eF{E:Env}(pm:cB){l l2:List Oper}{Q:bT->St->Prop}{rg:T AV}{n id:Nat}{h:ah}{ds:List nh}{bX:Bool}(b:tM E l.toArray=jg l.toArray pm)(f:pm.filterMap (λi=>(l[i]?).map (cz pm))=l2)(g:iD l2.toArray=true)
 (j:uR E l2.toArray (gX l2.toArray) h.nx n ds bX Q l2.zipIdx rg (h.bump l2.length) [] []):ct E (.region id l.toArray true) Q ⟨rg,n,h,ds,bX⟩:=by
 show K9 E (tM E l.toArray) Q _;have e:jg l.toArray pm=l2.toArray:=by
  unfold jg;rw[<-f];simp
 rw[b,e];exact⟨g,jh j⟩
theorem zH{b:Nat}{bQ bH:dh}{C eo:Ex}(IH:Ek (lO .un ws))(hp:G .ed b ws bQ (.e C))(R:G (.jx C) b bQ bH (.e eo)):PR b ws bH eo:=by
 intro r a W el ec k nd fn dp h X Q ok p xo hn hd hb hQ;refine wb fn190 rfl ?_;have lp:=hp.len;simp[Tag.strict]at lp;simp[f190];refine IH .ed b ws bQ _ (by simp[lO,qf]) hp r a W el ec _ nd fn dp h X _ ok p xo hn om hb λid k1 t h1 e1 l1 V S y=>?_;simp;refine bz (λm x=>∃id e b1 k1 t cs,m=cs.length/\cs.length<ws.length/\b1<=b/\G (.jx e) b1 cs bH (.e eo)/\x.n=47/\x.ds=[]/\x.bX=false/\jl X x.h id e/\2*e.cR+cs.length<=ws.length+b+1/\t+cs.length<=nd+ws.length/\gy r a W el ec k1 cs t fn dp x.h/\aR [r] h x.h/\
  x.rg.get 0=some (.P r)/\x.rg.get 3=some (.P id)) bQ.length ?_ ?_
 ·exact⟨id,C,b,k1,t,bQ,rfl,om,ao _,R,rfl,rfl,rfl,e1,l1,V,S,y,sp,sp⟩
 clear e1 l1 V S y R lp hp id k1 t h1 bQ C
 rintro m ⟨rg,n,H,ds,bX⟩ ⟨id,C,b1,k1,t,cs,rfl,Z,A1,C7,x1,x2,D,e1,l1,V,S,y,r0,r3⟩
 dsimp only at x1 x2 D e1 S y r0 r3;subst x1 x2 D;simp[r0];refine zF S λA k2=>?_;have p2:=S.aH k2;generalize A2:De el ec cs=pl at*;simp[r0];have K3:aJ A ((A.alloc (.C [.I 0,.I 0])).2.set A.nx (.C [.I pl.1,.I pl.2])):=kT;have p3:=p2.aH K3;have gA:((A.alloc (.C [.I 0,.I 0])).2.set A.nx (.C [.I pl.1,.I pl.2])).get A.nx=some (.C [.I pl.1,.I pl.2]):=sp
 have F:aR [r] h _:=y.trans ((k2.trans K3).x [r]);have e3:=e1.move (Move.k S.fr (k2.trans K3));have I:A.nx≠r:=by have:=p2.rl;omega
 have lA:A.nx<((A.alloc (.C [.I 0,.I 0])).2.set A.nx (.C [.I pl.1,.I pl.2])).nx:=sp
 generalize (A.alloc (.C [.I 0,.I 0])).2.set A.nx (.C [.I pl.1,.I pl.2])=h3 at*;generalize A.nx=J at*;clear K3 k2 p2 S e1 y;have D:=xo.x F;cases C7 with
 |uV B=>
  simp[anyS]at B;obtain⟨C8,C9,CL⟩:=B;refine cx _ p3 C8 ?_;simp[r0];refine cx _ p3 C9 ?_;simp[r0];refine cx _ p3 CL ?_;simp[r3];exact hQ _ _ _ _ e3 l1 V p3 F
 |@Aw b' o c j F0 _ _ ei _ ho he hc R=>
  have lr:=he.len;simp[Tag.strict]at lr;simp only[ai]at Z l1 V;refine fR p3 ho λg p4 u=>?_;simp[r0];refine IH (.bin 0) b' j _ _ (by simp[lO,qf];omega) he r a W el ec _ t fn dp _ X _ ok p4 (D.x u) om om om λA3 k5 F4 h5 e5 l5 n5 p5 C4=>?_;simp only[ai]at l5 n5;simp[r0];refine iE p5 hc λU p6 k6=>?_;have K:=(u.trans C4).trans k6;have g6:=(K.old J lA (by simp[I])).trans gA;have e6:=e3.move (Move.r p3.fr D K);have x6:=D.x K;have F1:=e5.move (Move.r p5.fr ((D.x u).x C4) k6);simp[r0,r3,g6];have K7:=(aJ.refl U).alloc (.D 1 [.P id,.P A3]);have C5:cQ X (U.alloc (.D 1 [.P id,.P A3])).2 (.S U.nx 2) [(id,C),(A3,ei)]:= .inr ⟨U.nx,rfl,x6.nx (ao _),sp⟩;subst A2;refine qc (.index o.at C ei) _ _ (p6.aH K7) (x6.le K7.nx) C5 rfl (Tb (e6.move (Move.k p6.fr K7)) (F1.move (Move.k p6.fr K7))) IN sp om λF2 h8 e8 p8 k8=>?_;simp[r0];exact⟨_,om,F2,_,_,_,_,F0,rfl,om,A1,R,e8,IN,om,p8,(F.trans K).trans ((K7.x _).trans k8),rfl⟩
 |@Ax _ o nm j _ _ _ ho A4 R=>
  simp only[ai]at Z l1 V;have B:bF (o::nm::j) [91]=false:=by simp[ho.bF]
  refine cx _ p3 B ?_;simp[r0];refine fR p3 ho λg p4 u=>?_;have g4:=(u.old J lA (by simp[I])).trans gA;have e4:=e3.move (Move.r p3.fr D u);have x4:=D.x u;have n4:=u.nx;simp;refine eF [0,1,2,4,5,3,6,7,8] kr (by simp[cz,dG];rfl) kr ?_;have f4:=p4.fr (g.nx+4) om;simp[r0,r3,g4,f4]
  repeat refine di ?_
  have N:aJ g ((g.bump 9).set (g.nx+4) (.D 1 [.P id])):=kT;have v:=p4.aH N;have w:=x4.le N.nx;have O:cQ X ((g.bump 9).set (g.nx+4) (.D 1 [.P id])) (.S (g.nx+4) 1) [(id,C)]:= .inr ⟨g.nx+4,rfl,x4.nx om,sp⟩;have A5:=e4.move (Move.k p4.fr N);have Au:=(N.old J om).trans g4;have C1:J<((g.bump 9).set (g.nx+4) (.D 1 [.P id])).nx:=by simp;omega
  have gI:((g.bump 9).set (g.nx+4) (.D 1 [.P id])).get J=some (.C [.I pl.1,.I pl.2]):=Au;generalize F3:((g.bump 9).set (g.nx+4) (.D 1 [.P id]))=h5 at*;refine oh v A4 λU p6 i=>?_;have g6:=(i.old J C1 (by simp[I])).trans gI;have e6:=A5.move (Move.r v.fr w i);have P:=O.move (Move.r v.fr w i);have x6:=w.x i;simp
  repeat refine di ?_
  subst A2;refine qc (.fN o.at nm.text C) _ _ p6 x6 P rfl (OU e6) IN sp om λC2 h7 e7 p7 k7=>?_;simp
  repeat refine di ?_
  have C3:aR [r] h U:=F.trans (u.trans ((N.x _).trans i));simp[r0];exact⟨_,om,C2,_,_,_,_,j,rfl,om,A1,R,e7,IN,om,p7,C3.trans k7,rfl⟩
 |@Ay _ o nm j _ _ _ ho A4 R=>
  simp only[ai]at Z l1 V;have B:bF (o::nm::j) [91]=false:=by simp[ho.bF]
  refine cx _ p3 B ?_;simp[r0];have C6:bF (o::nm::j) [46]=false:=by simp[ho.bF]
  refine cx _ p3 C6 ?_;simp[r0];refine fR p3 ho λg p4 u=>?_;have g4:=(u.old J lA (by simp[I])).trans gA;have e4:=e3.move (Move.r p3.fr D u);have x4:=D.x u;have n4:=u.nx;simp;refine eF [0,1,2,4,5,3,6,7,8] kr (by simp[cz,dG];rfl) kr ?_;have f4:=p4.fr (g.nx+4) om;simp[r0,r3,g4,f4]
  repeat refine di ?_
  have N:aJ g ((g.bump 9).set (g.nx+4) (.D 1 [.P id])):=kT;have v:=p4.aH N;have w:=x4.le N.nx;have O:cQ X ((g.bump 9).set (g.nx+4) (.D 1 [.P id])) (.S (g.nx+4) 1) [(id,C)]:= .inr ⟨g.nx+4,rfl,x4.nx om,sp⟩;have A5:=e4.move (Move.k p4.fr N);have Au:=(N.old J om).trans g4;have C1:J<((g.bump 9).set (g.nx+4) (.D 1 [.P id])).nx:=by simp;omega
  have gI:((g.bump 9).set (g.nx+4) (.D 1 [.P id])).get J=some (.C [.I pl.1,.I pl.2]):=Au;generalize F3:((g.bump 9).set (g.nx+4) (.D 1 [.P id]))=h5 at*;refine oh v A4 λU p6 i=>?_;have g6:=(i.old J C1 (by simp[I])).trans gI;have e6:=A5.move (Move.r v.fr w i);have P:=O.move (Move.r v.fr w i);have x6:=w.x i;simp
  repeat refine di ?_
  subst A2;refine qc (.arrow o.at nm.text C) _ _ p6 x6 P rfl (OU e6) IN sp om λC2 h7 e7 p7 k7=>?_;simp
  repeat refine di ?_
  have C3:aR [r] h U:=F.trans (u.trans ((N.x _).trans i));simp[r0];exact⟨_,om,C2,_,_,_,_,j,rfl,om,A1,R,e7,IN,om,p7,C3.trans k7,rfl⟩
end
end
section
def aT:AV->List Nat
 | .slice (some (b,_)) _=>[b]
 |_=>[]
section
variable{X:cB}{Q:Out->ah->Prop}{r a:Nat}{W:dh}{el ec:Int}{k:Nat}{ws:dh}{nd fn dp:Nat}{h:ah}
theorem wG{st e:TypeId}{f:Nat}{z:AV}(hu:env.nv st=some (.slice e))(m:env.siz e=some 1)(o:env.byt e=some f)(v:f<=100)(u:env.zer e=some [z]){α:Type}{av:AV}{qs:List (Nat×α)}(arr:cQ X h av qs)(A:qs.length<=300)
 (src id:Nat) (t:α) (g:h.get src=some (.D 1 [.P id])) (fr:bP h):
 ∃i,aK env h st av (.S src 1)=some (.S h.nx (qs.length+1),i)/\i.nx=h.nx+1/\i.get h.nx=some (.D 1 ((qs++[(id,t)]).map λp=> .P p.1))/\aR (aT av) h i:=by
 have w:¬roomy<(qs.length+1)*(f+1):=by
  have:(qs.length+1)*(f+1)<=301*101:=sY om om;unfold roomy;omega
 have r0:¬roomy<f+1:=by unfold roomy;omega
 rcases arr with⟨rfl,rfl⟩|⟨b,rfl,_,gb⟩
 ·refine⟨_,by simp[-me,hu,m,o,u,g,r0];rfl,rfl,sp,?_⟩;exact kX
 ·have hlen:(qs.map λp=>AV.P p.1).length=qs.length:=List.length_map ..;have j:=aw fr gb
  generalize y:(qs.map λp=>AV.P p.1)=F at*;have g1:¬qs.length+1<=F.length:=by omega
  have g2:qs.length<=F.length:=by omega
  have tk:F.take qs.length=F:=cn om;refine⟨_,by simp[-me,hu,m,o,u,g,gb,w,g1,g2,tk];rfl,rfl,by simp[y],?_⟩;simp[aT];refine aR.alloc _ (aR.set _ (aR.refl _ _) (.inl sp) j)
theorem cQ.ne{α:Type}{av:AV}{qs:List (Nat×α)}(arr:cQ X h av qs)(p:gy r a W el ec k ws nd fn dp h)(hr:r∈X):∀z,z∈aT av->z≠r/\z≠a:=by
 rcases arr with⟨rfl,rfl⟩|⟨b,rfl,f,gb⟩
 ·simp[aT]
 ·simp only[aT,aQ]
  rintro z rfl
  refine⟨λe=>f (e▸hr),λe=>?_⟩;subst e;have:=p.arr;rw[gb]at this;injection this with this;injection this with _ e;cases e
theorem gy.app(p:gy r a W el ec k ws nd fn dp h){h':ah}{Z:cB}(kx:aR Z h h')(e:∀z,z∈Z->z≠r/\z≠a):gy r a W el ec k ws nd fn dp h':=
 ⟨(kx.old r p.rl λb=>(e r b).1 rfl).trans p.obj,(kx.old a p.al λb=>(e a b).2 rfl).trans p.arr,p.drop,p.len,p.ne,aq p.rl kx.nx,aq p.al kx.nx,kx.fresh p.fr⟩
theorem J1{b:Nat}{bH:dh}{eo:Ex}(IH:Ek (lO .ed ws))(hG:G .ed b ws bH (.e eo)):Spec .ed b ws bH (.e eo):=by
 intro r a W el ec k nd fn dp h X Q ok p xo hn hd hb hQ;refine wb fn213 rfl ?_;simp[f213];refine zF p λh2 k2=>?_;have p2:=p.aH k2;have G4:∃pl,pl=De el ec ws:=⟨_,rfl⟩
 obtain⟨pl,S⟩:=G4;rw[<-S];simp;have K3:aJ h2 ((h2.alloc (.C [.I 0,.I 0])).2.set h2.nx (.C [.I pl.1,.I pl.2])):=kT;have p3:=p2.aH K3;have gA:((h2.alloc (.C [.I 0,.I 0])).2.set h2.nx (.C [.I pl.1,.I pl.2])).get h2.nx=some (.C [.I pl.1,.I pl.2]):=sp
 have D:aR [r] h _:=(k2.trans K3).x [r];have F:h2.nx≠r:=by have:=p2.rl;omega
 have lA:h2.nx<((h2.alloc (.C [.I 0,.I 0])).2.set h2.nx (.C [.I pl.1,.I pl.2])).nx:=sp
 generalize (h2.alloc (.C [.I 0,.I 0])).2.set h2.nx (.C [.I pl.1,.I pl.2])=h3 at*;generalize h2.nx=C at*;clear K3 k2 p2 p;have x3:=xo.x D;cases hG with
 |@num b w _ hk=>
  have j:w.kind<3:=by omega
  refine pX _ p3 ?_;simp[dY j];refine cx _ p3 (dY j) ?_;simp;refine cx _ p3 (dY j) ?_;have v:=p3.obj;obtain⟨c0,c1,c2,d0,d3,l5,l3⟩:=xt p3.drop;have A5:(0:Int)<(bH.length:Int)+1:=by omega
  simp[PO]at v;simp[v,p3.arr,c0,hk,A5];refine Dd ?_;simp[gA]
  repeat refine di ?_
  have KB:=(aJ.refl h3).bump 8;have gB:(h3.bump 8).get C=_:=gA;refine og (p3.aH KB) λh4 p4 J=>?_;have g4:=(J.old C IN (by simp[F])).trans gB;simp[Wo.cells]
  repeat refine di ?_
  simp only[ai]at hn hQ;subst S;refine qc (.num w.at w.n) _ [] p4 ((x3.le KB.nx).x J) (.inl ⟨rfl,rfl⟩) rfl sp (by simp<;>omega) sp om λC1 U e7 N P=>?_;simp
  repeat refine di ?_
  exact hQ _ _ _ _ e7 (by simp<;>omega) om N ((D.trans ((KB.x _).trans J)).trans P)
 |@var b w _ hk hs=>
  have j:w.kind<3:=by omega
  refine pX _ p3 ?_;simp[dY j];refine cx _ p3 (dY j) ?_;simp;refine cx _ p3 (dY j) ?_;have v:=p3.obj;obtain⟨c0,c1,c2,d0,d3,l5,l3⟩:=xt p3.drop;have A5:(0:Int)<(bH.length:Int)+1:=by omega
  simp[PO]at v;simp[v,p3.arr,c0,hk,A5];refine oh p3 hk λh4 p4 J=>?_;have g4:=(J.old C lA (by simp[F])).trans gA;simp;refine cx _ p4 hs ?_;simp[g4];simp only[ai]at hn hQ;subst S;refine qc (.var w.at w.text) _ [] p4 (x3.x J) (.inl ⟨rfl,rfl⟩) rfl sp (by simp<;>omega) sp om λC1 U e7 N P=>?_;simp;exact hQ _ _ _ _ e7 (by simp<;>omega) om N ((D.trans J).trans P)
 |@tT b w o c _ hk ho R=>
  have j:w.kind<3:=by omega
  refine pX _ p3 ?_;simp[dY j];refine cx _ p3 (dY j) ?_;simp;refine cx _ p3 (dY j) ?_;have v:=p3.obj;obtain⟨c0,c1,c2,d0,d3,l5,l3⟩:=xt p3.drop;simp only[ai]at hn hd hQ;have A5:(0:Int)<(bH.length:Int)+1+1+1:=by omega
  have C2:(0:Int)<(bH.length:Int)+1+1:=by omega
  have F4:(0:Int)<(bH.length:Int)+3:=by omega
  have F5:(0:Int)<(bH.length:Int)+2:=by omega
  simp[PO]at v;simp[v,p3.arr,c0,hk,F4];refine oh p3 hk λh4 p4 J=>?_;simp;refine fR p4 ho λB p5 k5=>?_;simp;refine fR p5 R λh6 p6 k6=>?_;have K:=(J.trans k5).trans k6;have g6:=(K.old C lA (by simp[F])).trans gA;simp;refine bz (λm x=>m=0/\x.n=97/\x.ds=[]/\x.bX=false/\x.h=h6/\x.rg.get 0=some (.P r)/\x.rg.get 3=some (.P C)/\x.rg.get 5=some (.str w.text)/\x.rg.get 6=some (.Z)/\x.rg.get 7=some (.bool false)) 0 ?_ ?_
  ·exact⟨rfl,rfl,rfl,rfl,rfl,sp,sp,sp,sp,sp⟩
  rintro m ⟨rg,n,H,ds,bX⟩ ⟨rfl,e1,e2,e3,e4,r0,r3,r5,r6,r7⟩
  dsimp only at e1 e2 e3 e4 r0 r3 r5 r6 r7;subst e1 e2 e3 e4;simp[r0,r3,r5,r6,r7,g6];subst S;refine qc (.call w.at w.text []) _ [] p6 (x3.x K) (.inl ⟨rfl,rfl⟩) rfl sp (by simp<;>omega) sp om λC1 U e7 N P=>?_;simp;exact hQ _ _ _ _ e7 (by simp<;>omega) om N ((D.trans K).trans P)
 |@call b w o u _ es hk ho hs ha=>
  have j:w.kind<3:=by omega
  refine pX _ p3 ?_;simp[dY j];refine cx _ p3 (dY j) ?_;simp;refine cx _ p3 (dY j) ?_;have v:=p3.obj;obtain⟨c0,c1,c2,d0,d3,l5,l3⟩:=xt p3.drop;simp only[ai]at hn hd hQ;have A5:(0:Int)<(u.length:Int)+1+1+1:=by omega
  have C2:(0:Int)<(u.length:Int)+1+1:=by omega
  have F4:(0:Int)<(u.length:Int)+3:=by omega
  have F5:(0:Int)<(u.length:Int)+2:=by omega
  simp[PO]at v;simp[v,p3.arr,c0,hk,F5];refine oh p3 hk λh4 p4 J=>?_;simp;refine fR p4 ho λB p5 k5=>?_;simp;refine cx _ p5 hs ?_;have K:=J.trans k5;have g5:=(K.old C lA (by simp[F])).trans gA;have x5:=x3.x K;have F6:=D.trans K;have F7:C<B.nx:=aq lA K.nx;simp;have G5:=ha.len;simp[Tag.strict]at G5;obtain⟨I,hI⟩:∃I:Nat->St->Prop,I=(λm x=>∃qs av cs k1 C3 M more,m=cs.length/\(more=true->∃l2,G .args b cs bH (.es l2)/\qs.map Prod.snd++l2=es/\bH.length<cs.length)/\(more=false->cs=bH/\qs.map Prod.snd=es)/\cs.length<=u.length/\qs.length+cs.length<=u.length/\x.n=97/\x.ds=[]/\x.bX=false/\cQ X x.h av qs/\(∀q,q∈qs->jl (aT av++X) x.h q.1 q.2)/\lJ (qs.map Prod.snd)<=M/\2*M+bH.length<=u.length+b+1/\C3+cs.length<=nd+u.length/\gy r a W el ec k1 cs C3 fn dp x.h/\
   (∀z,z∈aT av->h.nx<=z/\z≠C/\z<x.h.nx)/\aR [r] h x.h/\C<x.h.nx/\x.h.get C=some (.C [.I pl.1,.I pl.2])/\
   x.rg.get 0=some (.P r)/\x.rg.get 3=some (.P C)/\x.rg.get 5=some (.str w.text)/\x.rg.get 6=some av/\x.rg.get 7=some (.bool more)):=⟨_,rfl⟩
  refine bz I u.length (by rw[hI];exact⟨[],.Z,u,_,nd,0,true,rfl,λ_=>⟨_,ha,sp,om⟩,sp,ao _,sp,rfl,rfl,rfl,.inl ⟨rfl,rfl⟩,sp,by simp[lJ],om,om,p5,by simp[aT],F6,F7,g5,sp,sp,sp,sp,sp⟩) ?_;clear p5 p4 p3 J k5 K g5 x5 F6 F7 gA D x3 v c0 c1 c2 d0 d3 l5 l3 lA;intro m st FF;have C6:=FF;rw[hI]at C6;obtain⟨rg,n,H,ds,bX⟩:=st;obtain⟨qs,av,cs,k1,C3,M,more,rfl,GL,Gq,H9,HA,e1,e2,e3,arr,sub,hM,HC,HE,p1,hz,O,lA,gA,r0,r3,r5,r6,r7⟩:=C6;clear FF;dsimp only at e1 e2 e3 arr sub p1 hz O lA gA r0 r3 r5 r6 r7;subst e1 e2 e3;have HG:=O.nx;cases more with
  |false=>
   obtain⟨rfl,A1⟩:=Gq rfl;rw[A1]at hM;obtain⟨ab,rfl⟩:∃ab,av= .slice ab qs.length:=by
    rcases arr with⟨rfl,rfl⟩|⟨b,rfl,_,_⟩
    ·exact⟨none,rfl⟩
    ·exact⟨some (b,0),rfl⟩
   simp[r0,r3,r5,r6,r7,gA];have Rp:∀q,q∈qs->jl X H q.1 q.2:=λq hq=>(sub q hq).move (X:=aT (.slice ab qs.length)++X) ⟨λi o g hi=>⟨g,λhx=>hi (bw _ hx)⟩⟩;subst S;refine qc (.call w.at w.text es) _ qs p1 (xo.x O) arr A1 Rp IN (by have:=ok.len;have:=p1.len;omega) om λC1 U e7 N P=>?_;simp;exact hQ _ _ _ _ e7 (by simp<;>omega) om N (O.trans P)
  |true=>
   obtain⟨l2,H2,C2,HP⟩:=GL rfl;have fst:∃A2 c V,G (.bin 0) b cs (c::A2) (.e V)/\((eX c [41]/\A2=bH/\qs.map Prod.snd++[V]=es)\/(eX c [44]/\∃l3,G .args b A2 bH (.es l3)/\(qs.map Prod.snd++[V])++l3=es)):=by
    cases H2 with
    |Ec he R=>exact⟨_,_,_,he,.inl ⟨R,rfl,C2⟩⟩
    |Co he R hr=>exact⟨_,_,_,he,.inr ⟨R,_,hr,by rw[<-C2];simp⟩⟩
   obtain⟨A2,c,V,he,F2⟩:=fst;have lh:=he.len;simp[Tag.strict]at lh;have FO:zG r (aT av++X) H:=⟨bw _ xo.r,λy Z=>by
    rcases aP.1 Z with Z|Z
    ·exact(hz y Z).2.2
    ·exact(xo.x O).lt y Z⟩
   simp[r0,r6,r7];refine IH (.bin 0) b cs _ _ (by simp[lO,qf];omega) he r a W el ec _ C3 fn dp H (aT av++X) _ ok p1 FO om om om λA k5 FP B e5 l5 n5 p5 A3=>?_;simp only[ai]at l5 n5;have FQ:=arr.move (Move.r p1.fr (xo.x O) A3);have K6:=(aJ.refl B).alloc (.D 1 [.P A]);have C7:=FQ.move (Move.k p5.fr K6);have p6:=p5.aH K6;obtain⟨U,H3,H4,g7,P⟩:=wG (st:=224) (e:=179) rfl ty179.1 ty179.2.1 dc ty179.2.2.2 C7 (by have:=ok.len;have:=p1.len;omega) B.nx A V sp p6.fr;simp[-aK];rw[H3];simp[-aK,r0];have hZ:=C7.ne p6 xo.r;have N:=p6.app P hZ;have FW:Move (aT av++X) ([(B.alloc (.D 1 [.P A])).2.nx]++X) (B.alloc (.D 1 [.P A])).2 U:=Move.of p6.fr P (λz hz _=>eJ _ hz) λy Z=>by
    rcases aP.1 Z with Z|Z
    ·simp at Z;right;simp;omega
    ·exact .inl (bw _ Z)
   have e7:=(e5.move (Move.k p5.fr K6)).move FW;have C8:∀q,q∈qs->jl ([(B.alloc (.D 1 [.P A])).2.nx]++X) U q.1 q.2:=λq hq=>(((sub q hq).move (Move.r p1.fr FO A3)).move (Move.k p5.fr K6)).move FW;have G2:(B.alloc (.D 1 [.P A])).2.nx=B.nx+1:=by simp
   have x5:=xo.x (O.trans A3);have HU:=A3.nx;have C9:cQ X U (.S (B.nx+1) (qs.length+1)) (qs++[(A,V)]):= .inr ⟨B.nx+1,sp,x5.nx om,by rw[<-G2];exact g7⟩;have C4:aR [r] h U:=((O.trans A3).trans (K6.x _)).trans' P (λz t HZ=>by have:=(hz z t).1;omega);have G3:=(P.old C IN (λt=>(hz C t).2.1 rfl)).trans ((K6.old C om).trans ((A3.old C lA (by simp[F])).trans gA));rw[G2]at e7 C8 H4;have C5:C<U.nx:=om;have CL:∀q,q∈qs++[(A,V)]->jl (aT (.S (B.nx+1) (qs.length+1))++X) U q.1 q.2:=by
    intro q hq;rcases aP.1 hq with hq|hq
    ·exact C8 q hq
    ·simp at hq;subst hq;exact e7
   have F0:lJ ((qs++[(A,V)]).map Prod.snd)<=max M V.cR:=by
    rw[fU,yF];simp;omega
   have F1:(qs++[(A,V)]).map Prod.snd=qs.map Prod.snd++[V]:=sp;have A4:∀z,z∈aT (.S (B.nx+1) (qs.length+1))->h.nx<=z/\z≠C/\z<U.nx:=by
    intro z t;simp[aT]at t;subst t;exact⟨om,om,om⟩
   rcases F2 with⟨R,rfl,A1⟩|⟨R,l3,hr,A1⟩
   ·refine cx _ N (by simp[R.bF]) ?_;simp[r0];refine iE N R λh8 p8 k8=>?_;have F3:Move (aT (.S (B.nx+1) (qs.length+1))++X) (aT (.S (B.nx+1) (qs.length+1))++X) U h8:=Move.of N.fr k8 (λz hz _=>by simp at hz;subst hz;exact bw _ xo.r) λ_ Z=> .inl Z;have Au:=k8.nx;simp;refine⟨A2.length,om,?_⟩;rw[hI];exact⟨qs++[(A,V)],.S (B.nx+1) (qs.length+1),_,_,FP,max M V.cR,false,rfl,sp,λ_=>⟨rfl,by rw[F1];exact A1⟩,om,IN,rfl,rfl,rfl,C9.move (Move.r N.fr (xo.x C4) k8),λq hq=>(CL q hq).move F3,F0,om,om,p8,λz t=>⟨(A4 z t).1,(A4 z t).2.1,aq (A4 z t).2.2 Au⟩,C4.trans k8,aq C5 Au,(k8.old C C5 (by simp[F])).trans G3,by simp[r0],by simp[r3],by simp[r5],sp,sp⟩
   ·refine fR N R λh8 p8 k8=>?_;have F3:Move (aT (.S (B.nx+1) (qs.length+1))++X) (aT (.S (B.nx+1) (qs.length+1))++X) U h8:=Move.of N.fr k8 (λz hz _=>by simp at hz;subst hz;exact bw _ xo.r) λ_ Z=> .inl Z;have Au:=k8.nx;have H5:=hr.len;simp[Tag.strict]at H5;simp;refine⟨A2.length,om,?_⟩;rw[hI];exact⟨qs++[(A,V)],.S (B.nx+1) (qs.length+1),_,_,FP,max M V.cR,true,rfl,λ_=>⟨l3,hr,by rw[F1];exact A1,om⟩,sp,om,IN,rfl,rfl,rfl,C9.move (Move.r N.fr (xo.x C4) k8),λq hq=>(CL q hq).move F3,F0,om,om,p8,λz t=>⟨(A4 z t).1,(A4 z t).2.1,aq (A4 z t).2.2 Au⟩,C4.trans k8,aq C5 Au,(k8.old C C5 (by simp[F])).trans G3,by simp[r0],by simp[r3],by simp[r5],sp,sp⟩
 |@paren b o c u _ _ ho he R=>
  refine pX _ p3 ?_;simp only[ai]at hn hd hQ;simp[ho.bF];refine vY ho (IH (.bin 0) b u _ _ (by simp[lO,qf];omega) he) R ok p3 x3 om om om λid J Hc h4 e4 l4 n4 p4 J=>?_;simp;exact hQ _ _ _ _ e4 om om p4 (D.trans J)
 |@qp b w o c _ hw ho R=>
  refine pX _ p3 ?_;simp only[ai]at hn hd hQ;simp[hw.bF];refine fR p3 hw λh4 p4 J=>?_;simp;refine iE p4 ho λB p5 k5=>?_;simp;refine iE p5 R λh6 p6 k6=>?_;have K:=(J.trans k5).trans k6;have g6:=(K.old C lA (by simp[F])).trans gA;simp[g6];subst S;refine qc (.qp w.at) _ [] p6 (x3.x K) (.inl ⟨rfl,rfl⟩) rfl sp (by simp<;>omega) sp om λC1 U e7 N P=>?_;simp;exact hQ _ _ _ _ e7 (by simp<;>omega) om N ((D.trans K).trans P)
 |@size b w o c u bQ _ t0 H6 hw ho ht ha R=>
  have lT:=ht.jx;have H7:=ha.jx;refine pX _ p3 ?_;simp only[ai]at hn hd hQ H7;simp[hw.bF];refine cx _ p3 (by simp[hw.bF]) ?_;simp;refine fR p3 hw λh4 p4 J=>?_;simp;refine iE p4 ho λB p5 k5=>?_;simp;refine BR ok ht p5 λk' h6 I0 p6 k6=>?_;simp;refine yH ok ha om p6 λI1 U H8 N P=>?_;simp;refine iE N R λh8 p8 k8=>?_;have K:=(((J.trans k5).trans k6).trans P).trans k8;have g8:=(K.old C lA (by simp[F])).trans gA;simp[g8];subst S;refine qc (.size w.at H6) _ [] p8 (x3.x K) (.inl ⟨rfl,rfl⟩) rfl sp (by simp<;>omega) sp om λI2 h9 e9 p9 k9=>?_;simp;exact hQ _ _ _ _ e9 (by simp<;>omega) om p9 ((D.trans K).trans k9)
end
end
section
attribute[simp] dw.kd dw.pos dw.uT dw.uU dw.eO dw.Ho dw.list dw.cR rP mW
structure SD where
 kk:Int
 l:Int
 c:Int
 nm:List UInt8
 ty:List UInt8
 ev:AV
 tv:AV
 av:AV
 eo:Option Ex
 to:Option Ex
 ss:List (Nat×Sm)
def SD.obj(d:SD):dK:=(.C [.I d.kk,.I d.l,.I d.c,.str d.nm,.str d.ty,d.ev,d.tv,d.av,.I 0])
structure Mk(r:Nat)(X:List Nat)(h:ah)(iT cl:Nat)(d:SD)(H:ah):Prop where
 get:H.get iT=some d.obj
 lo:h.nx<=iT
 lt:iT<H.nx
 kx:aR [r] h H
 xo:zG r X h
 he:rL (aT d.av++iT::X) H d.ev d.eo
 ho:rL (aT d.av++iT::X) H d.tv d.to
 arr:cQ (iT::X) H d.av d.ss
 sub:∀q,q∈d.ss->tS (aT d.av++iT::X) H q.1 q.2
 z:∀z,z∈aT d.av->h.nx<=z/\z≠iT/\z≠cl/\z<H.nx
structure Cl(r:Nat)(h:ah)(iT cl:Nat)(H:ah):Prop where
 get:H.get cl=some (.C [.P r])
 lo:h.nx<=cl
 lt:cl<H.nx
 ne:cl≠iT
 nr:cl≠r
theorem Move.on{X:cB}{h:ah}{i:Nat}(o:dK)(hi:i∈X):Move X X h (h.set i o):=
 ⟨λj u e b=>⟨by rw[ah.aM,ay (by rintro rfl;exact b hi)];exact e,b⟩⟩
theorem Move.less{X Y:cB}{h:ah}(b:∀y,y∈Y->y∈X):Move X Y h h:=
 ⟨λj u e f=>⟨e,λg=>f (b j g)⟩⟩
theorem Move.comp{X Y Z:cB}{h h' b:ah}(m:Move X Y h h')(g:Move Y Z h' b):Move X Z h b:=
 ⟨λj u e f=>g.aH j u (m.aH j u e f).1 (m.aH j u e f).2⟩
theorem bP.put{h:ah}(f:bP h){i:Nat}(o:dK)(hi:i<h.nx):bP (h.set i o):=λj b=>by
 have b:h.nx<=j:=b;rw[ah.aM,ay om];exact f j b
section
variable{X:cB}{Q:Out->ah->Prop}{r a:Nat}{W:dh}{el ec:Int}{k:Nat}{ws:dh}{nd fn dp:Nat}{h H H':ah}{iT cl:Nat}{d:SD}
theorem gy.put(p:gy r a W el ec k ws nd fn dp h){i:Nat}(o:dK)(b:i≠r)(e:i≠a)(hi:i<h.nx):gy r a W el ec k ws nd fn dp (h.set i o):=
 ⟨by rw[ah.aM,ay (iV b)];exact p.obj,by rw[ah.aM,ay (iV e)];exact p.arr,p.drop,p.len,p.ne,p.rl,p.al,p.fr.put o hi⟩
theorem Mk.oz(m:Mk r X h iT cl d H):zG r (aT d.av++iT::X) H:=⟨bw _ (au _ m.xo.r),λy b=>by
 rcases aP.1 b with b|b
 ·exact(m.z y b).2.2.2
 ·rcases ak.1 b with rfl|b
  ·exact m.lt
  ·exact(m.xo.x m.kx).lt y b⟩
theorem Mk.nr(m:Mk r X h iT cl d H):iT≠r:=by have:=m.xo.lt r m.xo.r;have:=m.lo;omega
theorem Mk.mv(m:Mk r X h iT cl d H)(fr:bP H)(kx:aR [r] H H'):Move (aT d.av++iT::X) (aT d.av++iT::X) H H':=Move.r fr m.oz kx
theorem Mk.call(m:Mk r X h iT cl d H)(fr:bP H)(kx:aR [r] H H'):Mk r X h iT cl d H':=by
 have mv:=m.mv fr kx;have e:Move (iT::X) (iT::X) H H':=Move.r fr ⟨au _ m.xo.r,λy f=>m.oz.lt y (bw _ f)⟩ kx;have nx:=kx.nx;exact⟨(kx.old iT m.lt (by simp[m.nr])).trans m.get,m.lo,aq m.lt nx,m.kx.trans kx,m.xo,m.he.move mv,m.ho.move mv,m.arr.move e,λq g=>(m.sub q g).move mv,λz b=>⟨(m.z z b).1,(m.z z b).2.1,(m.z z b).2.2.1,aq (m.z z b).2.2.2 nx⟩⟩
theorem Mk.aH(m:Mk r X h iT cl d H)(fr:bP H)(b:aJ H H'):Mk r X h iT cl d H':=m.call fr (b.x _)
theorem Mk.put(m:Mk r X h iT cl d H)(p:gy r a W el ec k ws nd fn dp H)(al:a<h.nx)(d':SD)(b:d'.av=d.av)(e:d'.ss=d.ss)(he:rL (aT d.av++iT::X) H d'.ev d'.eo)(ho:rL (aT d.av++iT::X) H d'.tv d'.to):
 ∃H',H.set iT d'.obj=H'/\Mk r X h iT cl d' H'/\gy r a W el ec k ws nd fn dp H'/\(Cl r h iT cl H->Cl r h iT cl H'):=by
 have mv:∀o,Move (aT d.av++iT::X) (aT d.av++iT::X) H (H.set iT o):=λo=>Move.on o (bw _ (bc ..));have f:∀o,Move (iT::X) (iT::X) H (H.set iT o):=λo=>Move.on o (bc ..);exact⟨_,rfl,⟨by rw[ah.aM,aY rfl],m.lo,m.lt,aR.set _ m.kx (.inr m.lo) m.lt,m.xo,by rw[b];exact he.move (mv _),by rw[b];exact ho.move (mv _),by rw[b,e];exact m.arr.move (f _),λq g=>by rw[b];rw[e]at g;exact(m.sub q g).move (mv _),by rw[b];exact m.z⟩,p.put _ m.nr (by have:=m.lo;omega) m.lt,λcc=>⟨by rw[ah.aM,ay cc.ne];exact cc.get,cc.lo,cc.lt,cc.ne,cc.nr⟩⟩
theorem Mk.Uh(m:Mk r X h iT cl d H):cQ X H d.av d.ss:=m.arr.move (Move.less λy b=>au _ b)
theorem Mk.Rp(m:Mk r X h iT cl d H):∀q,q∈d.ss->tS X H q.1 q.2:=λq b=>(m.sub q b).move (Move.less λy e=>bw _ (au _ e))
theorem Mk.U3(m:Mk r X h iT cl d H):rL X H d.ev d.eo:=m.he.move (Move.less λy b=>bw _ (au _ b))
theorem Mk.LI(m:Mk r X h iT cl d H):rL X H d.tv d.to:=m.ho.move (Move.less λy b=>bw _ (au _ b))
theorem Cl.call(cc:Cl r h iT cl H)(kx:aR [r] H H'):Cl r h iT cl H':=⟨(kx.old cl cc.lt (by simp[cc.nr])).trans cc.get,cc.lo,aq cc.lt kx.nx,cc.ne,cc.nr⟩
theorem Cl.aH(cc:Cl r h iT cl H)(kx:aJ H H'):Cl r h iT cl H':=cc.call (kx.x _)
theorem Cl.put(cc:Cl r h iT cl H)(o:dK):Cl r h iT cl (H.set iT o):=⟨by rw[ah.aM,ay cc.ne];exact cc.get,cc.lo,cc.lt,cc.ne,cc.nr⟩
theorem Mk.new{b:ah}(o:dK)(kx:aR [r] h b)(xo:zG r X h)(kk l c:Int)(nm ty:bu):Mk r X h b.nx cl ⟨kk,l,c,nm,ty,.N,.N,.Z,none,none,[]⟩ ((b.alloc o).2.set b.nx (SD.obj ⟨kk,l,c,nm,ty,.N,.N,.Z,none,none,[]⟩)):=
 ⟨by rw[ah.aM,aY rfl],kx.nx,sp,by have:=kx.nx;exact kX,xo,.inl ⟨rfl,rfl⟩,.inl ⟨rfl,rfl⟩,.inl ⟨rfl,rfl⟩,sp,by simp[aT]⟩
theorem Mk.end(m:Mk r X h iT cl d H)(p:gy r a W el ec k ws nd fn dp H)(s:Sm)(e:d.kk=s.kd/\(d.l,d.c)=s.pos/\d.nm=s.uT/\d.ty=s.uU/\d.eo=s.eO/\d.to=s.Ho/\d.ss.map Prod.snd=s.list)(b:s.cR<=200)(la:d.ss.length<=300)(f:nd+1<=20000)
 (g:∀id h',tS X h' id s->gy r a W el ec k ws (nd+1) fn dp h'->aR [r] H h'->Q (.ret (.P id)) h'):
 ba env 94 [.P r,.agg [.I d.kk,.I d.l,.I d.c,.str d.nm,.str d.ty,d.ev,d.tv,d.av,.I 0]] H Q:=by
 obtain⟨a1,a2,a3,a4,a5,i,j⟩:=e;have e1:d.l=s.pos.1:=nt Prod.fst a2;have e2:d.c=s.pos.2:=nt Prod.snd a2;rw[a1,e1,e2,a3,a4];exact Ro s d.ev d.tv d.av d.ss p (m.xo.x m.kx) (a5▸m.U3) (i▸m.LI) m.Uh j m.Rp b la f g
theorem Rr{b:Nat}{bH:dh}{v:Sm}(IH:Ek (lO .dec ws))(J:G .dec b ws bH (.s v)):Spec .dec b ws bH (.s v):=by
 intro r a W el ec k nd fn dp h X Q ok p xo w hd hb hQ;refine wb fn92 rfl ?_;have t:=J.cR;simp only[Tag.cap,Re.cR]at t;obtain⟨n,g,ty,hT,hk,i⟩:∃n g ty,vj ws (n::g) ty/\n.kind=1/\((∃c ty2,bF g [61]=false/\Eb g (c::bH) ty ty2/\eX c [59]/\v= .decl n.at ty2 n.text none)\/(∃q bQ c y e,g=q::bQ/\eX q [61]/\b=y+1/\G (.bin 0) y bQ (c::bH) (.e e)/\eX c [59]/\v= .decl n.at ty n.text (some e))):=by
  cases J with
  |zu ht w K A i=>exact⟨_,_,_,ht,w,.inl ⟨_,_,K,A,i,rfl⟩⟩
  |AB ht w N he i=>exact⟨_,_,_,ht,w,.inr ⟨_,_,_,_,_,rfl,N,rfl,he,i,rfl⟩⟩
 clear J;have lT:=hT.jx;have Au:ws.length<=250:=by have:=ok.len;have:=p.len;omega
 simp only[ai]at lT;simp[f92];refine BR ok hT p λk1 o C1 p1 O=>?_;simp;have m2:=Mk.new (cl:=0) (.C [.I 0,.I 0,.I 0,.str [],.str [],.N,.N,.Z,.I 0]) O xo 3 0 0 [] ty;simp only[SD.obj]at m2;have B:=p1.aH (show aJ o ((o.alloc (.C [.I 0,.I 0,.I 0,.str [],.str [],.N,.N,.Z,.I 0])).2.set o.nx (.C [.I 3,.I 0,.I 0,.str [],.str ty,.N,.N,.Z,.I 0]))from kT);generalize (o.alloc (.C [.I 0,.I 0,.I 0,.str [],.str [],.N,.N,.Z,.I 0])).2.set o.nx (.C [.I 3,.I 0,.I 0,.str [],.str ty,.N,.N,.Z,.I 0])=h2 at*;generalize o.nx=iT at*;have al:=p.al;refine zF B λh3 k3=>?_;have m3:=m2.aH B.fr k3;have p3:=B.aH k3;have g3:=m3.get;simp only[SD.obj]at g3;simp[g3,De];clear m2 k3 B;obtain⟨h4,P,m4,p4,-⟩:=m3.put p3 al ⟨3,n.l,n.c,[],ty,.N,.N,.Z,none,none,[]⟩ rfl rfl (.inl ⟨rfl,rfl⟩) (.inl ⟨rfl,rfl⟩);simp only[SD.obj]at P;rw[P];clear P g3 m3 p3;refine oh p4 hk λh5 p5 k5=>?_;have m5:=m4.call p4.fr k5;have g5:=m5.get;simp only[SD.obj]at g5;simp[g5];obtain⟨h6,R,m6,u,-⟩:=m5.put p5 al ⟨3,n.l,n.c,n.text,ty,.N,.N,.Z,none,none,[]⟩ rfl rfl (.inl ⟨rfl,rfl⟩) (.inl ⟨rfl,rfl⟩);simp only[SD.obj]at R;rw[R];clear R g5 m5 p5 k5 m4 p4;rcases i with⟨c,ty2,K,A,i,rfl⟩|⟨q,bQ,c,y,S,rfl,N,rfl,he,i,rfl⟩
 ·refine cx _ u K ?_;have g6:=m6.get;simp only[SD.obj]at g6;simp[g6];have la:=A.jx;simp only[ai]at la;refine yH ok A om u λk7 h7 A5 C U=>?_;have m7:=m6.call u.fr U;have g7:=m7.get;simp only[SD.obj]at g7;simp[g7];obtain⟨h8,D,m8,F,-⟩:=m7.put C al ⟨3,n.l,n.c,n.text,ty2,.N,.N,.Z,none,none,[]⟩ rfl rfl (.inl ⟨rfl,rfl⟩) (.inl ⟨rfl,rfl⟩);simp only[SD.obj]at D;rw[D];refine iE F i λh9 I k9=>?_;have m9:=m8.call F.fr k9;have g9:=m9.get;simp only[SD.obj]at g9;simp[g9];refine m9.end I (.decl n.at ty2 n.text none) ⟨rfl,rfl,rfl,rfl,rfl,rfl,rfl⟩ om sp om λid V Z j m=>?_;simp;exact hQ _ _ _ _ Z om om j (m9.kx.trans m)
 ·refine fR u N λh7 C k7=>?_;have m7:=m6.call u.fr k7;have lh:=he.len;simp only[ai,Tag.strict]at lh lT;simp;refine IH (.bin 0) y bQ _ _ (by simp[lO,qf];omega) he r a W el ec _ nd fn dp h7 (iT::X) _ ok C m7.oz om om om λid k8 C2 h8 D l8 n8 F A1=>?_;have m8:=m7.call C.fr A1;have g8:=m8.get;simp only[SD.obj]at g8;simp only[ai]at l8 n8;simp[g8];obtain⟨h9,e9,m9,I,-⟩:=m8.put F al ⟨3,n.l,n.c,n.text,ty,.P id,.N,.Z,some S,none,[]⟩ rfl rfl (.inr ⟨id,S,rfl,rfl,D⟩) (.inl ⟨rfl,rfl⟩);simp only[SD.obj]at e9;rw[e9];refine iE I i λV j m=>?_;have m10:=m9.call I.fr m;have g10:=m10.get;simp only[SD.obj]at g10;simp[g10];refine m10.end j (.decl n.at ty n.text (some S)) ⟨rfl,rfl,rfl,rfl,rfl,rfl,rfl⟩ om sp om λid C3 A2 A3 A4=>?_;simp;exact hQ _ _ _ _ A2 om om A3 (m10.kx.trans A4)
end
end
end Go.Proofs.YtaekaifihehgdaaGreatDoor
