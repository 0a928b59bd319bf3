/- Lemmas for CheckTurns; each states its own conditions. -/
import Derived.RecoverIn
import Derived.RangeFuncIn
import Derived.OrdersIn
import Derived.Orders
import Derived.Laws.AppendOwn
import Derived.Laws.CopyRow
import Derived.Laws.StructEq
import Derived.Laws.Rows
import Derived.Laws.Build
import Derived.Deep.AppendSrc
import Derived.Deep.Upon
import Derived.Laws.Externs
set_option maxRecDepth 100000
set_option maxHeartbeats 0
set_option linter.unusedSectionVars false
set_option linter.unusedSimpArgs false
set_option linter.unusedVariables false
namespace Go.Am
abbrev ai:=@List.length_cons
abbrev aj:=@List.getElem?_eq_getElem
abbrev ak:=@List.mem_cons
abbrev ao:=@Nat.le_refl
abbrev aq:=@Nat.lt_of_lt_of_le
abbrev au:=@List.mem_cons_of_mem
abbrev ay:=@if_neg
abbrev az:=@beq_eq_false_iff_ne
abbrev aI:=@List.cons_append
abbrev aO:=@List.length_append
abbrev aP:=@List.mem_append
abbrev aQ:=@List.mem_singleton
abbrev aS:=@List.suffix_refl
abbrev aU:=@List.append_assoc
abbrev aV:=@List.getElem?_eq_some_iff
abbrev aW:=@List.length_nil
abbrev aX:=@List.nil_append
abbrev aY:=@if_pos
abbrev bc:=@List.mem_cons_self
abbrev bg:=@List.mem_of_getElem?
abbrev bh:=@Nat.le_trans
abbrev bj:=@Option.some.injEq
abbrev bk:=@List.getElem_mem
abbrev bm:=@List.not_mem_nil
abbrev bs:=@List.drop_eq_getElem_cons
abbrev bt:=@List.getElem?_map
abbrev bw:=@List.mem_append_right
abbrev bI:=@Array.getElem?_eq_some_iff
abbrev bJ:=@Nat.zero_le
abbrev bK:=@List.length_drop
abbrev bL:=@List.map_cons
abbrev bR:=@List.length_take
abbrev bZ:=@Nat.eq_or_lt_of_le
abbrev cf:=@Bool.and_eq_true
abbrev cn:=@List.take_of_length_le
abbrev cp:=@Nat.le_succ
abbrev cw:=@List.getElem?_cons_zero
abbrev cy:=@List.take_add_one
abbrev cF:=@List.take_length
abbrev cI:=@List.eq_nil_of_length_eq_zero
abbrev cL:=@List.all_eq_true
abbrev cS:=@List.getElem?_append_left
abbrev cT:=@or_false
abbrev cY:=@UInt8.toNat.inj
abbrev da:=@List.cons.injEq
abbrev du:=@List.getElem?_append_right
abbrev dx:=@Bool.eq_false_iff
abbrev dy:=@List.flatMap_cons
abbrev dz:=@Prod.mk.injEq
abbrev dH:=@Array.getElem?_setIfInBounds_ne
abbrev dJ:=@Nat.lt_or_ge
abbrev dN:=@Bool.false_eq_true
abbrev dO:=@List.isPrefixOf_iff_prefix
abbrev dQ:=@List.contains_iff_mem
abbrev dV:=@List.drop_length
abbrev dZ:=@Bool.true_and
abbrev ej:=@List.getElem?_eq_none
abbrev et:=@Nat.le_of_ble_eq_true
abbrev ez:=@Int.tdiv_eq_ediv_of_nonneg
abbrev eI:=@List.getElem?_append
abbrev eJ:=@List.mem_append_left
abbrev eM:=@List.getElem?_drop
abbrev eY:=@if_false
abbrev fh:=@List.nodup_cons
abbrev fi:=@List.append_nil
abbrev fq:=@Nat.add_assoc
abbrev fu:=@Nat.le_max_right
abbrev fw:=@List.any_eq_true
abbrev fL:=@Nat.zero_add
abbrev fT:=@Nat.le_max_left
abbrev fU:=@List.map_append
abbrev gh:=@List.getElem_of_mem
abbrev gL:=@Array.getElem?_modify
abbrev gR:=@Bool.false_and
abbrev ig:=@List.filter_append
abbrev iw:=@Nat.mul_le_mul_right
abbrev iy:=@Bool.or_eq_false_iff
abbrev iz:=@List.filter_cons
abbrev iJ:=@Array.ext'
abbrev iK:=@List.flatten_cons
abbrev iL:=@List.map_nil
abbrev iM:=@List.drop_eq_nil_of_le
abbrev iS:=@not_or
abbrev iV:=@Ne.symm
abbrev ja:=@List.getElem?_take
abbrev jb:=@List.length_modify
abbrev jo:=@Function.comp_def
abbrev jq:=@List.filter_cons_of_neg
abbrev jt:=@List.foldl_cons
abbrev ju:=@beq_iff_eq
abbrev jB:=@List.flatMap_append
abbrev jU:=@Bool.not_false
abbrev j6:=@Array.getElem?_eq_getElem
abbrev kh:=@if_true
abbrev ki:=@List.reverse_cons
abbrev kM:=@Bool.false_or
abbrev lP:=@List.mem_flatMap
abbrev mr:=@Nat.add_zero
abbrev mu:=@Array.getElem?_eq_none
abbrev np:=@Option.map_some
abbrev ns:=@List.mem_filter
abbrev nt:=@congrArg
abbrev pI:=@List.mem_map
abbrev pJ:=@Nat.le_add_right
abbrev pL:=@Classical.byContradiction
abbrev qi:=@List.takeWhile_cons
abbrev qE:=@and_true
abbrev qQ:=@Bool.or_eq_true
abbrev qR:=@Nat.min_eq_left
abbrev qS:=@List.filter_nil
abbrev rK:=@List.getElem?_cons_succ
abbrev sY:=@Nat.mul_le_mul
abbrev tc:=@decide_eq_true_eq
abbrev td:=@not_false_eq_true
abbrev tf:=@Bool.true_or
abbrev uc:=@Nat.eq_of_beq_eq_true
abbrev ue:=@List.length_singleton
abbrev uK:=@List.eq_nil_iff_forall_not_mem
abbrev uL:=@Nat.blt_eq
abbrev vg:=@List.mem_of_mem_drop
abbrev vi:=@List.take_append_of_le_length
abbrev wk:=@List.mem_zipIdx_iff_getElem?
abbrev wQ:=@List.mem_map_of_mem
abbrev wR:=@List.getElem?_range
abbrev w8:=@Array.getD_eq_getD_getElem?
abbrev xT:=@Array.toList_range
abbrev xU:=@Array.getElem?_append_left
abbrev xV:=@List.getD_eq_getElem?_getD
abbrev xW:=@cond_false
theorem om {p:Prop}(h:p:=by omega):p:=h
theorem sp {p:Prop}(h:p:=by simp):p:=h
theorem dc {p:Prop}(h:p:=by decide):p:=h
theorem IN {p:Prop}(h:p:=by simp;omega):p:=h
theorem U7 {p q:Prop}(a:p)(h:p->q:=by intro a;simpa using a):q:=h a
abbrev bu:=List UInt8
abbrev cB:=List Nat
inductive T(α:Type) where
 |nil
 |node (v:Option α) (l r:T α)
noncomputable section
namespace T
variable{α:Type}
def get(t:T α):Nat->Option α:=
 T.rec (motive:=λ_=>Nat->Option α) (λ_=>none)
  (λv _ _ gl gr n=>Nat.rec (motive:=λ_=>Option α) v (λm _=>Bool.rec (motive:=λ_=>Nat->Option α) gr gl (Nat.beq (Nat.mod m 2) 0) (Nat.div m 2)) n) t
def mk(a:α):Nat->Nat->T α
 |0,_=>nil
 |f+1,n=>match n with
  |0=>node (some a) nil nil
  |m+1=>bif Nat.beq (m%2) 0 then node none (mk a f (m/2)) nil else node none nil (mk a f (m/2))
def set(a:α)(t:T α):Nat->T α:=
 T.rec (motive:=λ_=>Nat->T α) (λn=>mk a (n+1) n)
  (λv l r sl sr n=>Nat.rec (motive:=λ_=>T α) (node (some a) l r) (λm _=>Bool.rec (motive:=λ_=>T α) (node v l (sr (Nat.div m 2))) (node v (sl (Nat.div m 2)) r) (Nat.beq (Nat.mod m 2) 0)) n) t
def del:T α->Nat->T α
 |nil,_=>nil
 |node v l r,n=>match n with
  |0=>node none l r
  |m+1=>bif Nat.beq (m%2) 0 then node v (del l (m/2)) r else node v l (del r (m/2))
end T
inductive AV where
 |bool (b:Bool)
 |int (k:IntKind) (n:Int)
 |str (s:List UInt8)
 |ptr (a:Option (Nat×Nat))
 |slice (a:Option (Nat×Nat)) (len:Nat)
 |map (r:Option Nat)
 |func (f:FuncId) (lQ:List AV)
 |Cx (l:Nat)
 |nilFunc
 |iface (t:TypeId) (v:AV)
 |nilIface
 |agg (cs:List AV)
 |iO (vs:List AV)
 deriving Inhabited
def AV.scalar:AV->Bool
 | .agg _| .iO _=>false
 |_=>true
def AV.cells:AV->List AV
 | .agg cs=>cs
 |v=>[v]
def Ds:Option (Nat×Nat)->Option (Nat×Nat)->Bool
 |none,none=>true
 |some a,some b=>Nat.beq a.1 b.1&&Nat.beq a.2 b.2
 |_,_=>false
def GX:Option Nat->Option Nat->Bool
 |none,none=>true
 |some a,some b=>Nat.beq a b
 |_,_=>false
mutual
def AV.beq:AV->AV->Bool
 | .bool a,.bool b=>a==b
 | .int k a,.int e b=>k==e&&a==b
 | .str a,.str b=>a==b
 | .ptr a,.ptr b=>Ds a b
 | .slice a n,.slice b m=>Ds a b&&Nat.beq n m
 | .map a,.map b=>GX a b
 | .func f cs,.func g ds=>Nat.beq f g&&AV.GY cs ds
 | .Cx a,.Cx b=>Nat.beq a b
 | .nilFunc,.nilFunc=>true
 | .iface t v,.iface u w=>Nat.beq t u&&AV.beq v w
 | .nilIface,.nilIface=>true
 | .agg cs,.agg ds=>AV.GY cs ds
 | .iO cs,.iO ds=>AV.GY cs ds
 |_,_=>false
def AV.GY:List AV->List AV->Bool
 |[],[]=>true
 |a::r,b::s=>AV.beq a b&&AV.GY r s
 |_,_=>false
end
theorem A7(a b:Option (Nat×Nat)):Ds a b=true↔a=b:=by
 rcases a with _|⟨a1,a2⟩<;>rcases b with _|⟨e,f⟩<;>simp[Ds]
theorem GZ(a b:Option Nat):GX a b=true↔a=b:=by
 cases a<;>cases b<;>simp[GX]
mutual
theorem AV.beq_iff:∀(a b:AV),AV.beq a b=true↔a=b
 | .bool a,b=>by cases b<;>simp[AV.beq]
 | .int k a,b=>by cases b<;>simp[AV.beq]
 | .str a,b=>by cases b<;>simp[AV.beq]
 | .ptr a,b=>by cases b<;>simp[AV.beq,A7]
 | .slice a n,b=>by cases b<;>simp[AV.beq,A7]
 | .map a,b=>by cases b<;>simp[AV.beq,GZ]
 | .func f cs,b=>by cases b<;>simp[AV.beq,AV.x7 cs]
 | .Cx a,b=>by cases b<;>simp[AV.beq]
 | .nilFunc,b=>by cases b<;>simp[AV.beq]
 | .iface t v,b=>by cases b<;>simp[AV.beq,AV.beq_iff v]
 | .nilIface,b=>by cases b<;>simp[AV.beq]
 | .agg cs,b=>by cases b<;>simp[AV.beq,AV.x7 cs]
 | .iO cs,b=>by cases b<;>simp[AV.beq,AV.x7 cs]
theorem AV.x7:∀(a b:List AV),AV.GY a b=true↔a=b
 |[],b=>by cases b<;>simp[AV.GY]
 |x::r,b=>by cases b<;>simp[AV.GY,AV.beq_iff x,AV.x7 r]
end
inductive dK where
 |cells (rw:Bool) (es:Nat) (cs:List AV)
 |map (gM:List (AV×AV))
 |loop (state:LoopState) (pending:Option Code) (n:Nat) (rg:T AV) (params:Array Tmp) (assign body:Code)
 |qT
 |dead
abbrev AV.I(n:Int):AV:= .int .i64 n
abbrev AV.P(i:Nat):AV:= .ptr (some (i,0))
abbrev AV.S(i n:Nat):AV:= .slice (some (i,0)) n
abbrev AV.Z:AV:= .slice none 0
abbrev AV.N:AV:= .ptr none
abbrev dK.C(l:List AV):dK:= .cells true 0 l
abbrev dK.D(n:Nat)(l:List AV):dK:= .cells true n l
structure ah where
 nx:Nat
 ob:T dK
def ah.get(h:ah)(i:Nat):Option dK:=h.ob.get i
def ah.set(h:ah)(i:Nat)(o:dK):ah:={h with ob:=h.ob.set o i}
def ah.alloc(h:ah)(o:dK):Nat×ah:=(h.nx,{nx:=h.nx+1,ob:=h.ob.set o h.nx})
def ah.loadCells(h:ah)(i off n:Nat):Option (List AV):=
 match h.get i with
 |some (.cells _ _ cs)=>if off+n<=cs.length then some ((cs.drop off).take n)else none
 |_=>none
def ah.xc(h:ah)(i off:Nat):Option AV:=
 match h.get i with
 |some (.cells _ _ cs)=>cs[off]?
 |_=>none
def ah.storeCells(h:ah)(i off:Nat)(vs:List AV):Option ah:=
 match h.get i with
 |some (.cells true es cs)=>
  if off+vs.length<=cs.length/\vs.all AV.scalar then some (h.set i (.cells true es (cs.take off++vs++cs.drop (off+vs.length))))else none
 |_=>none
inductive Out where
 |ret (v:AV)
 |jz (v:AV)
structure Env where
 P:Program
 fn:FuncId->Option Func
 nv:TypeId->Option TypeDesc
 siz:TypeId->Option Nat
 byt:TypeId->Option Nat
 zer:TypeId->Option (List AV)
 flat:TypeId->Option (List (Nat×Nat))
 ext:FuncId->Option (List AV->Option AV)
 ed:FuncId->Option (List AV->ah->Option (Out×ah))
def Env.isAgg(E:Env)(t:TypeId):Option Bool:=
 match E.nv t with
 |some (.struct _)|some (.array _ _)=>some true
 |some _=>some false
 |none=>none
def iF:Value->Option AV
 | .bool b=>some (.bool b)
 | .int k n=>some (.int k n)
 | .string s=>some (.str s.data.toList)
 | .pointer none=>some (.ptr none)
 | .slice none 0 0=>some (.slice none 0)
 | .map none=>some (.map none)
 | .nilFunc=>some .nilFunc
 | .nilIface=>some .nilIface
 |_=>none
def xd:List Value->Option (List AV)
 |[]=>some []
 |v::r=>match iF v,xd r with
  |some a,some b=>some (a::b)
  |_,_=>none
def Nz:Value->Option AV
 | .agg cs=>(xd cs.toList).map .agg
 | .iface t v=>(iF v).map (.iface t)
 |v=>iF v
def lK(rg:T AV):Operand->Option AV
 | .tmp t=>rg.get t
 | .const v=>Nz v
 | .global _=>none
 | .func f=>some (.func f [])
def qU(rg:T AV):List Operand->Option (List AV)
 |[]=>some []
 |x::r=>match lK rg x,qU rg r with
  |some a,some b=>some (a::b)
  |_,_=>none
def fO(rg:T AV)(d:Option Tmp)(v:AV):T AV:=
 match d with
 |some d=>rg.set v d
 |none=>rg
def cm(s:Sem Value):Option AV:=
 match s with
 | .pure v=>iF v
 |_=>none
def Dt(k:Nat)(x y:AV):Option Bool:=
 match k,x,y with
 |0,.bool a,.bool b=>some (a==b)
 |1,.str a,.str b=>some (a==b)
 |2,.int k a,.int e b=>if k=e then some (a==b)else none
 |_,_,_=>none
def A8(xs a:List AV):List (Nat×Nat)->Option Bool
 |[]=>some true
 |(o,k)::r=>match xs[o]?,a[o]? with
  |some x,some y=>match Dt k x y with
   |some true=>A8 xs a r
   |some false=>some false
   |none=>none
  |_,_=>none
def uM(h:ah)(p q:Nat×Nat):Option Bool:=
 match h.get p.1,h.get q.1 with
 |some (.cells r _ _),some (.cells a _ _)=>if p.1=q.1 then some (p.2==q.2)else if r&&a then some false else none
 |_,_=>none
def th:Operand->Bool
 | .const _=>true
 |_=>false
def ER(E:Env)(h:ah)(t:TypeId)(c:Bool)(x y:AV):Option Bool:=
 match x,y with
 | .bool a,.bool b=>match E.nv t with|some .bool=>some (a==b)|_=>none
 | .ptr a,.ptr b=>match E.nv t with
  |some (.pointer e)=>match a,b with
   |none,none=>some true
   |none,some _=>some false
   |some _,none=>some false
   |some p,some q=>match E.siz e with
    |some (_+1)=>uM h p q
    |_=>none
  |_=>none
 | .nilIface,.nilIface=>match E.nv t with|some (.interface _)=>if c then some true else none|_=>none
 | .nilIface,.iface _ _=>match E.nv t with|some (.interface _)=>some false|_=>none
 | .iface _ _,.nilIface=>match E.nv t with|some (.interface _)=>some false|_=>none
 | .slice a _,.slice none _=>match E.nv t with|some (.slice _)=>some a.isNone|_=>none
 | .map a,.map none=>match E.nv t with|some (.map _ _)=>some a.isNone|_=>none
 | .agg xs,.agg f=>match E.flat t with
  |some At=>A8 xs f At
  |none=>none
 |_,_=>none
def ES(E:Env)(h:ah)(op:BinOp)(t:TypeId)(c:Bool)(x y:AV):Option AV:=
 match x,y with
 | .int k a,.int e b=>cm (Go.binOp op t (.int k a) (.int e b))
 | .str a,.str b=>match op with
  | .add=>if a.length+b.length<=4611686018427387904 then some (.str (a++b))else none
  | .eql=>some (.bool (a==b))
  | .neq=>some (.bool (!(a==b)))
  | .lss=>some (.bool (Op.bytesLess a b))
  | .leq=>some (.bool (Op.bytesLess a b||a==b))
  | .gtr=>some (.bool (!(Op.bytesLess a b||a==b)))
  | .geq=>some (.bool (!Op.bytesLess a b))
  |_=>none
 |x,y=>match op with
  | .eql=>(ER E h t c x y).map .bool
  | .neq=>(ER E h t c x y).map λb=> .bool (!b)
  |_=>none
def TK(op:UnOp)(x:AV):Option AV:=
 match x with
 | .int k n=>cm (Op.unary op (.int k n))
 | .bool b=>cm (Op.unary op (.bool b))
 |_=>none
def x8(place:Nat->Option (Nat×Nat))(cells:List AV):List (Nat×AV)->Option (List AV)
 |[]=>some cells
 |(i,v)::rest=>match place i with
  |none=>none
  |some (off,size)=>
   if v.cells.length=size/\off+size<=cells.length/\v.cells.all AV.scalar then
    x8 place (cells.take off++v.cells++cells.drop (off+size)) rest
   else none
def oS(rg:T AV):List (Nat×Operand)->Option (List (Nat×AV))
 |[]=>some []
 |(i,x)::r=>match lK rg x,oS rg r with
  |some a,some b=>some ((i,a)::b)
  |_,_=>none
def rR(E:Env):List Field->Option (List (Nat×Nat))
 |[]=>some []
 |f::r=>match E.siz f.type,rR E r with
  |some s,some l=>some ((f.offset,s)::l)
  |_,_=>none
def Cy(E:Env)(t:TypeId)(cs:List AV)(off:Nat):Option AV:=
 match E.isAgg t,E.siz t with
 |some true,some n=>if off+n<=cs.length then some (.agg ((cs.drop off).take n))else none
 |some false,some _=>cs[off]?
 |_,_=>none
def A9(v:AV)(y:Nat):Option Nat:=
 match v with
 | .int _ i=>if 0<=i/\i<=y then some i.toNat else none
 |_=>none
def kO(rg:T AV)(len cap:Nat)(low high:Option Operand):Option (Nat×Nat):=
 match(match high with
  |none=>some len
  |some x=>match lK rg x with
   |some v=>A9 v cap
   |none=>none)with
 |none=>none
 |some hi=>match low with
  |none=>some (0,hi)
  |some x=>match lK rg x with
   |some v=>match A9 v hi with
    |some l=>some (l,hi)
    |none=>none
   |none=>none
def mw(h:ah):AV->AV->Option Bool
 | .int k a,.int e b=>if k=e then some (a==b)else none
 | .str a,.str b=>some (a==b)
 | .bool a,.bool b=>some (a==b)
 | .ptr (some p),.ptr (some q)=>uM h p q
 |_,_=>none
def eD(h:ah)(k:AV):List (AV×AV)->Nat->Option (Option (Nat×AV))
 |[],_=>some none
 |e::es,i=>match mw h k e.1 with
  |some true=>some (some (i,e.2))
  |some false=>eD h k es (i+1)
  |none=>none
def ah.gM(h:ah):Option Nat->Option (List (AV×AV))
 |none=>some []
 |some r=>match h.get r with
  |some (.map es)=>some es
  |_=>none
def Ba(E:Env)(t:TypeId)(k:AV):Bool:=
 match E.nv t,k with
 |some (.int q),.int a _=>q==a
 |some .string,.str _=>true
 |some .bool,.bool _=>true
 |some (.pointer e),.ptr (some _)=>match E.siz e with|some (_+1)=>true|_=>false
 |_,_=>false
def roomy:Nat:=1073741824
def NA(h:ah)(es:Nat):AV->Option (Nat×List AV)
 | .slice none 0=>some (0,[])
 | .slice (some (i,off)) n=>match h.loadCells i off (n*es)with
  |some cs=>if cs.all AV.scalar then some (n,cs)else none
  |none=>none
 | .str l=>if es=1 then some (l.length,l.map λb=> .int .u8 b.toNat)else none
 |_=>none
def aK(E:Env)(h:ah)(st:TypeId)(s x:AV):Option (AV×ah):=
 match E.nv st with
 |some (.slice e)=>match E.siz e,E.byt e,E.zer e with
  |some (es+1),some a,some f=>
   if f.length≠es+1 then none else
   match NA h (es+1) x with
   |none=>none
   |some (n,new)=>
    match s with
    | .slice none 0=>
     if roomy<n*(a+1)then none else
     if n=0 then some (.slice none 0,h)else
     some (.slice (some (h.nx,0)) n,(h.alloc (.cells true (es+1) new)).2)
    | .slice (some (i,off)) len=>
     if roomy<(len+n)*(a+1)then none else
     match h.get i with
     |some (.cells true b cs)=>
      if b≠es+1 then none
      else if n=0 then some (.slice (some (i,off)) len,h)
      else if off+(len+n)*(es+1)<=cs.length then
       match h.storeCells i (off+len*(es+1)) new with
       |some h'=>some (.slice (some (i,off)) (len+n),h')
       |none=>none
      else if off+len*(es+1)<=cs.length then
       some (.slice (some (h.nx,0)) (len+n),((h.set i .dead).alloc (.cells true (es+1) ((cs.drop off).take (len*(es+1))++new))).2)
      else none
     |_=>none
    |_=>none
  |_,_,_=>none
 |_=>none
def Du(E:Env)(h:ah)(t:TypeId)(x:AV):Option AV:=
 match E.nv t,x with
 |some .string,.str s=>some (.int .i64 s.length)
 |some (.array n _),_=>some (.int .i64 n)
 |some (.slice _),.slice _ n=>some (.int .i64 n)
 |some (.map _ _),.map none=>some (.int .i64 0)
 |some (.map _ _),.map (some r)=>match h.get r with
  |some (.map es)=>some (.int .i64 es.length)
  |_=>none
 |_,_=>none
inductive iB where
 |val (v:AV)
 |skip
 |enter (f:FuncId) (args:List AV)
 |yield (l:Nat) (args:List AV)
 |defer (f:FuncId) (args:List AV)
 |recover
 |panic (v:AV)
def ET(E:Env)(rg:T AV)(h:ah)(x:Operand):Option (iB×ah):=
 match lK rg x with
  |some v=>some (.val v,h)
  |none=>none
def EU(E:Env)(rg:T AV)(h:ah)(c:Operand)(a:Operand)(b:Operand):Option (iB×ah):=
 match lK rg c with
  |some (.bool true)=>match lK rg a with
   |some v=>some (.val v,h)
   |none=>none
  |some (.bool false)=>match lK rg b with
   |some v=>some (.val v,h)
   |none=>none
  |_=>none
def yY(E:Env)(rg:T AV)(h:ah)(t:TypeId):Option (iB×ah):=
 match E.zer t with
  |some cs=>some (.val (.ptr (some (h.nx,0))),(h.alloc (.cells true 0 cs)).2)
  |_=>none
def Jr(E:Env)(rg:T AV)(h:ah)(x:Operand):Option (iB×ah):=
 match lK rg x with
  |some v=>if v.cells.all AV.scalar then some (.val (.ptr (some (h.nx,0))),(h.alloc (.cells true 0 v.cells)).2)else none
  |_=>none
def Bb(E:Env)(rg:T AV)(h:ah)(t:TypeId)(parts:Array (Nat×Operand)):Option (iB×ah):=
 match E.zer t,E.nv t,oS rg parts.toList with
  |some z,some (.struct fs),some ps=>match rR E fs.toList with
   |some pl=>match x8 (pl[·]?) z ps with
    |some cs=>some (.val (.agg cs),h)
    |none=>none
   |none=>none
  |some z,some (.array _ e),some ps=>match E.siz e with
   |some s=>match x8 (λi=>some (i*s,s)) z ps with
    |some cs=>some (.val (.agg cs),h)
    |none=>none
   |none=>none
  |_,_,_=>none
def my(E:Env)(rg:T AV)(h:ah)(t:TypeId)(len:Nat)(parts:Array (Nat×Operand)):Option (iB×ah):=
 match E.nv t,oS rg parts.toList with
  |some (.slice e),some ps=>match E.siz e,E.zer e with
   |some (s+1),some z=>
    if len<=1000/\s<=1000/\z.length=s+1 then
     match x8 (λi=>some (i*(s+1),s+1)) (List.replicate len z).flatten ps with
     |some cs=>some (.val (.slice (some (h.nx,0)) len),(h.alloc (.cells true (s+1) cs)).2)
     |none=>none
    else none
   |_,_=>none
  |_,_=>none
def Cz(E:Env)(rg:T AV)(h:ah)(t:TypeId)(a:Operand):Option (iB×ah):=
 match lK rg a with
  |some (.ptr (some (i,off)))=>match E.isAgg t,E.siz t with
   |some true,some n=>match h.loadCells i off n with
    |some cs=>some (.val (.agg cs),h)
    |none=>none
   |some false,some _=>match h.xc i off with
    |some v=>some (.val v,h)
    |none=>none
   |_,_=>none
  |_=>none
def Bc(E:Env)(rg:T AV)(h:ah)(t:TypeId)(a:Operand)(x:Operand):Option (iB×ah):=
 match lK rg a,lK rg x with
  |some (.ptr (some (i,off))),some v=>
   if some v.cells.length=E.siz t then match h.storeCells i off v.cells with
    |some h'=>some (.skip,h')
    |none=>none
   else none
  |_,_=>none
def ti(E:Env)(rg:T AV)(h:ah)(x:Operand):Option (iB×ah):=
 match lK rg x with
  |some (.ptr (some p))=>some (.val (.ptr (some p)),h)
  |some (.func f cs)=>some (.val (.func f cs),h)
  |some (.Cx l)=>some (.val (.Cx l),h)
  |_=>none
def yZ(E:Env)(rg:T AV)(h:ah)(op:BinOp)(t:TypeId)(x:Operand)(y:Operand):Option (iB×ah):=
 match lK rg x,lK rg y with
  |some a,some b=>match ES E h op t (th x||th y) a b with
   |some v=>some (.val v,h)
   |none=>none
  |_,_=>none
def EV(E:Env)(rg:T AV)(h:ah)(op:UnOp)(x:Operand):Option (iB×ah):=
 match lK rg x with
  |some a=>match TK op a with
   |some v=>some (.val v,h)
   |none=>none
  |none=>none
def nC(E:Env)(rg:T AV)(h:ah)(s:TypeId)(d:TypeId)(x:Operand):Option (iB×ah):=
 match E.nv s,E.nv d,lK rg x with
  |some _,some (.int k),some (.int _ n)=>match cm (Conv.intToInt k n)with
   |some v=>some (.val v,h)
   |none=>none
  |some .string,some .string,some (.str l)=>some (.val (.str l),h)
  |some .string,some (.slice e),some (.str l)=>match E.nv e with
   |some (.int .u8)=>if roomy<l.length then none else
    some (.val (.slice (some (h.nx,0)) l.length),(h.alloc (.cells false 1 (l.map λb=> .int .u8 b.toNat))).2)
   |_=>none
  |_,_,_=>none
def ko(E:Env)(rg:T AV)(h:ah)(t:TypeId)(x:Operand):Option (iB×ah):=
 match E.nv t,lK rg x with
  |some (.interface _),_=>none
  |some _,some v=>some (.val (.iface t v),h)
  |_,_=>none
def tj(E:Env)(rg:T AV)(h:ah)(f:FuncId)(first:Array Operand)(lQ:Array Operand):Option (iB×ah):=
 match first.toList,qU rg lQ.toList with
  |[],some cs=>some (.val (.func f cs),h)
  |_,_=>none
def tw(E:Env)(rg:T AV)(h:ah):Option (iB×ah):=
 some (.val (.map (some h.nx)),(h.alloc (.map [])).2)
def mf(E:Env)(rg:T AV)(h:ah)(t:TypeId)(l:Operand)(c:Operand):Option (iB×ah):=
 match E.nv t,lK rg l,lK rg c with
  |some (.slice e),some (.int .i64 n),some (.int .i64 a)=>match E.siz e,E.byt e,E.zer e with
   |some (s+1),some b,some z=>
    if n=a/\0<=n/\n.toNat*(b+1)<=roomy/\z.length=s+1 then
     some (.val (.slice (some (h.nx,0)) n.toNat),(h.alloc (.cells true (s+1) (List.replicate n.toNat z).flatten)).2)
    else none
   |_,_,_=>none
  |_,_,_=>none
def za(E:Env)(rg:T AV)(h:ah)(t:TypeId)(x:Operand)(lo:Option Operand)(hi:Option Operand):Option (iB×ah):=
 match E.nv t,lK rg x with
  |some .string,some (.str s)=>match kO rg s.length s.length lo hi with
   |some (l,r)=>some (.val (.str ((s.take r).drop l)),h)
   |none=>none
  |some (.slice e),some (.slice a len)=>match E.siz e,kO rg len len lo hi with
   |some (s+1),some (l,r)=>match a with
    |some (i,off)=>match h.get i with
     |some (.cells rw es _)=>if rw=false\/es=0\/es=s+1 then some (.val (.slice (some (i,off+l*(s+1))) (r-l)),h)else none
     |_=>none
    |none=>some (.val (.slice none 0),h)
   |_,_=>none
  |some (.array n e),some (.ptr (some (i,off)))=>match E.siz e,kO rg n n lo hi,h.get i with
   |some (s+1),some (l,r),some (.cells rw es _)=>
    if rw=false\/es=0 then some (.val (.slice (some (i,off+l*(s+1))) (r-l)),h)else none
   |_,_,_=>none
  |_,_=>none
def qV(E:Env)(rg:T AV)(h:ah)(t:TypeId)(x:Operand)(f:Nat):Option (iB×ah):=
 match E.nv t,lK rg x with
  |some (.struct fs),some (.ptr (some (i,off)))=>match fs[f]? with
   |some fd=>match E.siz fd.type with
    |some (_+1)=>some (.val (.ptr (some (i,off+fd.offset))),h)
    |_=>none
   |none=>none
  |_,_=>none
def Be(E:Env)(rg:T AV)(h:ah)(t:TypeId)(x:Operand)(f:Nat):Option (iB×ah):=
 match E.nv t,lK rg x with
  |some (.struct fs),some (.agg cs)=>match fs[f]? with
   |some fd=>match Cy E fd.type cs fd.offset with
    |some v=>some (.val v,h)
    |none=>none
   |none=>none
  |_,_=>none
def qW(E:Env)(rg:T AV)(h:ah)(t:TypeId)(x:Operand)(ix:Operand):Option (iB×ah):=
 match E.nv t,lK rg x,lK rg ix with
  |some (.slice e),some (.slice (some (i,off)) len),some (.int _ n)=>match E.siz e with
   |some s=>if 0<=n/\n<len then some (.val (.ptr (some (i,off+n.toNat*s))),h)else none
   |none=>none
  |some (.array len e),some (.ptr (some (i,off))),some (.int _ n)=>match E.siz e with
   |some s=>if 0<=n/\n<len then some (.val (.ptr (some (i,off+n.toNat*s))),h)else none
   |none=>none
  |_,_,_=>none
def Bf(E:Env)(rg:T AV)(h:ah)(t:TypeId)(x:Operand)(ix:Operand):Option (iB×ah):=
 match E.nv t,lK rg x,lK rg ix with
  |some .string,some (.str s),some (.int _ n)=>if 0<=n then match s[n.toNat]? with
   |some b=>some (.val (.int .u8 b.toNat),h)
   |none=>none
   else none
  |some (.array len e),some (.agg cs),some (.int _ n)=>match E.siz e with
   |some s=>if 0<=n/\n<len then match Cy E e cs (n.toNat*s)with
    |some v=>some (.val v,h)
    |none=>none
    else none
   |none=>none
  |_,_,_=>none
def wm(E:Env)(rg:T AV)(h:ah)(t:TypeId)(x:Operand)(ix:Operand)(ok:Bool):Option (iB×ah):=
 match E.nv t,lK rg x,lK rg ix with
  |some (.map b a),some (.map m),some k=>
   if Ba E b k then
    match h.gM m with
    |some es=>match eD h k es 0,E.zer a,E.isAgg a with
     |some (some (_,v)),_,_=>some (.val (if ok then .iO [v,.bool true]else v),h)
     |some none,some z,some e=>
      match(if e then some (.agg z)else z[0]?)with
      |some v=>some (.val (if ok then .iO [v,.bool false]else v),h)
      |none=>none
     |_,_,_=>none
    |none=>none
   else none
  |_,_,_=>none
def qZ(E:Env)(rg:T AV)(h:ah)(t:TypeId)(m:Operand)(k:Operand)(x:Operand):Option (iB×ah):=
 match E.nv t,lK rg m,lK rg k,lK rg x with
  |some (.map a _),some (.map (some r)),some k,some v=>
   if Ba E a k then match h.get r with
    |some (.map es)=>match eD h k es 0 with
     |some (some (i,_))=>some (.skip,h.set r (.map (es.modify i λ_=>(k,v))))
     |some none=>some (.skip,h.set r (.map (es++[(k,v)])))
     |none=>none
    |_=>none
   else none
  |_,_,_,_=>none
def oY(E:Env)(rg:T AV)(h:ah)(x:Operand)(t:TypeId)(ok:Bool):Option (iB×ah):=
 match E.nv t,lK rg x with
  |some (.interface _),_=>none
  |some _,some (.iface u v)=>
   if u=t then some (.val (if ok then .iO [v,.bool true]else v),h)
   else if ok then match E.zer t,E.isAgg t with
    |some z,some a=>match(if a then some (.agg z)else z[0]?)with
     |some v=>some (.val (.iO [v,.bool false]),h)
     |none=>none
    |_,_=>none
   else none
  |_,_=>none
def vu(E:Env)(rg:T AV)(h:ah)(x:Operand)(i:Nat):Option (iB×ah):=
 match lK rg x with
  |some (.iO vs)=>match vs[i]? with
   |some v=>some (.val v,h)
   |none=>none
  |_=>none
def zU(E:Env)(rg:T AV)(h:ah)(c:Call):Option (iB×ah):=
 match qU rg c.args.toList with
  |none=>none
  |some args=>match c.callee with
   | .value f=>match lK rg f with
    |some (.func k lQ)=>match E.fn k with
     |some fn=>if fn.body.isSome then some (.enter k (args++lQ),h)else match E.ext k with
      |some f=>match f (args++lQ)with
       |some v=>some (.val v,h)
       |none=>none
      |none=>none
     |none=>none
    |some (.Cx l)=>match h.get l with
     |some (.loop _ _ _ _ ps _ _)=>if args.length=ps.size then some (.yield l args,h)else none
     |_=>none
    |_=>none
   | .invoke _ _=>none
   | .builtin b=>match b,args with
    | .len,[x]=>match c.argTypes[0]? with
     |some t=>match Du E h t x with
      |some v=>some (.val v,h)
      |none=>none
     |none=>none
    | .append,[s,x]=>match c.argTypes[0]?,c.argTypes[1]? with
     |some t,some u=>match E.nv u with
      |some (.slice _)|some .string=>match aK E h t s x with
       |some (v,h')=>some (.val v,h')
       |none=>none
      |_=>none
     |_,_=>none
    | .max,[.int k a,.int _ b]=>some (.val (.int k (if b>a then b else a)),h)
    | .recover,[]=>some (.recover,h)
    |_,_=>none
def zb(E:Env)(rg:T AV)(h:ah)(c:Call):Option (iB×ah):=
 match qU rg c.args.toList,c.callee with
  |some args,.value f=>match lK rg f with
   |some (.func k lQ)=>some (.defer k (args++lQ),h)
   |_=>none
  |_,_=>none
def Bg(E:Env)(rg:T AV)(h:ah)(x:Operand):Option (iB×ah):=
 match lK rg x with
  |some (.iface t v)=>some (.panic (.iface t v),h)
  |_=>none
def eQ(E:Env)(rg:T AV)(h:ah)(o:Oper):Option (iB×ah):=
 match o.op with
 | .move x| .assign x=>ET E rg h x
 | .pick c a b=>EU E rg h c a b
 | .alloc t=>yY E rg h t
 | .box _ x=>Jr E rg h x
 | .build t parts=>Bb E rg h t parts
 | .buildSlice t len parts=>my E rg h t len parts
 | .load t a=>Cz E rg h t a
 | .store t a x=>Bc E rg h t a x
 | .nilCheck x=>ti E rg h x
 | .binOp op t x y _=>yZ E rg h op t x y
 | .unOp op _ x=>EV E rg h op x
 | .convert s d x=>nC E rg h s d x
 | .makeInterface t x=>ko E rg h t x
 | .makeFunc (.func f) first lQ=>tj E rg h f first lQ
 | .makeMap _ none=>tw E rg h
 | .makeSlice t l c=>mf E rg h t l c
 | .slice t x lo hi none=>za E rg h t x lo hi
 | .fieldAddr t x f=>qV E rg h t x f
 | .field t x f=>Be E rg h t x f
 | .indexAddr t x ix=>qW E rg h t x ix
 | .index t x ix=>Bf E rg h t x ix
 | .lookup t x ix ok=>wm E rg h t x ix ok
 | .mapUpdate t m k x=>qZ E rg h t m k x
 | .typeAssert x _ t ok=>oY E rg h x t ok
 | .extract x i=>vu E rg h x i
 | .call c=>zU E rg h c
 | .defer c=>zb E rg h c
 | .panic x=>Bg E rg h x
 |_=>none
end
end Go.Am
namespace Go.Am
section
abbrev eu:=List AV
noncomputable section
inductive nh where
 |call (f:FuncId) (args:List AV)
 |mark (r:Nat)
structure St where
 rg:T AV
 n:Nat
 h:ah
 ds:List nh
 bX:Bool
inductive bT where
 |kj
 |exit (id:Nat)
 |ret
 |jz (v:AV)
abbrev rp:AV:= .iO []
def uN(n:Nat):Option Tmp->Bool
 |some d=>d<n
 |none=>true
def fY(ops:Array Oper)(n:Nat)(rg:T AV)(o:Oper):Option Bool:=
 if uN n o.dst then
  match o.guard with
  |none=>some true
  |some (j,want)=>match(ops[j]?).bind (·.dst)with
   |none=>some false
   |some d=>match rg.get d with
    |some (.bool b)=>some (b==want)
    |some (.iO [])=>some false
    |_=>none
 else none
abbrev fW:=FuncId->List AV->ah->Option (Out×ah)
abbrev eg:=Nat->List AV->ah->Option (AV×ah)
def qw(call:fW)(round:eg)(d:Option Tmp)(st:St):iB×ah->Option (Option AV×St)
 |(.val v,h)=>some (none,{st with rg:=fO st.rg d v,h:=h})
 |(.skip,h)=>some (none,{st with rg:=fO st.rg d rp,h:=h})
 |(.enter f args,h)=>match call f args h with
  |some (.ret v,h')=>some (none,{st with rg:=fO st.rg d v,h:=h'})
  |some (.jz v,h')=>some (some v,{st with h:=h'})
  |none=>none
 |(.yield l args,h)=>match round l args h with
  |some (v,h')=>some (none,{st with rg:=fO st.rg d v,h:=h'})
  |none=>none
 |(.defer f args,h)=>if st.bX then none else some (none,{st with rg:=fO st.rg d rp,h:=h,ds:= .call f args::st.ds})
 |(.recover,_)=>none
 |(.panic v,h)=>some (some v,{st with h:=h})
def zd(E:Env)(call:fW)(round:eg)(ops:Array Oper):List Oper->St->Option (bT×St)
 |[],st=>some (.kj,st)
 |o::rest,st=>match fY ops st.n st.rg o with
  |none=>none
  |some false=>zd E call round ops rest {st with rg:=fO st.rg o.dst rp}
  |some true=>match eQ E st.rg st.h o with
   |none=>none
   |some r=>match qw call round o.dst st r with
    |none=>none
    |some (none,cd)=>zd E call round ops rest cd
    |some (some v,cd)=>some (.jz v,cd)
inductive UA where
 |pure|read|alloc|pK
 deriving DecidableEq
def gV(E:Env)(o:Oper):UA:=
 match o.op with
 | .move _| .assign _| .pick ..| .build ..| .nilCheck _| .unOp ..| .makeInterface ..| .makeFunc ..| .fieldAddr ..| .field ..| .indexAddr ..| .index ..| .extract ..| .typeAssert ..=> .pure
 | .binOp ..| .load ..| .lookup ..=> .read
 | .slice ..=> .read
 | .alloc _| .box ..| .buildSlice ..| .makeMap ..| .makeSlice ..=> .alloc
 | .convert _ d _=>match E.nv d with
  |some (.slice _)=> .alloc
  |_=> .pure
 | .call c=>match c.callee with
  | .builtin .len=> .read
  | .builtin .max=> .pure
  |_=> .pK
 |_=> .pK
def zf(acc:List Nat)(o:Oper):Nat:=
 o.after.toList.foldl (λs e=>if Region.binds .any e then s|||2^e.on|||acc.getD e.on 0 else s) 0
def uO:List Oper->List Nat->List Nat
 |[],acc=>acc
 |o::r,acc=>match zf acc o with
  |0=>uO r (acc++[0])
  |k+1=>uO r (acc++[k+1])
def gX(ops:Array Oper):Nat->Nat:=
 let ms:=uO ops.toList []
 λi=>ms.getD i 0
def iD(ops:Array Oper):Bool:=
 ops.toList.zipIdx.all λx=>
  x.1.after.toList.all (λe=>!Region.binds .any e||e.on<x.2)&&
  (ops.toList.take x.2).zipIdx.all λy=>Oper.apart ops y.1 x.1||(gX ops x.2).testBit y.2
def yh(n:Nat):AV->Option AV
 | .ptr (some (_,0))=>some (.ptr (some (n,0)))
 | .slice (some (_,0)) len=>some (.slice (some (n,0)) len)
 | .map (some _)=>some (.map (some n))
 |_=>none
structure pq where
 idx:Nat
 h:ah
structure Rd where
 idx:Nat
 o:Oper
 rg:T AV
 v:AV
def jE(E:Env)(h:ah)(rg:T AV)(o:Oper)(v:AV):Bool:=
 match eQ E rg h o with
 |some (.val a,_)=>AV.beq a v
 |_=>false
def lV(E:Env)(call:fW)(round:eg)(ops:Array Oper)(a:Nat->Nat)(base:Nat):
 List (Oper×Nat)->St->List pq->List Rd->Option (bT×St)
 |[],st,_,_=>some (.kj,st)
 |(o,i)::rest,st,sn,rd=>match fY ops st.n st.rg o with
  |none=>none
  |some false=>lV E call round ops a base rest {st with rg:=fO st.rg o.dst rp} sn rd
  |some true=>match gV E o,eQ E st.rg st.h o with
   |_,none=>none
   | .pure,some (.val v,_)=>lV E call round ops a base rest {st with rg:=fO st.rg o.dst v} sn rd
   | .read,some (.val v,_)=>
    if sn.all (λs=>(a i).testBit s.idx||jE E s.h st.rg o v)then
     lV E call round ops a base rest {st with rg:=fO st.rg o.dst v} sn ({idx:=i,o:=o,rg:=st.rg,v:=v}::rd)
    else none
   | .alloc,some (.val v,b)=>match b.get st.h.nx,st.h.get (base+i),yh (base+i) v with
    |some obj,none,some e=>lV E call round ops a base rest {st with rg:=fO st.rg o.dst e,h:=st.h.set (base+i) obj} sn rd
    |_,_,_=>none
   | .pK,some r=>
    if sn.all (λs=>(a i).testBit s.idx)then
     match qw call round o.dst st r with
     |none=>none
     |some (none,cd)=>
      if rd.all (λr=>(a i).testBit r.idx||jE E cd.h r.rg r.o r.v)then
       lV E call round ops a base rest cd ({idx:=i,h:=st.h}::sn) rd
      else none
     |some (some v,cd)=>
      if rest.all (λx=>(a x.2).testBit i)then
       some (.jz v,{cd with rg:=ops.foldl (λr o=>match o.dst with|some d=>r.del d|none=>r) st.rg})
      else none
    else none
   |_,some _=>none
def dG:List Nat->Nat->Nat
 |[],_=>0
 |x::r,i=>if x=i then 0 else dG r i+1
def cz(p:List Nat)(o:Oper):Oper:=
 {o with after:=o.after.map (λe=>{e with on:=dG p e.on}),guard:=o.guard.map λg=>(dG p g.1,g.2)}
def jg(ops:Array Oper)(p:List Nat):Array Oper:=
 (p.filterMap λi=>(ops[i]?).map (cz p)).toArray
def Iq:List Nat->Bool
 |[]=>true
 |x::r=>!r.contains x&&Iq r
def mi(ops:Array Oper)(p:List Nat):Bool:=p.length==ops.size&&Iq p&&p.all (λi=>i<ops.size)&&(List.range ops.size).all λi=>p.contains i
def Jx(done:List Nat)(o:Oper):Bool:=
 o.after.toList.all (λe=>!Region.binds .any e||done.contains e.on)&&match o.guard with
  |none=>true
  |some g=>done.contains g.1
def Pp(E:Env)(o:Oper):Bool:=
 match gV E o with
 | .pK=>true
 |_=>false
def G9(E:Env)(pK:Bool)(done:List Nat):List (Oper×Nat)->Option Nat
 |[]=>none
 |(o,i)::r=>bif (Pp E o==pK)&&Jx done o&&!done.contains i then some i else G9 E pK done r
def KQ(E:Env)(ops:Array Oper):Nat->List (Oper×Nat)->List Nat->List Nat
 |0,_,done=>done.reverse
 |n+1,l,done=>match G9 E false done l with
  |some i=>KQ E ops n l (i::done)
  |none=>match G9 E true done l with
   |some i=>KQ E ops n l (i::done)
   |none=>done.reverse
def Qn(o:Oper):Bool:=
 match o.op with
 | .call c=>match c.callee with
  | .value _=>true
  |_=>false
 |_=>false
def oI(E:Env)(ops:Array Oper):Bool:=
 ops.toList.zipIdx.any λx=>Qn x.1&&(ops.toList.zipIdx.drop (x.2+1)).any λy=>!Pp E y.1&&!(gX ops y.2).testBit x.2
def tM(E:Env)(ops:Array Oper):Array Oper:=
 bif oI E ops then bif mi ops (KQ E ops ops.size ops.toList.zipIdx [])then jg ops (KQ E ops ops.size ops.toList.zipIdx [])else ops else ops
def AK(E:Env)(call:fW)(round:eg)(ops:Array Oper)(st:St):Option (bT×St):=
 if iD ops then lV E call round ops (gX ops) st.h.nx ops.toList.zipIdx {st with h:={st.h with nx:=st.h.nx+ops.size}} [] []
 else none
def qk(f:St->Option (bT×St)):Nat->St->Option (bT×St)
 |0,_=>none
 |n+1,st=>match f st with
  |some (.kj,cd)=>qk f n cd
  |r=>r
def AJ(E:Env)(k:FuncId):Bool:=
 match E.fn k with
 |some fn=>fn.body.isSome
 |none=>false
def dM(E:Env)(call:fW)(round:eg)(fuel:Nat):Code->St->Option (bT×St)
 | .skip,st=>some (.kj,st)
 | .region _ ops false,st=>zd E call round ops ops.toList st
 | .region _ ops true,st=>AK E call round (tM E ops) st
 | .seq a b,st=>match dM E call round fuel a st with
  |some (.kj,cd)=>dM E call round fuel b cd
  |r=>r
 | .cond c a b,st=>match lK st.rg c with
  |some (.bool true)=>dM E call round fuel a st
  |some (.bool false)=>dM E call round fuel b st
  |_=>none
 | .block id b,st=>match dM E call round fuel b st with
  |some (.exit i,cd)=>if i=id then some (.kj,cd)else some (.exit i,cd)
  |r=>r
 | .loop b,st=>qk (dM E call round fuel b) fuel st
 | .exit id,st=>some (.exit id,st)
 | .ret,st=>some (.ret,st)
 | .label _,st=>some (.kj,st)
 | .scope b,st=>dM E call round fuel b st
 | .rangeFunc f ps ae b,st=>match lK st.rg f with
  |some (.func g lQ)=>if st.bX||!AJ E g then none else
   let h0:=(st.h.alloc .qT).2
   match call g (.Cx h0.nx::lQ) (h0.alloc (.loop .ready none st.n st.rg ps ae b)).2 with
   |some (.ret _,j)=>match j.get h0.nx with
    |some (.loop .busy ..)=>none
    |some (.loop _ e n rg ps ae b)=>
     let cd:St:={st with h:=j.set h0.nx (.loop .exhausted e n rg ps ae b),ds:= .mark st.h.nx::st.ds}
     match e with
     |none=>some (.kj,cd)
     |some .ret=>some (.ret,cd)
     |some (.exit id)=>some (.exit id,cd)
     |_=>none
    |_=>none
   |_=>none
  |_=>none
 |_,_=>none
def xy(E:Env)(call:fW)(round:eg)(fuel:Nat):eg:=λl args h=>
 match h.get l with
 |some (.loop .ready _ n rg ps ae b)=>
  if ps.size=args.length/\ps.all (λp=>p<n)then
   match dM E call round fuel ae {rg:=(ps.toList.zip args).foldl (λr x=>r.set x.2 x.1) rg,n:=n,h:=h,ds:=[],bX:=true}with
   |some (.kj,i)=>match i.h.get l with
    |some (.loop .ready pd t cC o as' u)=>
     match dM E call round fuel b {i with h:=i.h.set l (.loop .busy pd t cC o as' u)}with
     |some (e,a)=>match a.ds,a.h.get l with
      |[],some (.loop _ _ j f g as'' m)=>match e with
       | .kj=>some (.bool true,a.h.set l (.loop .ready none j f g as'' m))
       | .ret=>some (.bool false,a.h.set l (.loop .done (some .ret) j f g as'' m))
       | .exit id=>some (.bool false,a.h.set l (.loop .done (some (.exit id)) j f g as'' m))
       | .jz _=>none
      |_,_=>none
     |none=>none
    |_=>none
   |_=>none
  else none
 |_=>none
def AL(E:Env)(rg:T AV)(h:ah):ResultVar->Option AV
 | .tmp t=>rg.get t
 | .cell a t=>match rg.get a,E.isAgg t,E.siz t with
  |some (.ptr (some (i,off))),some true,some n=>(h.loadCells i off n).map .agg
  |some (.ptr (some (i,off))),some false,some _=>h.xc i off
  |_,_,_=>none
def fp(E:Env)(rg:T AV)(h:ah):List ResultVar->Option (List AV)
 |[]=>some []
 |r::rs=>match AL E rg h r,fp E rg h rs with
  |some v,some vs=>some (v::vs)
  |_,_=>none
def oneOf:List AV->AV
 |[v]=>v
 |vs=> .iO vs
def qm:List AV->Nat->T AV->T AV
 |[],_,t=>t
 |v::r,i,t=>qm r (i+1) (t.set v i)
def Av(E:Env)(ops:Array Oper):List Oper->St->Option AV->Option (bT×St×Option AV)
 |[],st,p=>some (.kj,st,p)
 |o::rest,st,p=>match fY ops st.n st.rg o with
  |none=>none
  |some false=>Av E ops rest {st with rg:=fO st.rg o.dst rp} p
  |some true=>match eQ E st.rg st.h o with
   |some (.val v,h)=>Av E ops rest {st with rg:=fO st.rg o.dst v,h:=h} p
   |some (.skip,h)=>Av E ops rest {st with rg:=fO st.rg o.dst rp,h:=h} p
   |some (.recover,h)=>Av E ops rest {st with rg:=fO st.rg o.dst (p.getD .nilIface),h:=h} none
   |_=>none
def isRec(o:Oper):Bool:=
 match o.op with
 | .call {callee:= .builtin .recover,..}=>true
 |_=>false
def jD(E:Env)(call:fW)(round:eg)(fuel:Nat):Code->St->Option AV->Option (bT×St×Option AV)
 | .seq a b,st,p=>match jD E call round fuel a st p with
  |some (.kj,cd,f)=>jD E call round fuel b cd f
  |r=>r
 | .region id ops false,st,p=>
  if ops.any isRec then Av E ops ops.toList st p
  else match dM E call round fuel (.region id ops false) st with
   |some (e,cd)=>some (e,cd,p)
   |none=>none
 | .cond c a b,st,p=>match lK st.rg c with
  |some (.bool true)=>jD E call round fuel a st p
  |some (.bool false)=>jD E call round fuel b st p
  |_=>none
 |c,st,p=>match dM E call round fuel c st with
  |some (e,cd)=>some (e,cd,p)
  |none=>none
abbrev Bn:=FuncId->List AV->ah->Option AV->Option (Out×ah×Option AV)
def nL(E:Env)(call:fW)(round:eg)(fuel:Nat):Bn:=λk args h p=>
 match E.fn k with
 |none=>none
 |some fn=>match fn.body with
  |none=>none
  |some c=>
   if args.length<=fn.ntmps then
    match jD E call round fuel c {rg:=qm args 0 .nil,n:=fn.ntmps,h:=h,ds:=[],bX:=false} p with
    |some (.kj,st,a)|some (.ret,st,a)=>match st.ds,fp E st.rg st.h fn.results.toList with
     |[],some vs=>some (.ret (oneOf vs),st.h,a)
     |_,_=>none
    |_=>none
   else none
def jr(E:Env)(a:Bn)(fn:Func)(rg:T AV):List nh->Option AV->ah->Option (Out×ah)
 |[],none,h=>match fp E rg h fn.results.toList with
  |some vs=>some (.ret (oneOf vs),h)
  |none=>none
 |[],some v,h=>some (.jz v,h)
 | .mark r::ds,p,h=>match h.get r with
  |some .qT=>jr E a fn rg ds p (h.set r .dead)
  |_=>none
 | .call f args::ds,p,h=>match a f args h p with
  |some (.ret _,h',b)=>jr E a fn rg ds b h'
  |_=>none
structure Jw where
 call:fW
 round:eg
def xz(E:Env)(m:Jw)(n:Nat):fW:=λk args h=>
 match E.fn k with
  |none=>none
  |some fn=>match fn.body with
   |none=>none
   |some c=>
    if args.length<=fn.ntmps then
     match dM E m.call m.round n c {rg:=qm args 0 .nil,n:=fn.ntmps,h:=h,ds:=[],bX:=false}with
     |some (.kj,st)|some (.ret,st)=>jr E (nL E m.call m.round n) fn st.rg st.ds none st.h
     |some (.jz v,st)=>jr E (nL E m.call m.round n) fn st.rg st.ds (some v) st.h
     |_=>none
    else none
def Env.told(E:Env)(k:FuncId)(args:List AV)(h:ah):Option (Out×ah):=
 match E.ed k with
 |some f=>f args h
 |none=>none
def yg(E:Env)(m:Jw)(n:Nat):fW:=λk args h=>
 match E.told k args h with
 |some r=>some r
 |none=>xz E m n k args h
def iR(E:Env):Nat->Jw
 |0=>{call:=λ_ _ _=>none,round:=λ_ _ _=>none}
 |n+1=>{call:=yg E (iR E n) n,round:=xy E (iR E n).call (iR E n).round n}
end
end
end Go.Am
namespace Go.Am
theorem Qs(x:Nat):x.beq 0=decide (x=0):=by
 cases x<;>simp[Nat.beq]
namespace T
variable{α:Type}
theorem get_nil(k:Nat):(nil:T α).get k=none:=rfl
theorem qG(v:Option α)(l r:T α):(node v l r).get 0=v:=rfl
theorem mI(v:Option α)(l r:T α)(k:Nat):(node v l r).get (k+1)=if k%2=0 then l.get (k/2)else r.get (k/2):=by
 show Bool.rec (motive:=λ_=>Nat->Option α) r.get l.get (Nat.beq (k%2) 0) (k/2)=_;rw[Qs];by_cases h:k%2=0<;>simp[h]
theorem TM(a:α)(f m:Nat):mk a (f+1) (m+1)=if m%2=0 then node none (mk a f (m/2)) nil else node none nil (mk a f (m/2)):=by
 simp only[mk,Qs];by_cases h:m%2=0<;>simp[h]
theorem Si(a:α)(v:Option α)(l r:T α)(m:Nat):(node v l r).set a (m+1)=if m%2=0 then node v (set a l (m/2)) r else node v l (set a r (m/2)):=by
 show Bool.rec (motive:=λ_=>T α) (node v l (set a r (m/2))) (node v (set a l (m/2)) r) (Nat.beq (m%2) 0)=_;rw[Qs];by_cases h:m%2=0<;>simp[h]
theorem Sj(a:α)(v:Option α)(l r:T α):(node v l r).set a 0=node (some a) l r:=rfl
theorem Qt(a:α):∀(f n k:Nat),n<f->(mk a f n).get k=if k=n then some a else none:=by
 intro f;induction f with
 |zero=>intro n k h;omega
 |succ f b=>
  intro n k h;cases n with
  |zero=>
   cases k with
   |zero=>simp[mk,qG]
   |succ k=>simp[mk,mI,get_nil]
  |succ m=>
   have e:m/2<f:=om;rw[TM];cases k with
   |zero=>split<;>simp[qG]
   |succ k=>
    split<;>rw[mI]<;>split<;>simp only[b _ _ e,get_nil]
    ·have:(k/2=m/2)↔(k+1=m+1):=om;simp only[this]
    ·rw[ay om]
    ·rw[ay om]
    ·have:(k/2=m/2)↔(k+1=m+1):=om;simp only[this]
theorem aM(a:α):∀(t:T α)(n k:Nat),(t.set a n).get k=if k=n then some a else t.get k:=by
 intro t;induction t with
 |nil=>intro n k;exact Qt a (n+1) n k om
 |node v l r b e=>
  intro n k;cases n with
  |zero=>cases k<;>simp[Sj,qG,mI]
  |succ m=>
   rw[Si];cases k with
   |zero=>split<;>simp[qG]
   |succ k=>
    split<;>rw[mI,mI]<;>split<;>(try simp only[b,e])
    ·have:(k/2=m/2)↔(k+1=m+1):=om;simp only[this]
    ·rw[ay om]
    ·rw[ay om]
    ·have:(k/2=m/2)↔(k+1=m+1):=om;simp only[this]
end T
theorem ah.aM(h:ah)(i k:Nat)(o:dK):(h.set i o).get k=if k=i then some o else h.get k:=by
 simp[ah.get,ah.set,T.aM]
theorem ah.cO(h:ah)(k:Nat)(o:dK):(h.alloc o).2.get k=if k=h.nx then some o else h.get k:=by
 simp[ah.get,ah.alloc,T.aM]
@[simp]theorem ah.pj(h:ah)(i:Nat)(o:dK):(h.set i o).nx=h.nx:=rfl
@[simp]theorem ah.uq(h:ah)(o:dK):(h.alloc o).2.nx=h.nx+1:=rfl
structure Loc where
 b:Nat
 base:Nat
 top:Nat
 es:Nat
 rw:Bool
abbrev cq:=Nat->Option Loc
inductive bG(ι:cq):AV->Value->Prop
 |bool (b:Bool):bG ι (.bool b) (.bool b)
 |int (k:IntKind) (n:Int):bG ι (.int k n) (.int k n)
 |str (l:List UInt8):bG ι (.str l) (.string ⟨l.toArray⟩)
 |DO:bG ι (.ptr none) (.pointer none)
 |ptr {id off:Nat} {L:Loc} (h:ι id=some L):bG ι (.ptr (some (id,off))) (.pointer (some ⟨L.b,L.base+off,none⟩))
 |tD:bG ι (.slice none 0) (.slice none 0 0)
 |slice {id off len cap:Nat} {L:Loc} (h:ι id=some L) (hc:len<=cap) (ht:L.rw=true->0<L.es->L.base+off+cap*L.es=L.top):
  bG ι (.slice (some (id,off)) len) (.slice (some ⟨L.b,L.base+off,none⟩) len cap)
 |pc {id off:Nat} {a:Addr} {L:Loc} (h:ι id=some L) (ht:L.rw=true->0<L.es->L.base+off=L.top):
  bG ι (.slice (some (id,off)) 0) (.slice (some a) 0 0)
 |Bi:bG ι (.map none) (.map none)
 |map {id:Nat} {L:Loc} (h:ι id=some L):bG ι (.map (some id)) (.map (some L.b))
 |func (f:FuncId) {lQ:List AV} {cs:Array Value} (hl:lQ.length=cs.toList.length) (h:∀(i:Nat)(x:AV)(y:Value),lQ[i]?=some x->cs.toList[i]?=some y->bG ι x y):
  bG ι (.func f lQ) (.func (.func f) #[] cs)
 |Cx {l:Nat} {L:Loc} (h:ι l=some L):bG ι (.Cx l) (.func (.yield L.b) #[] #[])
 |nilFunc:bG ι .nilFunc .nilFunc
 |iface (t:TypeId) {v:AV} {v':Value} (h:bG ι v v'):bG ι (.iface t v) (.iface t v')
 |nilIface:bG ι .nilIface .nilIface
 |agg {xs:List AV} {cs:Array Value} (hl:xs.length=cs.toList.length) (h:∀(i:Nat)(x:AV)(y:Value),xs[i]?=some x->cs.toList[i]?=some y->bG ι x y):
  bG ι (.agg xs) (.agg cs)
 |iO {xs:List AV} {cs:Array Value} (hl:xs.length=cs.toList.length) (h:∀(i:Nat)(x:AV)(y:Value),xs[i]?=some x->cs.toList[i]?=some y->bG ι x y):
  bG ι (.iO xs) (.tuple cs)
def bp(ι:cq)(xs:List AV)(a:List Value):Prop:=
 xs.length=a.length/\∀(i:Nat)(x:AV)(y:Value),xs[i]?=some x->a[i]?=some y->bG ι x y
theorem bp.nil(ι:cq):bp ι [] []:=⟨rfl,sp⟩
theorem bp.cons{ι:cq}{x:AV}{y:Value}{xs:eu}{g:List Value}(h:bG ι x y)(j:bp ι xs g):bp ι (x::xs) (y::g):=by
 refine⟨by simp[j.1],λi a b e f=>?_⟩;cases i with
 |zero=>simp at e f;subst e f;exact h
 |succ i=>simp at e f;exact j.2 i a b e f
theorem bp.inv{ι:cq}{x:AV}{xs:eu}{e:List Value}(h:bp ι (x::xs) e):∃y f,e=y::f/\bG ι x y/\bp ι xs f:=by
 cases e with
 |nil=>have:=h.1;simp at this
 |cons y e=>exact⟨y,e,rfl,h.2 0 x y rfl rfl,by have:=h.1;simpa using this,λi a b g j=>h.2 (i+1) a b (U7 g) (U7 j)⟩
theorem bp.rU{ι:cq}{a:List Value}(h:bp ι [] a):a=[]:=by
 have:=h.1;cases a<;>simp_all
theorem bp.append{ι:cq}{xs g:eu}{o j:List Value}(h:bp ι xs o)(h':bp ι g j):bp ι (xs++g) (o++j):=by
 refine⟨by simp[h.1,h'.1],λi a b m f=>?_⟩;rw[eI]at m f;rw[<-h.1]at f;split at m
 ·rename_i e;simp[e]at f;exact h.2 i a b m f
 ·rename_i e;simp[e]at f;exact h'.2 _ a b m f
theorem bp.get{ι:cq}{xs:eu}{b:List Value}(h:bp ι xs b){i:Nat}{x:AV}(e:xs[i]?=some x):∃y,b[i]?=some y/\bG ι x y:=by
 have hi:i<xs.length:=(aV.1 e).1;have a:i<b.length:=h.1▸hi;exact⟨b[i],by simp[a],h.2 i x _ e (by simp[a])⟩
theorem bp.take{ι:cq}{xs:eu}{j:List Value}(h:bp ι xs j)(n:Nat):bp ι (xs.take n) (j.take n):=by
 refine⟨by simp[h.1],λi a b e f=>?_⟩;rw[ja]at e f;split at e
 ·rename_i g;simp[g]at f;exact h.2 i a b e f
 ·simp at e
theorem bp.drop{ι:cq}{xs:eu}{e:List Value}(h:bp ι xs e)(n:Nat):bp ι (xs.drop n) (e.drop n):=by
 refine⟨by simp[h.1],λi a b f g=>?_⟩;rw[eM]at f g;exact h.2 _ a b f g
def cq.le(ι cW:cq):Prop:=∀i L,ι i=some L->cW i=some L
theorem cq.le.refl(ι:cq):ι.le ι:=λ_ _ h=>h
theorem cq.le.trans{a b c:cq}(h:a.le b)(h':b.le c):a.le c:=λi L hi=>h' i L (h i L hi)
theorem bG.mono{ι cW:cq}(hle:ι.le cW){v:AV}{g:Value}(h:bG ι v g):bG cW v g:=by
 induction h with
 |bool b=>exact .bool b
 |int k n=>exact .int k n
 |str l=>exact .str l
 |DO=>exact .DO
 |ptr h=>exact .ptr (hle _ _ h)
 |tD=>exact .tD
 |slice h i ht=>exact .slice (hle _ _ h) i ht
 |pc h ht=>exact .pc (hle _ _ h) ht
 |Bi=>exact .Bi
 |map h=>exact .map (hle _ _ h)
 |func f e _ a=>exact .func f e a
 |Cx h=>exact .Cx (hle _ _ h)
 |nilFunc=>exact .nilFunc
 |iface t _ a=>exact .iface t a
 |nilIface=>exact .nilIface
 |agg e _ a=>exact .agg e a
 |iO e _ a=>exact .iO e a
theorem bp.mono{ι cW:cq}(hle:ι.le cW){xs:eu}{a:List Value}(h:bp ι xs a):bp cW xs a:=
 ⟨h.1,λi x y b e=>(h.2 i x y b e).mono hle⟩
theorem bG.G7{ι:cq}{xs:eu}{cs:Array Value}(h:bp ι xs cs.toList):bG ι (.agg xs) (.agg cs):= .agg h.1 h.2
theorem bG.wu{ι:cq}{xs:eu}{v:Value}(h:bG ι (.agg xs) v):∃cs,v= .agg cs/\bp ι xs cs.toList:=by
 cases h with|agg a h=>exact⟨_,rfl,a,h⟩
theorem bG.Dx{ι:cq}{xs:eu}{cs:Array Value}(h:bp ι xs cs.toList):bG ι (.iO xs) (.tuple cs):= .iO h.1 h.2
theorem bG.AG{ι:cq}{xs:eu}{v:Value}(h:bG ι (.iO xs) v):∃cs,v= .tuple cs/\bp ι xs cs.toList:=by
 cases h with|iO a h=>exact⟨_,rfl,a,h⟩
theorem bG.undef(ι:cq):bG ι rp Go.undef:= .iO rfl sp
theorem bG.scalar{ι:cq}{v:AV}{a:Value}(h:bG ι v a):a.oneCell'=v.scalar:=by
 cases h<;>rfl
theorem bG.cells{ι:cq}{v:AV}{e:Value}(h:bG ι v e):bp ι v.cells e.cells.toList:=by
 cases h with
 |agg a h=>exact⟨a,h⟩
 |bool b=>exact bp.cons (.bool b) (bp.nil _)
 |int k n=>exact bp.cons (.int k n) (bp.nil _)
 |str l=>exact bp.cons (.str l) (bp.nil _)
 |DO=>exact bp.cons .DO (bp.nil _)
 |ptr h=>exact bp.cons (.ptr h) (bp.nil _)
 |tD=>exact bp.cons .tD (bp.nil _)
 |slice h g ht=>exact bp.cons (.slice h g ht) (bp.nil _)
 |pc h ht=>exact bp.cons (.pc h ht) (bp.nil _)
 |Bi=>exact bp.cons .Bi (bp.nil _)
 |map h=>exact bp.cons (.map h) (bp.nil _)
 |func f a h=>exact bp.cons (.func f a h) (bp.nil _)
 |Cx h=>exact bp.cons (.Cx h) (bp.nil _)
 |nilFunc=>exact bp.cons .nilFunc (bp.nil _)
 |iface t h=>exact bp.cons (.iface t h) (bp.nil _)
 |nilIface=>exact bp.cons .nilIface (bp.nil _)
 |iO a h=>exact bp.cons (.iO a h) (bp.nil _)
theorem wA(ι:cq){v:Value}{a:AV}(h:iF v=some a):bG ι a v:=by
 unfold iF at h;split at h<;>simp at h<;>subst h<;>constructor
theorem jf(ι:cq):∀{vs:List Value}{l:eu},xd vs=some l->bp ι l vs
 |[],l,h=>by simp[xd]at h;subst h;exact bp.nil _
 |v::r,l,h=>by
  simp only[xd]at h;split at h
  ·rename_i a b e f;simp at h;subst h;exact bp.cons (wA ι e) (jf ι f)
  ·simp at h
theorem KZ(ι:cq){v:Value}{a:AV}(h:Nz v=some a):bG ι a v:=by
 unfold Nz at h;split at h
 ·simp at h;obtain⟨l,b,rfl⟩:=h;exact .G7 (jf ι b)
 ·simp at h;obtain⟨l,b,rfl⟩:=h;exact .iface _ (wA ι b)
 ·exact wA ι h
def dK.gone:dK->Bool
 | .dead=>true
 |_=>false
def dK.owned:dK->Bool
 | .cells rw _ _=>rw
 | .dead=>false
 |_=>true
def cj(ι:cq)(rg:T AV)(tm:Array Value):Prop:=∀i x,rg.get i=some x->∃y,tm[i]?=some y/\bG ι x y
def vw(ι:cq)(o:dK)(L:Loc)(w:World):Prop:=
 match o with
 | .dead=>True
 | .cells rw es cs=>L.rw=rw/\L.es=es/\L.base+cs.length<=L.top/\∃c e f,w.heap[L.b]?=some (.cells c e f)/\(rw=true->f=(0,0)/\L.top=c.size)/\
  (∀(i:Nat)(x:AV),cs[i]?=some x->∃y:Value,c[L.base+i]?=some y/\bG ι x y)
 | .map gM=>∃es g,w.heap[L.b]?=some (.map es g)/\es.size=gM.length/\∀(i:Nat)(x:AV×AV)(y:MapEntry),gM[i]?=some x->es[i]?=some y->bG ι x.1 y.key/\bG ι x.2 y.val
 | .loop st a n rg ps ae b=>∃tm h fn,w.heap[L.b]?=some (.loop {state:=st,pending:=a,fn:=fn,tmps:=tm,params:=ps,assign:=ae,body:=b,defers:=h})/\cj ι rg tm/\tm.size=n
 | .qT=>w.heap[L.b]?=some (.deferred (some []))
class gJ where
 w:World
variable[gJ]
structure Qu(ι:cq)(h:ah)(w:World):Prop where
 size:gJ.w.heap.size<=w.heap.size
 old:∀b,b<gJ.w.heap.size->w.heap[b]?=gJ.w.heap[b]?
 os:w.os=gJ.w.os
 own:∀i L o,ι i=some L->h.get i=some o->o.owned=true->gJ.w.heap.size<=L.b
structure dt(ι:cq)(h:ah)(w:World):Prop where
 obj:∀i L,ι i=some L->∃o,h.get i=some o/\vw ι o L w
 Js:∀i j Li Lj oi oj,i≠j->ι i=some Li->ι j=some Lj->h.get i=some oi->h.get j=some oj->oi.owned=true->oj.gone=false->Li.b≠Lj.b
 lt:∀i L,ι i=some L->i<h.nx
 fresh:∀i,h.nx<=i->h.get i=none
 Kz:∀i L,ι i=some L->L.b<w.heap.size
 base:Qu ι h w
def Fa(ι:cq)(h:ah)(b:Nat):Prop:=∃i L o,ι i=some L/\h.get i=some o/\o.owned=true/\L.b=b
structure Ext(ι:cq)(h:ah)(w:World)(cW:cq)(h':ah)(w':World):Prop where
 rel:dt cW h' w'
 aH:∀i,i<h.nx->cW i=ι i
 same:∀i,i<h.nx->ι i=none->h'.get i=h.get i
 nx:h.nx<=h'.nx
 size:w.heap.size<=w'.heap.size
 frame:∀b,b<w.heap.size->¬Fa ι h b->w'.heap[b]?=w.heap[b]?/\¬Fa cW h' b
 os:w'.os=w.os
 tape:w'.tape=w.tape
 output:w'.output=w.output
 new:∀i L,cW i=some L->ι i=some L\/w.heap.size<=L.b\/Fa ι h L.b
theorem Ext.le{ι cW:cq}{h h':ah}{w w':World}(a:dt ι h w)(e:Ext ι h w cW h' w'):ι.le cW:=λi L hi=>by
 rw[e.aH i (a.lt i L hi)];exact hi
theorem Ext.refl{ι:cq}{h:ah}{w:World}(a:dt ι h w):Ext ι h w ι h w:=
 ⟨a,λ_ _=>rfl,λ_ _ _=>rfl,ao _,ao _,λ_ _ b=>⟨rfl,b⟩,rfl,rfl,rfl,λ_ _ hi=> .inl hi⟩
theorem Ext.trans{ι a f:cq}{h g j:ah}{w m o:World}(e:Ext ι h w a g m)(e':Ext a g m f j o):Ext ι h w f j o:=
 ⟨e'.rel,λi hi=>(e'.aH i (aq hi e.nx)).trans (e.aH i hi),
  λi hi t=>(e'.same i (aq hi e.nx) ((e.aH i hi).trans t)).trans (e.same i hi t),
  bh e.nx e'.nx,bh e.size e'.size,
  λb u t=>let ⟨p,v⟩:=e.frame b u t;let ⟨y,A⟩:=e'.frame b (aq u e.size) v;⟨y.trans p,A⟩,
  e'.os.trans e.os,e'.tape.trans e.tape,e'.output.trans e.output,
  λi L hi=>by
   rcases e'.new i L hi with p|p|p
   ·exact e.new i L p
   ·exact .inr (.inl (bh e.size p))
   ·by_cases B:w.heap.size<=L.b
    ·exact .inr (.inl B)
    ·by_cases ho:Fa ι h L.b
     ·exact .inr (.inr ho)
     ·exact absurd p (e.frame L.b om ho).2⟩
theorem cj.mono{ι cW:cq}(hle:ι.le cW){rg:T AV}{tm:Array Value}(h:cj ι rg tm):cj cW rg tm:=
 λi x a=>let ⟨y,b,hr⟩:=h i x a;⟨y,b,hr.mono hle⟩
theorem vw.mono{ι cW:cq}(hle:ι.le cW){o:dK}{L:Loc}{w:World}(h:vw ι o L w):vw cW o L w:=by
 cases o with
 |dead=>trivial
 |cells rw es cs=>
  obtain⟨f,g,a,c,e,t,u,v,A⟩:=h;exact⟨f,g,a,c,e,t,u,v,λi x j=>let ⟨y,m,hr⟩:=A i x j;⟨y,m,hr.mono hle⟩⟩
 |map gM=>
  obtain⟨es,B,f,g,a⟩:=h;exact⟨es,B,f,g,λi x y j m=>⟨(a i x y j m).1.mono hle,(a i x y j m).2.mono hle⟩⟩
 |loop st p fn rg ps ae b=>
  obtain⟨tm,C,fn,f,g,a⟩:=h;exact⟨tm,C,fn,f,g.mono hle,a⟩
 |qT=>exact h
theorem vw.block{ι:cq}{o:dK}{L:Loc}{w w':World}(h:vw ι o L w)(g:w'.heap[L.b]?=w.heap[L.b]?):vw ι o L w':=by
 cases o with
 |dead=>trivial
 |cells rw es cs=>
  obtain⟨a,f,j,c,e,m,p,t,u⟩:=h;exact⟨a,f,j,c,e,m,g.trans p,t,u⟩
 |map gM=>obtain⟨es,v,a,f⟩:=h;exact⟨es,v,g.trans a,f⟩
 |loop st i fn rg ps ae b=>obtain⟨tm,y,fn,a,f⟩:=h;exact⟨tm,y,fn,g.trans a,f⟩
 |qT=>exact g.trans h
theorem vw.lt{ι:cq}{o:dK}{L:Loc}{w:World}(h:vw ι o L w)(g:o.gone=false):L.b<w.heap.size:=by
 have key:∀{x:Obj},w.heap[L.b]?=some x->L.b<w.heap.size:=λi=>(bI.1 i).1;cases o with
 |dead=>simp[dK.gone]at g
 |cells rw es cs=>obtain⟨_,_,_,c,e,m,j,_⟩:=h;exact key j
 |map gM=>obtain⟨es,p,a,_⟩:=h;exact key a
 |loop st f fn rg ps ae b=>obtain⟨tm,t,fn,a,_⟩:=h;exact key a
 |qT=>exact key h
def cq.add(ι:cq)(i:Nat)(L:Loc):cq:=λk=>if k=i then some L else ι k
theorem cq.add_same(ι:cq)(i:Nat)(L:Loc):ι.add i L i=some L:=by simp[cq.add]
theorem cq.bV(ι:cq){i k:Nat}(L:Loc)(h:k≠i):ι.add i L k=ι k:=by simp[cq.add,h]
theorem dt.grow{ι:cq}{h:ah}{w w':World}(m:dt ι h w)(y:w.heap.size<=w'.heap.size)(hold:∀b,b<w.heap.size->w'.heap[b]?=w.heap[b]?)(B:w'.os=w.os)(ht:w'.tape=w.tape)(ho:w'.output=w.output)
 (o:dK) (L:Loc) (N:w.heap.size<=L.b) (J:L.b<w'.heap.size) (Q:vw (ι.add h.nx L) o L w'):
 Ext ι h w (ι.add h.nx L) (h.alloc o).2 w':=by
 have hle:ι.le (ι.add h.nx L):=λi f hi=>by
  rw[cq.bV];exact hi;have:=m.lt i f hi;omega
 refine⟨⟨?_,?_,?_,?_,λi f hi=>by
  by_cases e:i=h.nx
  ·subst e;rw[cq.add_same]at hi;cases hi;exact J
  ·rw[cq.bV _ _ e]at hi;exact aq (m.Kz i f hi) y,⟨bh m.base.size y,λb I=>(hold b (aq I m.base.size)).trans (m.base.old b I),B.trans m.base.os,λi f u hi a t=>by
  by_cases e:i=h.nx
  ·subst e;rw[cq.add_same]at hi;cases hi;exact bh m.base.size N
  ·rw[cq.bV _ _ e]at hi;simp[ah.cO,e]at a;exact m.base.own i f u hi a t⟩⟩,?_,?_,sp,y,?_,B,ht,ho,λi f hi=>by
  by_cases e:i=h.nx
  ·subst e;rw[cq.add_same]at hi;cases hi;exact .inr (.inl N)
  ·rw[cq.bV _ _ e]at hi;exact .inl hi⟩
 ·intro i f hi;by_cases e:i=h.nx
  ·subst e;rw[cq.add_same]at hi;cases hi;exact⟨o,by simp[ah.cO],Q⟩
  ·rw[cq.bV _ _ e]at hi;obtain⟨u,g,p⟩:=m.obj i f hi;refine⟨u,by simp[ah.cO,e,g],?_⟩;by_cases O:u.gone=true
   ·cases u<;>simp[dK.gone]at O;exact True.intro
   ·exact(p.mono hle).block (hold _ (p.lt (U7 O)))
 ·intro i j f P u R C hi A a v t D;by_cases e:i=h.nx
  ·subst e;rw[cq.add_same]at hi;cases hi;have F:j≠h.nx:=λe=>C e.symm;rw[cq.bV _ _ F]at A;simp[ah.cO,F]at v;obtain⟨S,g,p⟩:=m.obj j P A;rw[v]at g;cases g;have:=p.lt D;omega
  ·rw[cq.bV _ _ e]at hi;simp[ah.cO,e]at a;obtain⟨U,g,p⟩:=m.obj i f hi;rw[a]at g;cases g;by_cases e':j=h.nx
   ·subst e';rw[cq.add_same]at A;cases A;have:=p.lt (by cases u<;>simp_all[dK.owned,dK.gone]);omega
   ·rw[cq.bV _ _ e']at A;simp[ah.cO,e']at v;exact m.Js i j f P u R C hi A a v t D
 ·intro i f hi;by_cases e:i=h.nx
  ·subst e;simp
  ·rw[cq.bV _ _ e]at hi;have:=m.lt i f hi;simp;omega
 ·intro i hi;simp at hi;have:i≠h.nx:=by omega
  simp[ah.cO,this];exact m.fresh i om
 ·intro i hi;rw[cq.bV];omega
 ·intro i hi _;rw[ah.cO,ay om]
 ·intro b I V;refine⟨hold b I,?_⟩
  rintro⟨i,f,u,hi,a,t,K⟩
  by_cases e:i=h.nx
  ·subst e;rw[cq.add_same]at hi;cases hi;omega
  ·rw[cq.bV _ _ e]at hi;simp[ah.cO,e]at a;exact V ⟨i,f,u,hi,a,t,K⟩
theorem dt.alloc{ι:cq}{h:ah}{w w0:World}(f:dt ι h w)(a:w0.heap=w.heap)(e:w0.os=w.os)(ht:w0.tape=w.tape)(ho:w0.output=w.output)
 (o:dK) (x:Obj) (L:Loc) (g:L.b=w.heap.size) (i:vw (ι.add h.nx L) o L (w0.alloc x)):
 Ext ι h w (ι.add h.nx L) (h.alloc o).2 (w0.alloc x):=
 f.grow (w':=w0.alloc x) (by simp[World.alloc,a]) (λb j=>by rw[heap_alloc_old _ _ _ (by rw[a];exact j),a]) e ht ho o L om (by rw[g];simp[a]) i
theorem dt.Dz{ι:cq}{h:ah}{w w':World}(m:dt ι h w){i:Nat}{L:Loc}{o K:dK}(hi:ι i=some L)(ho:h.get i=some o)(p:o.owned=true)
 (W:vw ι K L w') (B:w'.heap.size=w.heap.size) (f:∀b,b≠L.b->w'.heap[b]?=w.heap[b]?) (C:w'.os=w.os) (ht:w'.tape=w.tape) (D:w'.output=w.output):
 Ext ι h w ι (h.set i K) w':=by
 have N:=m.base.own i L o hi ho p;refine⟨⟨?_,?_,?_,?_,λi Z hi=>by rw[B];exact m.Kz i Z hi,⟨by rw[B];exact m.base.size,λb Q=>(f b om).trans (m.base.old b Q),C.trans m.base.os,λk t ok a g y=>by
  by_cases e:k=i
  ·subst e;rw[hi]at a;cases a;exact N
  ·simp[ah.aM,e]at g;exact m.base.own k t ok a g y⟩⟩,λ_ _=>rfl,?_,ao _,om,?_,C,ht,D,λ_ _ hi=> .inl hi⟩
 ·intro k t a;by_cases e:k=i
  ·subst e;rw[hi]at a;cases a;exact⟨K,by simp[ah.aM],W⟩
  ·obtain⟨ok,R,h2⟩:=m.obj k t a;refine⟨ok,by simp[ah.aM,e,R],?_⟩;by_cases S:ok.gone=true
   ·cases ok<;>simp[dK.gone]at S;exact True.intro
   ·exact h2.block (f _ λO=>m.Js i k L t o ok (λe'=>e e'.symm) hi a ho R p (U7 S) O.symm)
 ·intro k j t U ok V u a J g v P F;by_cases e:k=i
  ·subst e;rw[hi]at a;cases a;have e':j≠k:=λe=>u e.symm;simp[ah.aM,e']at v;exact m.Js k j L U o V u hi J ho v p F
  ·simp[ah.aM,e]at g;by_cases e':j=i
   ·subst e';rw[hi]at J;cases J;exact λO=>m.Js j k L t o ok (λh=>u h.symm) hi a ho g p (by cases ok<;>simp_all[dK.owned,dK.gone]) O.symm
   ·simp[ah.aM,e']at v;exact m.Js k j t U ok V u a J g v P F
 ·intro k t a;exact m.lt k t a
 ·intro k a;rw[ah.aM,ay];exact m.fresh k a;have:=m.lt i L hi;have:h.nx<=k:=a;omega
 ·intro k a A;rw[ah.aM,ay];intro e;subst e;rw[hi]at A;cases A
 ·intro b Q A;refine⟨f b λe=>A ⟨i,L,o,hi,ho,p,e.symm⟩,?_⟩
  rintro⟨k,t,ok,a,g,y,I⟩
  by_cases e:k=i
  ·subst e;rw[hi]at a;cases a;exact A ⟨k,L,o,hi,ho,p,I⟩
  ·simp[ah.aM,e]at g;exact A ⟨k,t,ok,a,g,y,I⟩
end Go.Am
namespace Go.Am
section
variable[gJ]
def DP(P:Program):List Field->List (Nat×Nat)->Prop
 |[],[]=>True
 |f::fs,(o,k)::r=>f.name≠ "_" /\f.offset=o/\((k=0/\P.underlying f.type=some .bool)\/(k=1/\P.underlying f.type=some .string)\/(k=2/\∃q,P.underlying f.type=some (.int q)))/\DP P fs r
 |_,_=>False
def Ir(P:Program)(k:FuncId)(f:List AV->Option AV):Prop:=
 ∃fn e,P.funcs[k]?=some fn/\(fn.name== "runtime.NumGoroutine")=false/\fn.body=none/\Extern.findNext fn=none/\Extern.find fn=some e/\
  ∀{ι:cq}{args:List AV}{v:AV}{bO:Array Value}{w:World},f args=some v->bp ι args bO.toList->∃y,(e bO).run P w= .ok y w/\bG ι v y
structure Env.Ok(E:Env):Prop where
 ext:∀k f,E.ext k=some f->Ir E.P k f
 fn:∀k f,E.fn k=some f->E.P.funcs[k]?=some f/\(f.name== "runtime.NumGoroutine")=false
 nv:∀t d,E.nv t=some d->E.P.underlying t=some d
 siz:∀t n,E.siz t=some n->∃i,E.P.info? t=some i/\i.size=n
 byt:∀t n,E.byt t=some n->∃i,E.P.info? t=some i/\i.bytes<=n+1
 zer:∀t l,E.zer t=some l->∃i z,E.P.info? t=some i/\i.zero=some z/\xd z.cells.toList=some l/\(E.isAgg t=some true->∃cs,z= .agg cs)/\(E.isAgg t=some false->z.oneCell'=true)
 flat:∀t At,E.flat t=some At->∃fs,E.P.underlying t=some (.struct fs)/\E.P.stoodInHeld t=false/\E.P.eqGuardType E.P.depth t=false/\DP E.P fs.toList At
 mixed:E.P.follows .mixedOrders=true
variable{E:Env}{ι:cq}{h:ah}{w:World}{rg:T AV}{a:Act}
theorem bM(b:cj ι rg a.tmps){x:Operand}{v:AV}(h:lK rg x=some v):bG ι v (a.eval x):=by
 cases x with
 |tmp t=>
  obtain⟨y,e,hr⟩:=b t v h;simp only[Act.eval];rw[w8,e];exact hr
 |const c=>exact KZ ι h
 |global g=>simp[lK]at h
 |func f=>simp[lK]at h;subst h;exact .func f sp sp
theorem tA(e:cj ι rg a.tmps):∀{xs:List Operand}{vs:eu},qU rg xs=some vs->bp ι vs (xs.map a.eval)
 |[],vs,h=>by simp[qU]at h;subst h;exact bp.nil _
 |x::r,vs,h=>by
  simp only[qU]at h;split at h
  ·rename_i u us hu b;simp at h;subst h;exact bp.cons (bM e hu) (tA e b)
  ·simp at h
def j4(ι:cq)(h:ah)(w:World)(r:iB)(h':ah):Result Next->Prop
 | .ok (.value y) w'=>∃v cW,r= .val v/\bG cW v y/\Ext ι h w cW h' w'
 | .ok .skip w'=>∃cW,r= .skip/\Ext ι h w cW h' w'
 | .ok (.enter f args) w'=>∃ae,r= .enter f ae/\bp ι ae args.toList/\w'=w/\h'=h
 | .ok (.round l f tmps ae b) w'=>∃id args L st pd n g ps tm i vs,r= .yield id args/\ι id=some L/\h.get id=some (.loop st pd n g ps ae b)/\
  w.heap[L.b]?=some (.loop {state:=st,pending:=pd,fn:=f,tmps:=tm,params:=ps,assign:=ae,body:=b,defers:=i})/\cj ι g tm/\bp ι args vs/\
  l=L.b/\vs.length=ps.size/\tmps=(ps.zip vs.toArray).foldl (λt x=>t.setIfInBounds x.1 x.2) tm/\w'=w/\h'=h
 | .ok (.defer d) w'=>∃f ae cap e,r= .defer f ae/\d={target:= .fn (.func f) cap,args:=e}/\bp ι ae (e.toList++cap.toList)/\w'=w/\h'=h
 | .ok .recover w'=>r= .recover/\w'=w/\h'=h
 | .halt (.panic v) w'=>∃x,r= .panic x/\bG ι x v/\w'=w/\h'=h
 |_=>False
theorem j4.val{r:Result Next}{h':ah}{v:AV}{y:Value}{w':World}{cW:cq}(hr:r= .ok (.value y) w')(b:bG cW v y)(he:Ext ι h w cW h' w'):j4 ι h w (.val v) h' r:=by
 subst hr;exact⟨v,cW,rfl,b,he⟩
theorem j4.pure(b:dt ι h w){r:Result Next}{v:AV}{y:Value}(hr:r= .ok (.value y) w)(e:bG ι v y):j4 ι h w (.val v) h r:=
 .val hr e (Ext.refl b)
def iQ(ι:cq)(h:ah)(w:World)(r:iB)(h':ah)(res:Result Next):Prop:=
 ∃v y,r= .val v/\h'=h/\res= .ok (.value y) w/\bG ι v y
theorem iQ.pure(e:dt ι h w){r:Result Next}{v:AV}{y:Value}(hr:r= .ok (.value y) w)(b:bG ι v y):iQ ι h w (.val v) h r:=⟨v,y,rfl,rfl,hr,b⟩
theorem iQ.post(b:dt ι h w){r:iB}{h':ah}{res:Result Next}(e:iQ ι h w r h' res):j4 ι h w r h' res:=by
 obtain⟨v,y,rfl,rfl,hr,f⟩:=e;exact .pure b hr f
theorem dt.cells(j:dt ι h w){i:Nat}{L:Loc}{rw:Bool}{es:Nat}{cs:eu}(hi:ι i=some L)(ho:h.get i=some (.cells rw es cs)):
 L.rw=rw/\L.es=es/\L.base+cs.length<=L.top/\∃c e f,w.heap[L.b]?=some (.cells c e f)/\(rw=true->f=(0,0)/\L.top=c.size)/\
  (∀(i:Nat)(x:AV),cs[i]?=some x->∃y:Value,c[L.base+i]?=some y/\bG ι x y):=by
 obtain⟨o,g,m⟩:=j.obj i L hi;rw[ho]at g;cases g;exact m
theorem addr_add(b o n:Nat):(⟨b,o,none⟩:Addr).add n=⟨b,o+n,none⟩:=by
 unfold Addr.add;split<;>simp_all
theorem zZ(g:dt ι h w){i off:Nat}{L:Loc}{v:AV}(hi:ι i=some L)(f:h.xc i off=some v):
 ∃y,w.cell? ⟨L.b,L.base+off,none⟩=some y/\bG ι v y:=by
 unfold ah.xc at f;split at f
 ·rename_i rw es cs ho;obtain⟨_,_,_,c,e,p,j,_,m⟩:=g.cells hi ho;obtain⟨y,o,hr⟩:=m off v f;exact⟨y,by simp[World.cell?,j,o],hr⟩
 ·simp at f
theorem mc(B:dt ι h w){i off n:Nat}{L:Loc}{vs:eu}(hi:ι i=some L)(f:h.loadCells i off n=some vs):
 vs.length=n/\∃t:List Value,bp ι vs t/\∀j v,t[j]?=some v->w.cell? ((⟨L.b,L.base+off,none⟩:Addr).add j)=some v:=by
 unfold ah.loadCells at f;split at f
 ·rename_i rw es cs ho;split at f
  ·rename_i hlen;simp at f;subst f;obtain⟨_,_,_,c,e,F,C,_,u⟩:=B.cells hi ho;have D:((cs.drop off).take n).length=n:=IN;refine⟨D,(List.range n).map (λj=>c[L.base+off+j]?.getD default),⟨IN,?_⟩,?_⟩
   ·intro j x y g A;rw[ja]at g;split at g
    ·rename_i o;rw[eM]at g;simp[o]at A;obtain⟨z,m,hr⟩:=u _ x g;rw[<-A,<-Nat.add_assoc]at*;simpa[m]using hr
    ·simp at g
   ·intro j v p;have o:j<n:=by
     have:=(aV.1 p).1;simpa using this
    simp[o]at p;have:off+j<cs.length:=om;obtain⟨z,m,hr⟩:=u (off+j) cs[off+j] (by simp[this]);rw[<-Nat.add_assoc]at m;rw[addr_add,<-p];simp[World.cell?,C,m]
  ·simp at f
 ·simp at f
theorem tF(S:dt ι h w){i off:Nat}{L:Loc}{vs:eu}{g:List Value}{h':ah}(hi:ι i=some L)(m:h.storeCells i off vs=some h')(F:bp ι vs g)(P:Program):
 ∃w',(storeCells ⟨L.b,L.base+off,none⟩ g).run P w= .ok () w'/\Ext ι h w ι h' w':=by
 unfold ah.storeCells at m;split at m
 ·rename_i es cs ho;split at m
  ·rename_i W;obtain⟨hlen,t⟩:=W;simp at m;subst m;obtain⟨I,J,U,c,e,fz,V,K,u⟩:=S.cells hi ho;obtain⟨rfl,N⟩:=K rfl;have Z:∀v∈g,v.oneCell'=true:=by
    intro v O;obtain⟨j,A,rfl⟩:=gh O;have B:j<vs.length:=(by rw[F.1];exact A);rw[(F.2 j vs[j] g[j] (by simp[B]) (by simp[A])).scalar];exact(cL.1 t) _ (bk B)
   have A1:g.length=vs.length:=F.1.symm;have C:=run_storeCells_at P L.b (L.base+off) e g 0 c w V om Z;simp only[mr]at C;refine⟨_,C,?_⟩;refine S.Dz hi ho rfl ?_ ?_ ?_ rfl rfl rfl
   ·refine⟨I,J,?_,(c.toList.take (L.base+off)++g++c.toList.drop (L.base+off+g.length)).toArray,e,(0,0),setRow_heap w L.b c _ e _ V,?_,?_⟩
    ·simp;omega
    ·intro _;refine⟨rfl,?_⟩;simp;omega
    ·intro j x f;simp only[List.getElem?_toArray];rw[eI]at f;simp only[bR]at f;have D:min off cs.length=off:=om;rw[D]at f;rw[aU,eI];have o:(List.take (L.base+off) c.toList).length=L.base+off:=IN;rw[o];split at f
     ·rename_i A;rw[ja,aY A]at f;obtain⟨y,p,hr⟩:=u j x f;rw[aY om,ja,aY om];exact⟨y,U7 p,hr⟩
     ·rename_i A;rw[ay om,eI];rw[eI]at f;split at f
      ·rename_i Q;rw[aY om];obtain⟨y,p,hr⟩:=F.get f;exact⟨y,by rw[<-p];congr 1;omega,hr⟩
      ·rename_i Q;rw[ay om,eM];rw[eM]at f;obtain⟨y,p,hr⟩:=u _ x f;refine⟨y,?_,hr⟩;rw[<-Array.getElem?_toList]at p;rw[<-p];congr 1;omega
   ·simp[World.setRow]
   ·intro b R;simp only[World.setRow,gL];rw[ay (λe=>R e.symm)]
  ·simp at m
 ·simp at m
end
section
variable[gJ]
variable{E:Env}{ι:cq}{h:ah}{w:World}{rg:T AV}{a:Act}
theorem ew(b:E.Ok){t:TypeId}{n:Nat}(e:E.siz t=some n)(w:World):(sizeOf t).run E.P w= .ok n w:=by
 obtain⟨i,hi,f⟩:=b.siz t n e;simp[sizeOf,typeInfo,hi,f]
theorem cg(b:E.Ok){t:TypeId}{d:TypeDesc}(e:E.nv t=some d)(w:World):(underlying t).run E.P w= .ok d w:=
 run_underlying (b.nv t d e) w
theorem qF(i:E.Ok){t:TypeId}{b:Bool}(g:E.isAgg t=some b)(w:World):(isAgg t).run E.P w= .ok b w:=by
 unfold Env.isAgg at g;unfold Go.isAgg;split at g<;>simp at g<;>subst g
 ·rename_i fs f;simp[cg i f]
 ·rename_i n e f;simp[cg i f]
 ·rename_i d j m f;rw[Sem.run_bind,cg i f];cases d<;>simp_all
theorem nD(e:E.Ok){t:TypeId}{l:eu}(b:E.zer t=some l)(w:World):∃z,(zeroValue t).run E.P w= .ok z w/\xd z.cells.toList=some l/\
 (E.isAgg t=some true->∃cs,z= .agg cs)/\(E.isAgg t=some false->z.oneCell'=true):=by
 obtain⟨i,z,hi,b,f,g,j⟩:=e.zer t l b;exact⟨z,by simp[zeroValue,typeInfo,hi,b],f,g,j⟩
theorem DB:∀{vs:List Value}{l:eu},xd vs=some l->l.length=vs.length:=λb=>(jf (λ_=>none) b).1
theorem tB(f:dt ι h w){w0:World}(g:w0.heap=w.heap)(b:w0.os=w.os)(ht:w0.tape=w.tape)(ho:w0.output=w.output)
 (rw:Bool) (es:Nat) {cs:eu} {c:Array Value} (e:TypeId) (j:∀(i:Nat)(x:AV),cs[i]?=some x->∃y:Value,c[i]?=some y/\bG ι x y) (m:cs.length<=c.size):
 Ext ι h w (ι.add h.nx ⟨w.heap.size,0,c.size,es,rw⟩) (h.alloc (.cells rw es cs)).2 (w0.alloc (.cells c e)):=by
 have hle:ι.le (ι.add h.nx ⟨w.heap.size,0,c.size,es,rw⟩):=λi o hi=>by
  rw[cq.bV];exact hi;have:=f.lt i o hi;omega
 refine f.alloc g b ht ho _ _ _ rfl ⟨rfl,rfl,U7 m,c,e,(0,0),?_,λ_=>⟨rfl,rfl⟩,λi x p=>?_⟩
 ·rw[<-g];exact heap_alloc_new w0 _
 ·obtain⟨y,t,hr⟩:=j i x p;exact⟨y,U7 t,hr.mono hle⟩
theorem mz{xs:eu}{c:Array Value}(b:bp ι xs c.toList):(∀(i:Nat)(x:AV),xs[i]?=some x->∃y:Value,c[i]?=some y/\bG ι x y)/\xs.length<=c.size:=
 ⟨λi x e=>let ⟨y,f,hr⟩:=b.get e;⟨y,U7 f,hr⟩,by have:=b.1;simp at this;omega⟩
theorem bG.new{ι:cq}{n:Nat}{L:Loc}:bG (ι.add n L) (.ptr (some (n,0))) (.pointer (some ⟨L.b,L.base,none⟩)):=
 .ptr (off:=0) (cq.add_same ι n L)
theorem ru{place:Nat->Option (Nat×Nat)}:∀{ps:List (Nat×AV)}{qs:List (Nat×Value)}{cs:eu}{c:Array Value}{f:eu},
 (∀(i:Nat) x y,ps[i]?=some x->qs[i]?=some y->x.1=y.1/\bG ι x.2 y.2)->ps.length=qs.length->bp ι cs c.toList->x8 place cs ps=some f->
 ∃A,Instr.fill place c qs=some A/\bp ι f A.toList
 |[],[],cs,c,f,_,_,m,g=>by simp[x8]at g;subst g;exact⟨c,rfl,m⟩
 |(i,v)::ps,(j,u)::qs,cs,c,f,B,o,m,g=>by
  obtain⟨C,D⟩:=B 0 _ _ rfl rfl;simp only at C D;subst C;simp only[x8]at g;simp only[Instr.fill];cases p:place i with
  |none=>simp[p]at g
  |some os=>
   obtain⟨off,size⟩:=os;simp only[p]at g⊢;split at g
   ·rename_i J;obtain⟨hlen,F,K⟩:=J;have b:=D.cells;have t:u.cells.size=size:=(by have:=b.1;simp at this;omega);have N:c.size=cs.length:=(by have:=m.1;simp at this;omega);rw[ay IN];refine ru (λk x y O P=>B (k+1) x y (U7 O) (U7 P)) (U7 o) ?_ g;have key:(u.cells.zipIdx.foldl (λcs x=>cs.setIfInBounds (off+x.2) x.1) c).toList=c.toList.take off++u.cells.toList++c.toList.drop (off+size):=by
     have gen:∀(l:List Value)(k:Nat)(c:Array Value),off+k+l.length<=c.size->
      ((l.zipIdx k).foldl (λcs x=>cs.setIfInBounds (off+x.2) x.1) c).toList=c.toList.take (off+k)++l++c.toList.drop (off+k+l.length):=by
      intro l;induction l with
      |nil=>intro k c _;simp
      |cons x l Q=>
       intro k c I;simp only[List.zipIdx_cons,jt];rw[Q (k+1) _ (by simp at I⊢;omega)];have e:=list_seg_step c.toList (off+k) x l (by simp at I⊢;omega);simpa[Array.toList_setIfInBounds,fq]using e
     have:=gen u.cells.toList 0 c IN;rw[<-Array.foldl_toList,Array.toList_zipIdx];simpa[t]using this
    show bp ι _ ((u.cells.zipIdx.foldl (λcs x=>cs.setIfInBounds (off+x.2) x.1) c).toList);rw[key];exact((m.take off).append b).append (m.drop _)
   ·simp at g
 |[],_::_,_,_,_,_,o,_,_=>by simp at o
 |_::_,[],_,_,_,_,o,_,_=>by simp at o
theorem py(g:cj ι rg a.tmps):∀{xs:List (Nat×Operand)}{ps:List (Nat×AV)},oS rg xs=some ps->
 ps.length=xs.length/\∀(i:Nat) x y,ps[i]?=some x->(xs.map λ(p:Nat×Operand)=>(p.1,a.eval p.2))[i]?=some y->x.1=y.1/\bG ι x.2 y.2
 |[],ps,h=>by simp[oS]at h;subst h;simp
 |(k,x)::r,ps,h=>by
  simp only[oS]at h;split at h
  ·rename_i u us hu b;simp at h;subst h;obtain⟨j,m⟩:=py g b;refine⟨by simp[j],λi x y e f=>?_⟩;cases i with
   |zero=>simp at e f;subst e;subst f;exact⟨rfl,bM g hu⟩
   |succ i=>exact m i x y (U7 e) (U7 f)
  ·simp at h
theorem Bs(b:E.Ok)(w:World):∀{fs:List Field}{pl:List (Nat×Nat)},rR E fs=some pl->
 (fs.mapM λ(f:Field)=>(do pure (f.offset,<-sizeOf f.type):Sem (Nat×Nat))).run E.P w= .ok pl w
 |[],pl,h=>by simp[rR]at h;subst h;simp
 |f::r,pl,h=>by
  simp only[rR]at h;split at h
  ·rename_i s l g i;simp at h;subst h;have e:=Bs b w i;simp at e;simp[ew b g,e]
  ·simp at h
theorem Fl(b:E.Ok)(w:World){fs:Array Field}{pl:List (Nat×Nat)}(e:rR E fs.toList=some pl):
 (fs.mapM λ(f:Field)=>(do pure (f.offset,<-sizeOf f.type):Sem (Nat×Nat))).run E.P w= .ok pl.toArray w:=by
 rw[Array.mapM_eq_mapM_toList,Sem.run_map,Bs b w e];rfl
end
section
variable[gJ]
variable{E:Env}{ι:cq}{h h':ah}{w:World}{rg:T AV}{a:Act}{o:Oper}{r:iB}
theorem AH(f:cj ι rg a.tmps)(g:dt ι h w){x:Operand}(ho:o.op= .move x\/o.op= .assign x)(b:eQ E rg h o=some (r,h')):
 iQ ι h w r h' ((execOp a.eval o).run E.P w):=by
 have e:(execOp a.eval o).run E.P w= .ok (.value (a.eval x)) w:=by rcases ho with ho|ho<;>simp[execOp,ho]
 have:eQ E rg h o=match lK rg x with|some v=>some (.val v,h)|none=>none:=by rcases ho with ho|ho<;>simp only[eQ,ET,ho]<;>rfl
 rw[this]at b;split at b
 ·rename_i v i;simp at b;obtain⟨rfl,rfl⟩:=b;exact .pure g e (bM f i)
 ·simp at b
theorem Ij(g:cj ι rg a.tmps)(m:dt ι h w){c x y:Operand}(ho:o.op= .pick c x y)(b:eQ E rg h o=some (r,h')):
 iQ ι h w r h' ((execOp a.eval o).run E.P w):=by
 simp only[eQ,EU,ho]at b;split at b
 ·rename_i i;have f:=bM g i;cases e:a.eval c<;>rw[e]at f<;>cases f;split at b
  ·rename_i v j;simp at b;obtain⟨rfl,rfl⟩:=b;exact .pure m (by simp[execOp,ho,e,asBool]) (bM g j)
  ·simp at b
 ·rename_i i;have f:=bM g i;cases e:a.eval c<;>rw[e]at f<;>cases f;split at b
  ·rename_i v j;simp at b;obtain⟨rfl,rfl⟩:=b;exact .pure m (by simp[execOp,ho,e,asBool]) (bM g j)
  ·simp at b
 ·simp at b
theorem KI(g:E.Ok)(i:dt ι h w){t:TypeId}(ho:o.op= .alloc t)(b:eQ E rg h o=some (r,h')):
 j4 ι h w r h' ((execOp a.eval o).run E.P w):=by
 simp only[eQ,yY,ho]at b;split at b
 ·rename_i cs j;simp at b;obtain⟨rfl,rfl⟩:=b;obtain⟨z,e,f,_,_⟩:=nD g j w;obtain⟨m,p⟩:=mz (jf ι f);exact .val (by simp[execOp,ho,Instr.alloc,e,newVar,newRow]) bG.new (tB i rfl rfl rfl rfl true 0 t m p)
 ·simp at b
theorem Qk(m:E.Ok)(e:cj ι rg a.tmps)(f:dt ι h w){t:TypeId}{x:Operand}(ho:o.op= .box t x)(b:eQ E rg h o=some (r,h')):
 j4 ι h w r h' ((execOp a.eval o).run E.P w):=by
 simp only[eQ,Jr,ho]at b;split at b
 ·rename_i v g;split at b
  ·simp at b;obtain⟨rfl,rfl⟩:=b;obtain⟨i,j⟩:=mz (bM e g).cells;exact .val (by simp[execOp,ho,Instr.box,newVar,newRow]) bG.new (tB f rfl rfl rfl rfl true 0 t i j)
  ·simp at b
 ·simp at b
theorem E1(u:E.Ok)(I:cj ι rg a.tmps)(J:dt ι h w){t:TypeId}{parts:Array (Nat×Operand)}(ho:o.op= .build t parts)(b:eQ E rg h o=some (r,h')):
 iQ ι h w r h' ((execOp a.eval o).run E.P w):=by
 simp only[eQ,Bb,ho]at b;split at b
 ·rename_i z fs ps v hu f;split at b
  ·rename_i pl A;split at b
   ·rename_i cs B;simp at b;obtain⟨rfl,rfl⟩:=b;obtain⟨K,g,i,_,_⟩:=nD u v w;obtain⟨C,D⟩:=py I f;obtain⟨F,j,m⟩:=ru (ι:=ι) (qs:=parts.toList.map λ(p:Nat×Operand)=>(p.1,a.eval p.2)) D (U7 C) (jf ι i) B;have N:=Fl u w A;refine .pure J (y:= .agg F) ?_ (.G7 m);simp only[execOp,ho,Instr.build,Sem.run_bind,g,Result.andThen_ok,cg u hu,N];simp[j]
   ·simp at b
  ·simp at b
 ·rename_i z n e ps v hu f;split at b
  ·rename_i s O;split at b
   ·rename_i cs B;simp at b;obtain⟨rfl,rfl⟩:=b;obtain⟨K,g,i,_,_⟩:=nD u v w;obtain⟨C,D⟩:=py I f;obtain⟨F,j,m⟩:=ru (ι:=ι) (qs:=parts.toList.map λ(p:Nat×Operand)=>(p.1,a.eval p.2)) D (U7 C) (jf ι i) B;refine .pure J (y:= .agg F) ?_ (.G7 m);simp only[execOp,ho,Instr.build,Sem.run_bind,g,Result.andThen_ok,cg u hu,ew u O];simp[j]
   ·simp at b
  ·simp at b
 ·simp at b
end
section
variable[gJ]
variable{E:Env}{ι:cq}{h h':ah}{w:World}{rg:T AV}{a:Act}{o:Oper}{r:iB}
theorem bG.j7{i off:Nat}{v:Value}(h:bG ι (.ptr (some (i,off))) v):∃L,ι i=some L/\v= .pointer (some ⟨L.b,L.base+off,none⟩):=by
 cases h with|ptr h=>exact⟨_,h,rfl⟩
theorem lY{z:Array Value}{e:eu}{len s:Nat}(t:bp ι e z.toList)(m:e.length=s+1):
 bp ι (List.replicate len e).flatten ((Array.range (len*(s+1))).map (λi=>z[i%z.size]!)).toList:=by
 have f:z.size=s+1:=by have:=t.1;simp at this;omega
 refine⟨by simp[m],λi x y v j=>?_⟩;have key:∀(len i:Nat)(x:AV),((List.replicate len e).flatten)[i]?=some x->e[i%(s+1)]?=some x/\i<len*(s+1):=by
  intro len;induction len with
  |zero=>intro i x h;simp at h
  |succ n A=>
   intro i x h;rw[List.replicate_succ,iK,eI]at h;split at h
   ·rename_i b;rw[m]at b;refine⟨by rw[Nat.mod_eq_of_lt b];exact h,?_⟩;have:s+1<=(n+1)*(s+1):=Nat.le_mul_of_pos_left _ om;omega
   ·rename_i b;rw[m]at b h;obtain⟨p,u⟩:=A _ _ h;have g:i%(s+1)=(i-(s+1))%(s+1):=by
     conv=>lhs;rw[show i=(i-(s+1))+(s+1)from by omega]
     rw[Nat.add_mod_right]
    refine⟨by rw[g];exact p,?_⟩;rw[Nat.add_mul];omega
 obtain⟨p,u⟩:=key _ _ _ v;rw[Array.toList_map,bt]at j;simp[u]at j;have hm:i%(s+1)<s+1:=Nat.mod_lt _ om;rw[f]at j;refine t.2 _ _ _ p ?_;rw[<-j];simp[f,hm,getElem!_pos]
theorem Bv(f:Value×Nat->Nat)(g:Value×Nat->Value):∀(l:List (Value×Nat))(c:Array Value),(l.foldl (λcs x=>cs.setIfInBounds (f x) (g x)) c).size=c.size
 |[],c=>rfl
 |x::l,c=>by simp only[jt];rw[Bv f g l];simp
theorem zg(place:Nat->Option (Nat×Nat)):∀(qs:List (Nat×Value)){c b:Array Value},Instr.fill place c qs=some b->b.size=c.size
 |[],c,b,h=>by simp[Instr.fill]at h;rw[h]
 |(j,u)::qs,c,b,h=>by
  simp only[Instr.fill]at h;split at h
  ·simp at h
  ·split at h
   ·simp at h
   ·rw[zg place qs h,<-Array.foldl_toList];exact Bv _ _ _ _
theorem Cb(u:E.Ok)(Q:cj ι rg a.tmps)(R:dt ι h w){t:TypeId}{len:Nat}{parts:Array (Nat×Operand)}(ho:o.op= .buildSlice t len parts)(b:eQ E rg h o=some (r,h')):
 j4 ι h w r h' ((execOp a.eval o).run E.P w):=by
 simp only[eQ,my,ho]at b;split at b
 ·rename_i e ps hu v;split at b
  ·rename_i s z S U;split at b
   ·rename_i V;obtain⟨hlen,W,A⟩:=V;split at b
    ·rename_i cs Z;simp at b;obtain⟨rfl,rfl⟩:=b;obtain⟨O,B,C,_,_⟩:=nD u U w;obtain⟨h1,h2⟩:=py Q v;have g:=jf ι C;have j:=lY (len:=len) g A;obtain⟨m,f,D⟩:=ru (ι:=ι) (qs:=parts.toList.map λ(p:Nat×Operand)=>(p.1,a.eval p.2)) h2 (U7 h1) j Z;obtain⟨F,I⟩:=mz D;have J:m.size=len*(s+1):=by
      rw[zg _ _ f];simp
     have hle:len*(s+1)<=16777216:=by
      have:len*(s+1)<=1000*1001:=sY hlen om;omega
     refine .val (y:= .slice (some ⟨w.heap.size,0,none⟩) len len) (w':=w.alloc (.cells m e)) (cW:=ι.add h.nx ⟨w.heap.size,0,m.size,s+1,true⟩) ?_ ?_ (tB R rfl rfl rfl rfl true (s+1) e F I)
     ·have hn:¬(16777216<len*(s+1)):=om;simp only[execOp,ho,Instr.buildSlice,Sem.run_bind,cg u hu,Result.andThen_ok,ew u S];by_cases h0:len*(s+1)=0
      ·have K:len=0:=by
        rcases Nat.mul_eq_zero.1 h0 with h|h<;>omega
       subst K;have e1:(Array.range (0*(s+1))).map (λi=>O.cells[i%O.cells.size]!)= #[]:=sp;rw[e1]at f;have N:Instr.fill (λi=>some (i*(s+1),s+1)) #[] (parts.toList.map λ(p:Nat×Operand)=>(p.1,a.eval p.2))=some m:=f;have e2:Array.map (λ_:Nat=>(default:Value)) (Array.range 0)= #[]:=(by apply iJ;simp[xT]);simp[N,newRow,e2]
      ·simp[hn,h0,B,f,newRow]
     ·refine .slice (off:=0) (L:=⟨w.heap.size,0,m.size,s+1,true⟩) (cq.add_same _ _ _) (ao _) (λ_ _=>?_);simp[J]
    ·simp at b
   ·simp at b
  ·simp at b
 ·simp at b
theorem Il(m:E.Ok)(J:cj ι rg a.tmps)(j:dt ι h w){t:TypeId}{x:Operand}(ho:o.op= .load t x)(b:eQ E rg h o=some (r,h')):
 iQ ι h w r h' ((execOp a.eval o).run E.P w):=by
 simp only[eQ,Cz,ho]at b;split at b
 ·rename_i i off K;obtain⟨L,C,D⟩:=(bM J K).j7;split at b
  ·rename_i n f F;split at b
   ·rename_i cs p;simp at b;obtain⟨rfl,rfl⟩:=b;obtain⟨N,u,e,g⟩:=mc j C p;have I:=run_loadCells_list (P:=E.P) w _ u g;have A:u.length=n:=(by rw[<-e.1];exact N);rw[A]at I;refine .pure j (y:= .agg u.toArray) ?_ (.G7 (U7 e));simp[execOp,ho,D,Instr.loadAt,Instr.sureAddr,loadVar,qF m f,ew m F,I]
   ·simp at b
  ·rename_i n f F;split at b
   ·rename_i v B;simp at b;obtain⟨rfl,rfl⟩:=b;obtain⟨y,O,hr⟩:=zZ j C B;refine .pure j (y:=y) ?_ hr;simp[execOp,ho,D,Instr.loadAt,Instr.sureAddr,loadVar,qF m f,O]
   ·simp at b
  ·simp at b
 ·simp at b
theorem KJ(A:E.Ok)(p:cj ι rg a.tmps)(B:dt ι h w){t:TypeId}{x y:Operand}(ho:o.op= .store t x y)(b:eQ E rg h o=some (r,h')):
 j4 ι h w r h' ((execOp a.eval o).run E.P w):=by
 simp only[eQ,Bc,ho]at b;split at b
 ·rename_i i off v C f;obtain⟨L,D,F⟩:=(bM p C).j7;split at b
  ·rename_i I;split at b
   ·rename_i J g;simp at b;obtain⟨rfl,rfl⟩:=b;have u:=(bM p f).cells;obtain⟨w',j,he⟩:=tF B D g u E.P;have m:(a.eval y).cells.size=v.cells.length:=(by have:=u.1;simp at this;omega);have e:(execOp a.eval o).run E.P w= .ok .skip w':=by
     simp[execOp,ho,F,Instr.storeAt,Instr.sureAddr,storeVar,ew A I.symm,m,j]
    rw[e];exact⟨ι,rfl,he⟩
   ·simp at b
  ·simp at b
 ·simp at b
theorem zY(g:cj ι rg a.tmps)(i:dt ι h w){x:Operand}(ho:o.op= .nilCheck x)(b:eQ E rg h o=some (r,h')):
 iQ ι h w r h' ((execOp a.eval o).run E.P w):=by
 simp only[eQ,ti,ho]at b;split at b
 ·rename_i p e;simp at b;obtain⟨rfl,rfl⟩:=b;obtain⟨L,m,j⟩:=(bM g e).j7;refine .pure i (y:=a.eval x) ?_ (bM g e);simp[execOp,ho,j]
 ·rename_i f cs e;simp at b;obtain⟨rfl,rfl⟩:=b;have hr:=bM g e;refine .pure i (y:=a.eval x) ?_ hr;cases he:a.eval x<;>rw[he]at hr<;>cases hr;simp[execOp,ho,he]
 ·rename_i l e;simp at b;obtain⟨rfl,rfl⟩:=b;have hr:=bM g e;refine .pure i (y:=a.eval x) ?_ hr;cases he:a.eval x<;>rw[he]at hr<;>cases hr;simp[execOp,ho,he]
 ·simp at b
end
section
variable[gJ]
variable{E:Env}{ι:cq}{h h':ah}{w:World}{rg:T AV}{a:Act}{o:Oper}{r:iB}
theorem rh{s:Sem Value}{v:AV}(b:cm s=some v)(ι:cq)(P:Program)(w:World):∃y,s.run P w= .ok y w/\bG ι v y:=by
 unfold cm at b;split at b
 ·rename_i y;exact⟨y,rfl,wA ι b⟩
 ·simp at b
theorem qv(l:bu):(⟨l.toArray⟩:ByteArray).toList=l:=by
 rw[ByteArray.toList_eq]
theorem Hk{P:Program}{k:Nat}{x y:AV}{u v:Value}{b:Bool}(g:bG ι x u)(i:bG ι y v)(he:Dt k x y=some b){t:TypeId}(d:Nat)(w:World)
 (ht:(k=0/\P.underlying t=some .bool)\/(k=1/\P.underlying t=some .string)\/(k=2/\∃q,P.underlying t=some (.int q))):
 (Op.equalIn (d+1) t u v).run P w= .ok b w:=by
 unfold Dt at he;split at he
 ·rename_i c f;cases g;cases i;simp at he;subst he;exact run_equalIn_bool (P:=P) w d t c f (U7 ht)
 ·rename_i c f;cases g;cases i;simp at he;subst he;have:=run_equalIn_string (P:=P) w d t ⟨c.toArray⟩ ⟨f.toArray⟩ (U7 ht);rw[qv,qv]at this;exact this
 ·rename_i j c p f;cases g;cases i;obtain⟨q,m⟩:∃q,P.underlying t=some (.int q):=by simpa using ht
  split at he
  ·rename_i e;subst e;simp at he;subst he;exact run_equalIn_int (P:=P) w d t j q c f m
  ·simp at he
 ·simp at he
theorem Bw{P:Program}{k:Nat}{t:TypeId}(w:World)
 (ht:(k=0/\P.underlying t=some .bool)\/(k=1/\P.underlying t=some .string)\/(k=2/\∃q,P.underlying t=some (.int q))):(Go.isAgg t).run P w= .ok false w:=by
 rcases ht with⟨_,h⟩|⟨_,h⟩|⟨_,q,h⟩<;>simp[Go.isAgg,run_underlying h]
theorem Bx{P:Program}(d:Nat)(w:World){xs A:eu}{us vs:Array Value}(B:bp ι xs us.toList)(C:bp ι A vs.toList):
 ∀(fs:List Field)(At:List (Nat×Nat))(b:Bool),DP P fs At->A8 xs A At=some b->(Op.eqFields (d+1) us vs fs).run P w= .ok b w
 |[],[],b,_,he=>by simp[A8]at he;subst he;simp[Op.eqFields]
 |f::fs,(o,k)::r,b,e,he=>by
  obtain⟨D,rfl,g,hr⟩:=e;simp only[A8]at he;split at he
  ·rename_i x y i j;obtain⟨u,hu,m⟩:=B.get i;obtain⟨v,F,p⟩:=C.get j;have pu:(part f.type us f.offset).run P w= .ok u w:=(by simp[part,Bw w g,<-Array.getElem?_toList,hu]);have pv:(part f.type vs f.offset).run P w= .ok v w:=(by simp[part,Bw w g,<-Array.getElem?_toList,F]);cases t:Dt k x y with
   |none=>simp[t]at he
   |some c=>
    have I:=Hk m p t d w g;simp only[t]at he;simp only[Op.eqFields,D,ne_eq,td,kh,Sem.run_bind,pu,Result.andThen_ok,pv,I];cases c
    ·simp at he;subst he;simp
    ·simp only[Bool.not_true,dN,eY];exact Bx d w B C fs r b hr he
  ·simp at he
 |[],_::_,_,e,_=>e.elim
 |_::_,[],_,e,_=>e.elim
theorem CC(P:Program)(A:dt ι h w){p q:Nat×Nat}{f i:Loc}{b:Bool}(v:ι p.1=some f)(y:ι q.1=some i)(he:uM h p q=some b):
 (sameAddr ⟨f.b,f.base+p.2,none⟩ ⟨i.b,i.base+q.2,none⟩).run P w= .ok b w:=by
 unfold uM at he;split at he
 ·rename_i J K N O Q R j m;split at he
  ·rename_i e;simp at he;subst he;rw[e]at v;rw[v]at y;cases y;by_cases I:p.2=q.2
   ·simp[sameAddr,I]
   ·have:¬(f.base+p.2=f.base+q.2):=om;have S:(({block:=f.b,off:=f.base+p.2}:Addr)=={block:=f.b,off:=f.base+q.2})=false:=by
     rw[az];intro e;injection e with _ e2;omega
    simp[sameAddr,S,I]
  ·rename_i e;split at he
   ·rename_i g;simp at he;subst he;obtain⟨_,_,_,c1,e1,U,t,B,_⟩:=A.cells v j;obtain⟨_,_,_,c2,e2,V,u,C,_⟩:=A.cells y m;have D:f.b≠i.b:=by
     simp at g;exact A.Js p.1 q.1 f i _ _ e v y j m (by simp[dK.owned,g.1]) rfl
    simp at g;obtain⟨rfl,rfl⟩:=g;obtain⟨rfl,_⟩:=B rfl;obtain⟨rfl,_⟩:=C rfl;have s1:w.shape? f.b=some (e1,c1.size):=(by simp[World.shape?,t]);have s2:w.shape? i.b=some (e2,c2.size):=(by simp[World.shape?,u]);have f1:∀k,w.frozen? ⟨f.b,k,none⟩=false:=λk=>by simp[World.frozen?,t]
    have f2:∀k,w.frozen? ⟨i.b,k,none⟩=false:=λk=>by simp[World.frozen?,u]
    have F:(f.b==i.b)=false:=(U7 D);simp[sameAddr,F,f1,f2,noView,viewAt,s1,s2,mayBeOne,stringish]
   ·simp at he
 ·simp at he
end
section
variable[gJ]
variable{E:Env}{ι:cq}{h h':ah}{w:World}{rg:T AV}{a:Act}{o:Oper}{r:iB}
theorem JI(j:E.Ok)(N:dt ι h w){t:TypeId}{c:Bool}{x y:AV}{u v:Value}{b:Bool}(g:bG ι x u)(i:bG ι y v)(he:ER E h t c x y=some b)(d:Nat):
 (Op.equalIn (d+1+1) t u v).run E.P w= .ok b w:=by
 unfold ER at he;split at he
 ·rename_i p q;split at he
  ·rename_i hu;simp at he;subst he;cases g;cases i;exact run_equalIn_bool (P:=E.P) w _ t p q (j.nv t _ hu)
  ·simp at he
 ·rename_i p q;split at he
  ·rename_i e hu;have f:=cg j hu w;split at he
   ·simp at he;subst he;cases g;cases i;rw[Op.equalIn];simp[f]
   ·simp at he;subst he;cases g;cases i;rw[Op.equalIn];simp[f]
   ·simp at he;subst he;cases g;cases i;rw[Op.equalIn];simp[f]
   ·rename_i p q;split at he
    ·rename_i n O;obtain⟨Q,m,rfl⟩:=g.j7;obtain⟨R,A,rfl⟩:=i.j7;have B:=ew j O w;rw[Op.equalIn];simp[f,B,CC E.P N m A he]
    ·simp at he
  ·simp at he
 ·split at he
  ·rename_i ms hu;split at he
   ·simp at he;subst he;cases g;cases i;rw[Op.equalIn];simp[cg j hu]
   ·simp at he
  ·simp at he
 ·split at he
  ·rename_i ms hu;simp at he;subst he;cases g;cases i;rw[Op.equalIn];simp[cg j hu]
  ·simp at he
 ·split at he
  ·rename_i ms hu;simp at he;subst he;cases g;cases i;rw[Op.equalIn];simp[cg j hu]
  ·simp at he
 ·split at he
  ·rename_i ms hu;simp at he;subst he;cases i;cases g<;>(rw[Op.equalIn];simp[cg j hu])
  ·simp at he
 ·split at he
  ·rename_i ms hu;simp at he;subst he;cases i;cases g<;>(rw[Op.equalIn];simp[cg j hu])
  ·simp at he
 ·rename_i xs S;split at he
  ·rename_i At C;obtain⟨us,rfl,D⟩:=g.wu;obtain⟨vs,rfl,F⟩:=i.wu;obtain⟨fs,hu,I,heq,J⟩:=j.flat t At C;have K:E.P.fieldsOf t=fs:=(by simp[Program.fieldsOf,hu]);have f:E.P.underlying t=some (.struct (E.P.fieldsOf t)):=(by rw[K];exact hu);rw[run_equalIn_struct w (d+1) t us vs f I,K];exact Bx d w D F _ _ _ J he
  ·simp at he
 ·simp at he
theorem Ix(e:E.Ok)(f:dt ι h w){t:TypeId}{c:Bool}{x y:AV}{u v:Value}{b:Bool}(g:bG ι x u)(i:bG ι y v)(he:ER E h t c x y=some b):
 (Op.equal t u v).run E.P w= .ok b w:=JI e f g i he 9998
theorem Ad(j:E.Ok){t:TypeId}{op:BinOp}(e:op= .eql\/op= .neq){x y:Operand}{p q:AV}{u v:Value}{b:Bool}(f:bG ι p u)(g:bG ι q v)
 (he:ER E h t (th x||th y) p q=some b) (w:World):(eqGuard op t x y u v).run E.P w= .ok () w:=by
 unfold ER at he;split at he
 ·cases f;cases g;rcases e with rfl|rfl<;>simp[eqGuard]
 ·cases f<;>cases g<;>rcases e with rfl|rfl<;>simp[eqGuard]
 ·split at he
  ·split at he
   ·rename_i D;cases f;cases g;rcases e with rfl|rfl<;>cases x<;>cases y<;>simp_all[th,eqGuard]
   ·simp at he
  ·simp at he
 ·cases f;cases g;rcases e with rfl|rfl<;>simp[eqGuard]
 ·cases f;cases g;rcases e with rfl|rfl<;>simp[eqGuard]
 ·cases g;cases f<;>rcases e with rfl|rfl<;>simp[eqGuard]
 ·cases g;cases f<;>rcases e with rfl|rfl<;>simp[eqGuard]
 ·split at he
  ·rename_i At i;obtain⟨us,rfl,m⟩:=f.wu;obtain⟨vs,rfl,A⟩:=g.wu;obtain⟨fs,hu,B,heq,C⟩:=j.flat t At i;rcases e with rfl|rfl<;>simp[eqGuard,heq]
  ·simp at he
 ·simp at he
theorem binOp_eql(g:E.Ok)(t:TypeId){c:Bool}{p q:AV}{u v:Value}{b:Bool}(e:bG ι p u)(f:bG ι q v)(he:ER E h t c p q=some b):
 Go.binOp .eql t u v=(do pure (.bool (<-Op.equal t u v)):Sem Value)/\Go.binOp .neq t u v=(do pure (.bool (!(<-Op.equal t u v))):Sem Value):=by
 unfold ER at he;split at he
 ·cases e;cases f;exact⟨rfl,rfl⟩
 ·cases e<;>cases f<;>exact⟨rfl,rfl⟩
 ·cases e;cases f;exact⟨rfl,rfl⟩
 ·cases e;cases f;exact⟨rfl,rfl⟩
 ·cases e;cases f;exact⟨rfl,rfl⟩
 ·cases e<;>cases f<;>exact⟨rfl,rfl⟩
 ·cases e<;>cases f<;>exact⟨rfl,rfl⟩
 ·cases e;cases f;exact⟨rfl,rfl⟩
 ·simp at he
theorem E2(I:E.Ok)(Q:cj ι rg a.tmps)(C:dt ι h w){op:BinOp}{t S:TypeId}{x y:Operand}(ho:o.op= .binOp op t x y S)(j:eQ E rg h o=some (r,h')):
 iQ ι h w r h' ((execOp a.eval o).run E.P w):=by
 simp only[eQ,yZ,ho]at j;split at j
 ·rename_i p q U V;split at j
  ·rename_i z i;simp at j;obtain⟨rfl,rfl⟩:=j;have f:=bM Q U;have g:=bM Q V;have e:(execOp a.eval o).run E.P w=((eqGuard op t x y (a.eval x) (a.eval y)).run E.P w).andThen λ_ w'=>((Go.binOp op t (a.eval x) (a.eval y)).run E.P w').andThen λv K=> .ok (.value v) K:=by
    simp only[execOp,ho,Sem.run_bind];cases(eqGuard op t x y (a.eval x) (a.eval y)).run E.P w<;>simp
   unfold ES at i;split at i
   ·rename_i k c R m;obtain⟨v,W,hr⟩:=rh i ι E.P w;have D:a.eval x= .int k c:=(by cases u:a.eval x<;>rw[u]at f<;>cases f;rfl);have F:a.eval y= .int R m:=(by cases u:a.eval y<;>rw[u]at g<;>cases g;rfl);have N:(eqGuard op t x y (.int k c) (.int R m)).run E.P w= .ok () w:=by
     unfold eqGuard;cases op<;>simp
    exact .pure C (y:=v) (by rw[e,D,F,N];simp[W]) hr
   ·rename_i c m;have D:a.eval x= .string ⟨c.toArray⟩:=(by cases u:a.eval x<;>rw[u]at f<;>cases f;rfl);have F:a.eval y= .string ⟨m.toArray⟩:=(by cases u:a.eval y<;>rw[u]at g<;>cases g;rfl);have N:(eqGuard op t x y (.string ⟨c.toArray⟩) (.string ⟨m.toArray⟩)).run E.P w= .ok () w:=by
     unfold eqGuard;cases op<;>simp
    have A:∀B,Go.binOp B t (.string ⟨c.toArray⟩) (.string ⟨m.toArray⟩)=Op.stringOp B ⟨c.toArray⟩ ⟨m.toArray⟩:=λB=>by cases B<;>rfl
    have J:(⟨c.toArray⟩:ByteArray)++⟨m.toArray⟩=⟨(c++m).toArray⟩:=by
     apply ByteArray.ext;simp
    rw[D,F,N,A]at e;split at i
    ·split at i
     ·rename_i hlen;simp at i;subst i;refine .pure C (y:= .string ⟨(c++m).toArray⟩) ?_ (.str _);have s1:({data:=c.toArray}:ByteArray).size=c.length:=(by simp[ByteArray.size]);have s2:({data:=m.toArray}:ByteArray).size=m.length:=(by simp[ByteArray.size]);have hm:IntKind.i64.max=9223372036854775807:=(by rfl);have Z:¬((((({data:=c.toArray}:ByteArray).size+({data:=m.toArray}:ByteArray).size:Nat)):Int)>IntKind.i64.max):=by
       rw[s1,s2,hm];omega
      rw[e];simp only[Result.andThen_ok,Op.stringOp,ay Z,J,Sem.run_pure]
     ·simp at i
    all_goals first|(simp at i;done)|skip
    all_goals
     simp at i;subst i;exact .pure C (by rw[e];simp[Op.stringOp]) (.bool _)
   ·split at i
    ·rw[Option.map_eq_some_iff]at i;obtain⟨b,A,rfl⟩:=i;have u:=Ix I C f g A;have O:=Ad I (op:= .eql) (.inl rfl) f g A w;exact .pure C (by rw[e,O,(binOp_eql I t f g A).1];simp[u]) (.bool b)
    ·rw[Option.map_eq_some_iff]at i;obtain⟨b,A,rfl⟩:=i;have u:=Ix I C f g A;have O:=Ad I (op:= .neq) (.inr rfl) f g A w;exact .pure C (by rw[e,O,(binOp_eql I t f g A).2];simp[u]) (.bool (!b))
    ·simp at i
  ·simp at j
 ·simp at j
end
section
variable[gJ]
variable{E:Env}{ι:cq}{h h':ah}{w:World}{rg:T AV}{a:Act}{o:Oper}{r:iB}
theorem bG.iG{k:IntKind}{n:Int}{v:Value}(h:bG ι (.int k n) v):v= .int k n:=by cases h;rfl
theorem bG.lR{b:Bool}{v:Value}(h:bG ι (.bool b) v):v= .bool b:=by cases h;rfl
theorem bG.lX{s:bu}{v:Value}(h:bG ι (.str s) v):v= .string ⟨s.toArray⟩:=by cases h;rfl
theorem Ii(j:cj ι rg a.tmps)(i:dt ι h w){op:UnOp}{t:TypeId}{x:Operand}(ho:o.op= .unOp op t x)(b:eQ E rg h o=some (r,h')):
 iQ ι h w r h' ((execOp a.eval o).run E.P w):=by
 simp only[eQ,EV,ho]at b;split at b
 ·rename_i p m;split at b
  ·rename_i z e;simp at b;obtain⟨rfl,rfl⟩:=b;have f:=bM j m;unfold TK at e;split at e
   ·obtain⟨v,g,hr⟩:=rh e ι E.P w;exact .pure i (y:=v) (by simp[execOp,ho,f.iG,g]) hr
   ·obtain⟨v,g,hr⟩:=rh e ι E.P w;exact .pure i (y:=v) (by simp[execOp,ho,f.lR,g]) hr
   ·simp at e
  ·simp at b
 ·simp at b
theorem tz(e:E.Ok)(f:cj ι rg a.tmps)(g:dt ι h w){t:TypeId}{x:Operand}(ho:o.op= .makeInterface t x)(b:eQ E rg h o=some (r,h')):
 iQ ι h w r h' ((execOp a.eval o).run E.P w):=by
 simp only[eQ,ko,ho]at b;split at b
 ·simp at b
 ·rename_i d v m hu i;simp at b;obtain⟨rfl,rfl⟩:=b;have j:E.P.concrete t=true:=by
   unfold Program.concrete;rw[e.nv t _ hu];cases d<;>simp_all
  exact .pure g (y:= .iface t (a.eval x)) (by simp[execOp,ho,run_makeInterface w t _ j]) (.iface t (bM f i))
 ·simp at b
theorem zV(i:cj ι rg a.tmps)(j:dt ι h w){fn:Fn}{first lQ:Array Operand}(ho:o.op= .makeFunc fn first lQ)(b:eQ E rg h o=some (r,h')):
 iQ ι h w r h' ((execOp a.eval o).run E.P w):=by
 cases fn with
 |func f=>
  simp only[eQ,tj,ho]at b;split at b
  ·rename_i cs m e;simp at b;obtain⟨rfl,rfl⟩:=b;have g:first= #[]:=by cases first;simp_all
   subst g;have hr:=tA i e;refine .pure j (y:= .func (.func f) #[] (lQ.map a.eval)) (by simp[execOp,ho,Instr.makeFunc]) (.func f ?_ ?_)
   ·simpa using hr.1
   ·simpa using hr.2
  ·simp at b
 |_=>simp[eQ,ho]at b
theorem G1(e:dt ι h w){t:TypeId}{x:Option Operand}(ho:o.op= .makeMap t x)(b:eQ E rg h o=some (r,h')):
 j4 ι h w r h' ((execOp a.eval o).run E.P w):=by
 cases x with
 |none=>
  simp only[eQ,tw,ho]at b;simp at b;obtain⟨rfl,rfl⟩:=b;refine .val (y:= .map (some w.heap.size)) (w':=w.alloc (.map #[] 0)) (cW:=ι.add h.nx ⟨w.heap.size,0,0,0,true⟩) (by simp[execOp,ho,Instr.makeMap]) (.map (L:=⟨w.heap.size,0,0,0,true⟩) (cq.add_same _ _ _)) ?_;exact e.alloc rfl rfl rfl rfl _ _ _ rfl ⟨#[],0,heap_alloc_new w _,rfl,sp⟩
 |some x=>simp[eQ,ho]at b
theorem G6(t:E.Ok)(F:cj ι rg a.tmps)(I:dt ι h w){s d:TypeId}{x:Operand}(ho:o.op= .convert s d x)(f:eQ E rg h o=some (r,h')):
 j4 ι h w r h' ((execOp a.eval o).run E.P w):=by
 simp only[eQ,nC,ho]at f;split at f
 ·rename_i Z k q n A B m;split at f
  ·rename_i v S;simp at f;obtain⟨rfl,rfl⟩:=f;obtain⟨y,U,hr⟩:=rh S ι E.P w;refine .pure I (y:=y) ?_ hr;have g:=(bM F m).iG;simp[execOp,ho,g,convert,cg t A,cg t B,U]
  ·simp at f
 ·rename_i l A B m;simp at f;obtain⟨rfl,rfl⟩:=f;have g:=(bM F m).lX;refine .pure I (y:=a.eval x) ?_ (bM F m);simp[execOp,ho,g,convert,cg t A,cg t B]
 ·rename_i e l A B m;split at f
  ·rename_i he;split at f
   ·simp at f
   ·simp at f;obtain⟨rfl,rfl⟩:=f;have g:=(bM F m).lX;have K:({data:=l.toArray}:ByteArray).size=l.length:=(by simp[ByteArray.size]);obtain⟨cap,p,u⟩:∃cap,l.length<=cap/\(choose (.appendCap ({data:=l.toArray}:ByteArray).size 0 e)).run E.P w= .ok cap w.drew:=
     ⟨grownCap w ({data:=l.toArray}:ByteArray).size 0 e,by have:=grownCap_ge w ({data:=l.toArray}:ByteArray).size 0 e;omega,by simp[Question.forced,grownCap]⟩
    obtain⟨c,N⟩:∃c:Array Value,c=(l.toArray.map λb=>Value.int .u8 b.toNat)++Array.replicate (cap-l.length) (.int .u8 0):=⟨_,rfl⟩
    have O:c.size=cap:=(by rw[N];simp;omega);have j:(w.drew.alloc (.cells c e)).heap[w.heap.size]?=some (.cells c e):=heap_alloc_new w.drew _;have Q:(w.drew.alloc (.cells c e)).shape? w.heap.size=some (e,c.size):=(by simp only[World.shape?,j]);have C:(execOp a.eval o).run E.P w= .ok (.value (.slice (some ⟨w.heap.size,0,none⟩) l.length cap)) ((w.drew.alloc (.cells c e)).freeze ⟨w.heap.size,c.size,none⟩ 1):=by
     have hm:(markStringish ⟨w.heap.size,0,none⟩).run E.P (w.drew.alloc (.cells c e))= .ok () ((w.drew.alloc (.cells c e)).freeze ⟨w.heap.size,c.size,none⟩ 1):=by
      simp only[markStringish,Sem.run_bind,run_shape,Q,Result.andThen_ok,run_freeze]
     have V:(newRow e c).run E.P w.drew= .ok ⟨w.heap.size,0,none⟩ (w.drew.alloc (.cells c e)):=rfl;have R:(Conv.stringToBytes e ⟨l.toArray⟩).run E.P w= .ok (.slice (some ⟨w.heap.size,0,none⟩) l.length cap) ((w.drew.alloc (.cells c e)).freeze ⟨w.heap.size,c.size,none⟩ 1):=by
      simp only[Conv.stringToBytes,Sem.run_bind,u,Result.andThen_ok];rw[K,<-N];simp only[V,Result.andThen_ok,hm,Sem.run_pure]
     simp[execOp,ho,g,convert,cg t A,cg t B,cg t he,R]
    have D:((w.drew.alloc (.cells c e)).freeze ⟨w.heap.size,c.size,none⟩ 1).heap[w.heap.size]?=some (.cells c e (c.size,c.size+1)):=by
     simp only[World.freeze];rw[ay om];simp only[gL];rw[aY trivial,j];rfl
    have hold:∀b,b<w.heap.size->((w.drew.alloc (.cells c e)).freeze ⟨w.heap.size,c.size,none⟩ 1).heap[b]?=w.heap[b]?:=by
     intro b J;have:w.heap.size≠b:=om;simp[World.freeze,gL,this];exact heap_alloc_old w.drew _ b J
    have hle:ι.le (ι.add h.nx ⟨w.heap.size,0,c.size,1,false⟩):=λi W hi=>by
     rw[cq.bV];exact hi;have:=I.lt i W hi;omega
    refine .val C (cW:=ι.add h.nx ⟨w.heap.size,0,c.size,1,false⟩) (.slice (off:=0) (L:=⟨w.heap.size,0,c.size,1,false⟩) (cq.add_same _ _ _) p sp) ?_;refine I.grow (by simp only[World.freeze];rw[ay om];simp only[Array.size_modify];exact Nat.le_of_lt (bI.1 j).1) hold (by rfl) (by rfl) (by rfl) _ _ (ao _) (bI.1 D).1 ⟨rfl,rfl,by simp[O,p],c,e,_,D,sp,?_⟩;intro i x m;simp at m;obtain⟨b,J,rfl⟩:=m;have hi:i<l.length:=(aV.1 J).1;refine⟨.int .u8 b.toNat,?_,.int _ _⟩;obtain⟨_,rfl⟩:=aV.1 J;rw[N];simp[hi,Array.getElem?_append]
  ·simp at f
 ·simp at f
theorem xv{v:AV}{u:Value}{y n:Nat}(P:Program)(e:bG ι v u)(b:A9 v y=some n)(m:Nat)(hm:y<=m)(code:BoundsCode)(w:World):
 (Instr.sliceBound u m code).run P w= .ok n w/\n<=y:=by
 unfold A9 at b;split at b
 ·rename_i k i;split at b
  ·rename_i f;simp at b;subst b;rw[e.iG];refine⟨?_,om⟩;have:0<=i/\i<=(m:Int):=⟨f.1,om⟩
   simp[Instr.sliceBound,asIntOf,this]
  ·simp at b
 ·simp at b
theorem oZ(f:cj ι rg a.tmps)(P:Program){len cap:Nat}{lo hi:Option Operand}{l r:Nat}(b:kO rg len len lo hi=some (l,r))(p:len<=cap)(isSlice:Bool)(w:World):
 (Instr.sliceBounds isSlice len cap (lo.map a.eval) (hi.map a.eval) none).run P w= .ok (l,r,cap) w/\l<=r/\r<=len:=by
 unfold kO at b;cases hi with
 |none=>
  simp only at b;cases lo with
  |none=>
   simp at b;obtain⟨rfl,rfl⟩:=b;exact⟨by simp[Instr.sliceBounds],om,om⟩
  |some y=>
   simp only at b;split at b
   ·rename_i v e;split at b
    ·rename_i l' g;simp at b;obtain⟨rfl,rfl⟩:=b;obtain⟨i,j⟩:=xv P (bM f e) g len (ao _) .sliceB w;exact⟨by simp[Instr.sliceBounds,i],j,om⟩
    ·simp at b
   ·simp at b
 |some x=>
  simp only at b;split at b
  ·simp at b
  ·rename_i t hr;split at hr
   ·rename_i v e;obtain⟨m,u⟩:=xv P (bM f e) hr cap p (if isSlice then .sliceAcap else .sliceAlen) w;cases lo with
    |none=>
     simp at b;obtain⟨rfl,rfl⟩:=b;exact⟨by simp[Instr.sliceBounds,m],om,om⟩
    |some y=>
     simp only at b;split at b
     ·rename_i v e;split at b
      ·rename_i l' g;simp at b;obtain⟨rfl,rfl⟩:=b;obtain⟨i,j⟩:=xv P (bM f e) g t (ao _) .sliceB w;exact⟨by simp[Instr.sliceBounds,m,i],j,om⟩
      ·simp at b
     ·simp at b
   ·simp at hr
end
section
variable[gJ]
variable{E:Env}{ι:cq}{h h':ah}{w:World}{rg:T AV}{a:Act}{o:Oper}{r:iB}
theorem Dv(C:E.Ok)(U:cj ι rg a.tmps)(hH:dt ι h w){t:TypeId}{x y:Operand}(ho:o.op= .makeSlice t x y)(g:eQ E rg h o=some (r,h')):
 j4 ι h w r h' ((execOp a.eval o).run E.P w):=by
 simp only[eQ,mf,ho]at g;split at g
 ·rename_i e n n' hu hx hy;split at g
  ·rename_i s b z hs hb hz;split at g
   ·rename_i hc;obtain⟨rfl,h0,j,F⟩:=hc;simp at g;obtain⟨rfl,rfl⟩:=g;obtain⟨V,I,J,_,_⟩:=nD C hz w;obtain⟨i,hi,K⟩:=C.byt e b hb;obtain⟨i',p,N⟩:=C.siz e _ hs;rw[hi]at p;cases p;have m:=jf ι J;have u:=lY (len:=n.toNat) m F;obtain⟨O,Q⟩:=mz u;have R:=(bM U hx).iG;have S:=(bM U hy).iG;have D:n.toNat<=roomy:=bh (Nat.le_mul_of_pos_right _ om) j;have hr:roomy=1073741824:=rfl;have hw:IntKind.i64.wrap n=n:=by
     have W:n=(n.toNat:Int):=om;rw[IntKind.wrap_i64];omega
    have A1:(i.bytes:Int)*n<=1073741824:=by
     have W:i.bytes*n.toNat<=(b+1)*n.toNat:=iw _ K;rw[Nat.mul_comm (b+1)]at W;have h2:i.bytes*n.toNat<=1073741824:=om;have h3:(n.toNat:Int)=n:=om;have Z:((i.bytes*n.toNat:Nat):Int)<=((1073741824:Nat):Int):=Int.ofNat_le.2 h2;rw[Int.natCast_mul,h3]at Z;exact Z
    refine .val (y:= .slice (some ⟨w.heap.size,0,none⟩) n.toNat n.toNat) (w':=w.alloc (.cells ((Array.range (n.toNat*(s+1))).map (λi=>V.cells[i%V.cells.size]!)) e))
     (cW:=ι.add h.nx ⟨w.heap.size,0,_,s+1,true⟩) ?_ ?_ (tB hH rfl rfl rfl rfl true (s+1) e O Q)
    ·have v:¬(n<0):=om;have A:¬(281474976710656<(i.bytes:Int)*n):=om;simp only[execOp,ho,R,S,Instr.makeSlice,Sem.run_bind,cg C hu,Result.andThen_ok,asInt,asIntOf,Sem.run_pure,typeInfo,run_program,hi,hw];by_cases B:n.toNat*(s+1)=0
     ·have hn:n.toNat=0:=by
       rcases Nat.mul_eq_zero.1 B with h|h<;>omega
      have e2:∀f:Nat->Value,Array.map f (Array.range 0)= #[]:=λf=>by apply iJ;simp[xT]
      simp[v,A,sizeOf,typeInfo,hi,hn,newRow,e2]
     ·simp[v,A,sizeOf,typeInfo,hi,N,B,I,newRow]
    ·refine .slice (off:=0) (L:=⟨w.heap.size,0,_,s+1,true⟩) (cq.add_same _ _ _) (ao _) (λ_ _=>?_);simp
   ·simp at g
  ·simp at g
 ·simp at g
theorem bG.wo{i off len:Nat}{v:Value}(h:bG ι (.slice (some (i,off)) len) v):
 (∃L cap,ι i=some L/\len<=cap/\(L.rw=true->0<L.es->L.base+off+cap*L.es=L.top)/\v= .slice (some ⟨L.b,L.base+off,none⟩) len cap)\/
 (∃L a,ι i=some L/\(L.rw=true->0<L.es->L.base+off=L.top)/\len=0/\v= .slice (some a) 0 0):=by
 cases h with
 |slice h e ht=>exact .inl ⟨_,_,h,e,ht,rfl⟩
 |pc h ht=>exact .inr ⟨_,_,h,ht,rfl,rfl⟩
theorem bG.xg{len:Nat}{v:Value}(h:bG ι (.slice none len) v):len=0/\v= .slice none 0 0:=by
 cases h;exact⟨rfl,rfl⟩
theorem EW(D:E.Ok)(F:cj ι rg a.tmps)(N:dt ι h w){t:TypeId}{x:Operand}{lo hi mx:Option Operand}(ho:o.op= .slice t x lo hi mx)(f:eQ E rg h o=some (r,h')):
 iQ ι h w r h' ((execOp a.eval o).run E.P w):=by
 cases mx with
 |some m=>simp[eQ,ho]at f
 |none=>
  simp only[eQ,za,ho]at f;split at f
  ·rename_i s hu R;split at f
   ·rename_i l B O;simp at f;obtain⟨rfl,rfl⟩:=f;have Z:=(bM F R).lX;have A1:({data:=s.toArray}:ByteArray).size=s.length:=(by simp[ByteArray.size]);obtain⟨g,u,W⟩:=oZ F E.P O (ao _) false w;refine .pure N (y:= .string ⟨((s.take B).drop l).toArray⟩) ?_ (.str _);have S:({data:=s.toArray}:ByteArray).extract l B=⟨((s.take B).drop l).toArray⟩:=by
     apply ByteArray.ext;rw[ByteArray.data_extract];apply iJ;simp[List.extract_eq_take_drop,List.drop_take]
    simp[execOp,ho,Z,Instr.sliceAt,Instr.slice,cg D hu,A1,g,S]
   ·simp at f
  ·rename_i e p len hu R;split at f
   ·rename_i s l B U O;split at f
    ·rename_i i off;split at f
     ·rename_i rw es cs Q;split at f
      ·rename_i j;simp at f;obtain⟨rfl,rfl⟩:=f;rcases(bM F R).wo with⟨L,cap,I,hc,ht,v⟩|⟨L,ad,I,ht,rfl,v⟩
       ·obtain⟨g,u,W⟩:=oZ F E.P O hc true w;obtain⟨J,K,_,_⟩:=N.cells I Q;refine .pure N (y:= .slice (some (if cap=l then⟨L.b,L.base+off,none⟩else(⟨L.b,L.base+off,none⟩:Addr).add (l*(s+1)))) (B-l) (cap-l)) ?_ ?_
        ·simp only[execOp,ho,v,Instr.sliceAt,Sem.run_bind,cg D hu,Result.andThen_ok,Option.map_none,Instr.slice,g,ew D U,Sem.run_pure];split<;>simp_all
        ·by_cases A:cap=l
         ·rw[aY A];have e1:B-l=0:=om;have e2:cap-l=0:=om;rw[e1,e2];refine .pc I λg u=>?_;have C:L.es=s+1:=by
           rw[J]at g;subst g;rw[K]at u⊢;simp at j;omega
          have:=ht g u;rw[C,A]at this;omega
         ·rw[ay A,addr_add,fq];refine .slice I om λg u=>?_;have C:L.es=s+1:=by
           rw[J]at g;subst g;rw[K]at u⊢;simp at j;omega
          have:=ht g u;rw[C]at this⊢;have hm:cap*(s+1)=l*(s+1)+(cap-l)*(s+1):=(by rw[<-Nat.add_mul];congr 1;omega);omega
       ·obtain⟨g,u,W⟩:=oZ F E.P O (ao 0) true w;have e1:l=0:=om;have e2:B=0:=om;subst e1;subst e2;refine .pure N (y:= .slice (some ad) 0 0) ?_ (by simpa using bG.pc (a:=ad) I ht);simp[execOp,ho,v,Instr.sliceAt,cg D hu,Instr.slice,g,ew D U]
      ·simp at f
     ·simp at f
    ·simp at f;obtain⟨rfl,rfl⟩:=f;obtain⟨rfl,v⟩:=(bM F R).xg;obtain⟨g,u,W⟩:=oZ F E.P O (ao 0) true w;have e1:l=0:=om;have e2:B=0:=om;subst e1;subst e2;refine .pure N (y:= .slice none 0 0) ?_ .tD;simp[execOp,ho,v,Instr.sliceAt,cg D hu,Instr.slice,g,ew D U]
   ·simp at f
  ·rename_i n e i off hu R;split at f
   ·rename_i s l B rw es cs U O Q;split at f
    ·rename_i j;simp at f;obtain⟨rfl,rfl⟩:=f;obtain⟨L,I,v⟩:=(bM F R).j7;obtain⟨J,K,_,_⟩:=N.cells I Q;obtain⟨g,u,W⟩:=oZ F E.P O (ao n) false w;have V:L.rw=true->0<L.es->False:=by
      rw[J,K];intro g u;simp[g]at j;omega
     refine .pure N (y:= .slice (some (if n=l then⟨L.b,L.base+off,none⟩else(⟨L.b,L.base+off,none⟩:Addr).add (l*(s+1)))) (B-l) (n-l)) ?_ ?_
     ·simp only[execOp,ho,v,Instr.sliceAt,Instr.sureAddr,Sem.run_bind,cg D hu,Result.andThen_ok,Option.map_none,g,ew D U,Sem.run_pure]
     ·by_cases A:n=l
      ·rw[aY A];have e1:B-l=0:=om;have e2:n-l=0:=om;rw[e1,e2];exact .pc I λg u=>(V g u).elim
      ·rw[ay A,addr_add,fq];exact .slice I om λg u=>(V g u).elim
    ·simp at f
   ·simp at f
  ·simp at f
theorem x9(m:E.Ok)(p:cj ι rg a.tmps)(u:dt ι h w){t:TypeId}{x:Operand}{f:Nat}(ho:o.op= .fieldAddr t x f)(e:eQ E rg h o=some (r,h')):
 iQ ι h w r h' ((execOp a.eval o).run E.P w):=by
 simp only[eQ,qV,ho]at e;split at e
 ·rename_i fs i off hu v;split at e
  ·rename_i fd A;split at e
   ·rename_i n B;simp at e;obtain⟨rfl,rfl⟩:=e;obtain⟨L,C,g⟩:=(bM p v).j7;have j:(fieldPlace ⟨L.b,L.base+off,none⟩ fd).run E.P w= .ok ⟨L.b,L.base+(off+fd.offset),none⟩ w:=by
     simp[fieldPlace,ew m B,addr_add,fq]
    refine .pure u (y:= .pointer (some ⟨L.b,L.base+(off+fd.offset),none⟩)) ?_ (.ptr C);simp[execOp,ho,g,Instr.fieldAt,cg m hu,A,Instr.sureAddr,j]
   ·simp at e
  ·simp at e
 ·simp at e
theorem CA(f:E.Ok){t:TypeId}{cs:eu}{off:Nat}{v:AV}{c:Array Value}(g:bp ι cs c.toList)(b:Cy E t cs off=some v)(w:World):
 ∃y,(part t c off).run E.P w= .ok y w/\bG ι v y:=by
 unfold Cy at b;split at b
 ·rename_i n e i;split at b
  ·rename_i hlen;simp at b;subst b;refine⟨.agg (c.extract off (off+n)),by simp[part,qF f e,ew f i],.G7 ?_⟩;have:(c.extract off (off+n)).toList=(c.toList.drop off).take n:=by
    simp[List.extract_eq_take_drop]
   rw[this];exact(g.drop off).take n
  ·simp at b
 ·rename_i n e i;obtain⟨y,j,hr⟩:=g.get b;rw[Array.getElem?_toList]at j;exact⟨y,by simp[part,qF f e,j],hr⟩
 ·simp at b
theorem EX(g:E.Ok)(i:cj ι rg a.tmps)(j:dt ι h w){t:TypeId}{x:Operand}{f:Nat}(ho:o.op= .field t x f)(b:eQ E rg h o=some (r,h')):
 iQ ι h w r h' ((execOp a.eval o).run E.P w):=by
 simp only[eQ,Be,ho]at b;split at b
 ·rename_i fs cs hu m;split at b
  ·rename_i fd p;split at b
   ·rename_i v u;simp at b;obtain⟨rfl,rfl⟩:=b;obtain⟨c,e,A⟩:=(bM i m).wu;obtain⟨y,B,hr⟩:=CA g A u w;exact .pure j (y:=y) (by simp[execOp,ho,e,Instr.field,cg g hu,p,asAgg,B]) hr
   ·simp at b
  ·simp at b
 ·simp at b
theorem ya(m:E.Ok)(p:cj ι rg a.tmps)(C:dt ι h w){t:TypeId}{x ix:Operand}(ho:o.op= .indexAddr t x ix)(f:eQ E rg h o=some (r,h')):
 iQ ι h w r h' ((execOp a.eval o).run E.P w):=by
 simp only[eQ,qW,ho]at f;split at f
 ·rename_i e i off len k n hu v hi;split at f
  ·rename_i s A;split at f
   ·rename_i B;simp at f;obtain⟨rfl,rfl⟩:=f;have j:=(bM p hi).iG;rcases(bM p v).wo with⟨L,cap,u,D,ht,g⟩|⟨L,F,u,ht,rfl,g⟩
    ·refine .pure C (y:= .pointer (some ⟨L.b,L.base+(off+n.toNat*s),none⟩)) ?_ (.ptr u);simp[execOp,ho,g,j,Instr.indexAt,cg m hu,asIntOf,B,ew m A,addr_add,fq]
    ·omega
   ·simp at f
  ·simp at f
 ·rename_i len e i off k n hu v hi;split at f
  ·rename_i s A;split at f
   ·rename_i B;simp at f;obtain⟨rfl,rfl⟩:=f;have j:=(bM p hi).iG;obtain⟨L,u,g⟩:=(bM p v).j7;refine .pure C (y:= .pointer (some ⟨L.b,L.base+(off+n.toNat*s),none⟩)) ?_ (.ptr u);simp[execOp,ho,g,j,Instr.indexAt,Instr.sureAddr,cg m hu,asIntOf,B,ew m A,addr_add,fq]
   ·simp at f
  ·simp at f
 ·simp at f
theorem EY(m:E.Ok)(p:cj ι rg a.tmps)(D:dt ι h w){t:TypeId}{x ix:Operand}(ho:o.op= .index t x ix)(f:eQ E rg h o=some (r,h')):
 iQ ι h w r h' ((execOp a.eval o).run E.P w):=by
 simp only[eQ,Bf,ho]at f;split at f
 ·rename_i s k n hu u hi;split at f
  ·rename_i I;split at f
   ·rename_i b F;simp at f;obtain⟨rfl,rfl⟩:=f;have g:=(bM p hi).iG;have i:=(bM p u).lX;have j:(⟨s.toArray⟩:ByteArray)[n.toNat]?=some b:=by
     have A:n.toNat<s.length:=(aV.1 F).1;have J:=(aV.1 F).2;have B:n.toNat<(⟨s.toArray⟩:ByteArray).size:=(by simpa[ByteArray.size]using A);rw[getElem?_pos (⟨s.toArray⟩:ByteArray) n.toNat B];simp[ByteArray.getElem_eq_getElem_data,J]
    exact .pure D (y:= .int .u8 b.toNat) (by simp[execOp,ho,i,g,Instr.index,cg m hu,asIntOf,I,j]) (.int _ _)
   ·simp at f
  ·simp at f
 ·rename_i len e cs k n hu u hi;split at f
  ·rename_i s K;split at f
   ·rename_i N;split at f
    ·rename_i v O;simp at f;obtain⟨rfl,rfl⟩:=f;have g:=(bM p hi).iG;obtain⟨c,i,C⟩:=(bM p u).wu;obtain⟨y,Q,hr⟩:=CA m C O w;exact .pure D (y:=y) (by simp[execOp,ho,i,g,Instr.index,cg m hu,asIntOf,N,ew m K,Q]) hr
    ·simp at f
   ·simp at f
  ·simp at f
 ·simp at f
theorem Bh(g:cj ι rg a.tmps)(j:dt ι h w){x:Operand}{i:Nat}(ho:o.op= .extract x i)(b:eQ E rg h o=some (r,h')):
 iQ ι h w r h' ((execOp a.eval o).run E.P w):=by
 simp only[eQ,vu,ho]at b;split at b
 ·rename_i vs m;split at b
  ·rename_i v p;simp at b;obtain⟨rfl,rfl⟩:=b;obtain⟨c,e,t⟩:=(bM g m).AG;obtain⟨y,f,hr⟩:=t.get p;rw[Array.getElem?_toList]at f;exact .pure j (y:=y) (by simp[execOp,ho,e,Instr.extract,f]) hr
  ·simp at b
 ·simp at b
end
section
variable[gJ]
variable{E:Env}{ι:cq}{h h':ah}{w:World}{rg:T AV}{a:Act}{o:Oper}{r:iB}
theorem zW(u:E.Ok){t:TypeId}{z:eu}{g:Bool}{v:AV}(A:E.zer t=some z)(m:E.isAgg t=some g)(e:(if g then some (.agg z)else z[0]?)=some v)(ι:cq)(w:World):
 ∃y,(zeroValue t).run E.P w= .ok y w/\bG ι v y:=by
 obtain⟨f,i,j,B,C⟩:=nD u A w;refine⟨f,i,?_⟩;have b:=jf ι j;cases g with
 |true=>
  obtain⟨cs,rfl⟩:=B m;simp at e;subst e;exact .G7 b
 |false=>
  have F:=C m;simp at e;have D:f.cells.toList=[f]:=by cases f<;>simp_all[Value.cells,Value.oneCell']
  rw[D]at b;obtain⟨y,p,hr⟩:=b.get e;simp at p;subst p;exact hr
theorem yb(e:E.Ok){t:TypeId}{k:AV}{v:Value}(f:bG ι k v)(ho:Ba E t k=true)(b:Bool)(n:Nat)(w:World):(Instr.checkKey b (n+1) t v).run E.P w= .ok () w:=by
 unfold Ba at ho;split at ho<;>first|(simp at ho;done)|skip
 all_goals
  rename_i hu;rw[Instr.checkKey];cases f<;>simp[cg e hu]
theorem Ky(j:E.Ok)(m:dt ι h w){t e:TypeId}{n:Nat}(hu:E.P.underlying t=some (.pointer e))(u:E.siz e=some (n+1)){p q:Nat×Nat}{f g:Loc}{b:Bool}(v:ι p.1=some f)(y:ι q.1=some g)
 (he:uM h p q=some b) (d:Nat):(Op.equalIn (d+1) t (.pointer (some ⟨f.b,f.base+p.2,none⟩)) (.pointer (some ⟨g.b,g.base+q.2,none⟩))).run E.P w= .ok b w:=by
 rw[Op.equalIn];have i:=ew j u w;simp[run_underlying hu,i,CC E.P m v y he]
theorem rS(S:E.Ok)(hH:dt ι h w){t:TypeId}{k:AV}{V:Value}(W:bG ι k V)(F:Ba E t k=true):
 ∀{gM:List (AV×AV)}{es:List MapEntry}{res:Option (Nat×AV)},gM.length=es.length->(∀(i:Nat)(x:AV×AV)(y:MapEntry),gM[i]?=some x->es[i]?=some y->bG ι x.1 y.key/\bG ι x.2 y.val)->
  eD h k gM 0=some res->∃f,(Instr.findKey t V es).run E.P w= .ok f w/\
   (
    match res,f with
    |none,none=>True
    |some (i,v),some (j,u)=>i=j/\bG ι v u/\i<es.length
    |_,_=>False):=by
 intro gM es res J g B;have N:(∃d,E.P.underlying t=some d/\((∃q n,k= .int q n/\d= .int q)\/(∃s,k= .str s/\d= .string)\/(∃b,k= .bool b/\d= .bool)))\/
  (∃e p n,E.P.underlying t=some (.pointer e)/\k= .ptr (some p)/\E.siz e=some (n+1)):=by
  unfold Ba at F;split at F<;>first|(simp at F;done)|skip
  ·rename_i q k' n hu;simp at F;subst F;exact .inl ⟨_,S.nv t _ hu,.inl ⟨_,_,rfl,rfl⟩⟩
  ·rename_i s hu;exact .inl ⟨_,S.nv t _ hu,.inr (.inl ⟨_,rfl,rfl⟩)⟩
  ·rename_i s hu;exact .inl ⟨_,S.nv t _ hu,.inr (.inr ⟨_,rfl,rfl⟩)⟩
  ·rename_i e p hu;split at F
   ·rename_i n Z;exact .inr ⟨e,p,n,S.nv t _ hu,rfl,Z⟩
   ·simp at F
 rcases N with⟨d,hu,hd⟩|⟨e,p,n,hu,rfl,Z⟩
 ·have gen:∀(gM:List (AV×AV))(es:List MapEntry)(res:Option (Nat×AV))(n:Nat),gM.length=es.length->
   (∀(i:Nat)(x:AV×AV)(y:MapEntry),gM[i]?=some x->es[i]?=some y->bG ι x.1 y.key/\bG ι x.2 y.val)->eD h k gM n=some res->
   ∃f,Instr.findNow d V es n=some f/\(match res,f with
    |none,none=>True
    |some (i,v),some (j,u)=>i=j/\bG ι v u/\n<=i/\i<n+es.length
    |_,_=>False):=by
   intro gM;induction gM with
   |nil=>
    intro es res n J g B;simp[eD]at B;subst B;cases es with
    |nil=>exact⟨none,rfl,trivial⟩
    |cons _ _=>simp at J
   |cons x gM ih=>
    intro es res n J g B;cases es with
    |nil=>simp at J
    |cons y es=>
     obtain⟨D,O⟩:=g 0 x y rfl rfl;have C:∀b,mw h k x.1=some b->Instr.sameNow d V y.key=some b:=by
      intro b A;rcases hd with⟨q,n,rfl,rfl⟩|⟨s,rfl,rfl⟩|⟨c,rfl,rfl⟩
      ·rw[W.iG];cases I:x.1<;>rw[I]at A D<;>simp[mw]at A;obtain⟨rfl,rfl⟩:=A;rw[D.iG];simp[Instr.sameNow]
      ·rw[W.lX];cases I:x.1<;>rw[I]at A D<;>simp[mw]at A;subst A;rw[D.lX];simp only[Instr.sameNow,beq_toListBytes,qv]
      ·rw[W.lR];cases I:x.1<;>rw[I]at A D<;>simp[mw]at A;subst A;rw[D.lR];simp[Instr.sameNow]
     simp only[eD]at B;split at B
     ·rename_i A;simp at B;subst B;exact⟨some (n,y.val),by simp[Instr.findNow,C _ A],rfl,O,ao _,sp⟩
     ·rename_i A;obtain⟨f,Q,K⟩:=ih es res (n+1) (U7 J) (λi a b ha A=>g (i+1) a b (U7 ha) (U7 A)) B;refine⟨f,by simp[Instr.findNow,C _ A,Q],?_⟩;cases res<;>cases f<;>simp_all;omega
     ·simp at B
  obtain⟨f,Q,K⟩:=gen gM es res 0 J g B;refine⟨f,by simp[Instr.findKey,run_underlying hu,Q],?_⟩;cases res<;>cases f<;>simp at K⊢;exact⟨K.1,K.2.1,K.2.2⟩
 ·obtain⟨R,A1,rfl⟩:=W.j7;have gen:∀(gM:List (AV×AV))(es:List MapEntry)(res:Option (Nat×AV))(m:Nat),gM.length=es.length->
   (∀(i:Nat)(x:AV×AV)(y:MapEntry),gM[i]?=some x->es[i]?=some y->bG ι x.1 y.key/\bG ι x.2 y.val)->eD h (.ptr (some p)) gM m=some res->
   ∃f,(Instr.findAsking t (.pointer (some ⟨R.b,R.base+p.2,none⟩)) es m).run E.P w= .ok f w/\(match res,f with
    |none,none=>True
    |some (i,v),some (j,u)=>i=j/\bG ι v u/\m<=i/\i<m+es.length
    |_,_=>False):=by
   intro gM;induction gM with
   |nil=>
    intro es res m J g B;simp[eD]at B;subst B;cases es with
    |nil=>exact⟨none,rfl,trivial⟩
    |cons _ _=>simp at J
   |cons x gM ih=>
    intro es res m J g B;cases es with
    |nil=>simp at J
    |cons y es=>
     obtain⟨D,O⟩:=g 0 x y rfl rfl;have C:∀b,mw h (.ptr (some p)) x.1=some b->(Op.equal t (.pointer (some ⟨R.b,R.base+p.2,none⟩)) y.key).run E.P w= .ok b w:=by
      intro b A;cases I:x.1<;>rw[I]at A D<;>try (simp[mw]at A;done)
      rename_i q;cases q with
      |none=>simp[mw]at A
      |some q=>
       simp only[mw]at A;obtain⟨Lq,A2,A3⟩:=D.j7;rw[A3];exact Ky S hH hu Z A1 A2 A 9999
     simp only[eD]at B;split at B
     ·rename_i A;simp at B;subst B;exact⟨some (m,y.val),by simp[Instr.findAsking,C _ A],rfl,O,ao _,sp⟩
     ·rename_i A;obtain⟨f,Q,K⟩:=ih es res (m+1) (U7 J) (λi a b ha A=>g (i+1) a b (U7 ha) (U7 A)) B;refine⟨f,by simp[Instr.findAsking,C _ A,Q],?_⟩;cases res<;>cases f<;>simp_all;omega
     ·simp at B
  cases es with
  |nil=>
   cases gM with
   |nil=>
    simp[eD]at B;subst B;exact⟨none,by simp[Instr.findKey,run_underlying hu,Instr.findNow],trivial⟩
   |cons _ _=>simp at J
  |cons y es=>
   obtain⟨f,Q,K⟩:=gen gM (y::es) res 0 J g B;have U:Instr.findNow (.pointer e) (.pointer (some ⟨R.b,R.base+p.2,none⟩)) (y::es) 0=none:=by
    simp[Instr.findNow,Instr.sameNow]
   refine⟨f,by simp[Instr.findKey,run_underlying hu,U,Q],?_⟩;cases res<;>cases f<;>simp at K⊢;exact⟨K.1,K.2.1,K.2.2⟩
theorem EZ(A:dt ι h w){m:Option Nat}{v:Value}{gM:List (AV×AV)}(g:bG ι (.map m) v)
 (e:h.gM m=some gM):
 ∃es:Array MapEntry,(v= .map none/\es= #[]\/∃L j,v= .map (some L)/\w.heap[L]?=some (.map es j))/\gM.length=es.toList.length/\
  (∀(i:Nat)(x:AV×AV)(y:MapEntry),gM[i]?=some x->es.toList[i]?=some y->bG ι x.1 y.key/\bG ι x.2 y.val):=by
 cases g with
 |Bi=>
  simp[ah.gM]at e;subst e;exact⟨#[],.inl ⟨rfl,rfl⟩,rfl,sp⟩
 |@map id L B=>
  simp only[ah.gM]at e;split at e
  ·rename_i C p;simp at e;subst e;obtain⟨J,u,D⟩:=A.obj id L B;rw[p]at u;cases u;obtain⟨es,j,F,t,f⟩:=D;exact⟨es,.inr ⟨L.b,j,rfl,F⟩,U7 t.symm,λi x y g I=>f i x y g (U7 I)⟩
  ·simp at e
theorem rk{P:Program}{L:Nat}{es:Array MapEntry}{b:Nat}(e:w.heap[L]?=some (.map es b)):(getObj L).run P w= .ok (.map es b) w:=by
 simp[getObj,Sem.run,e]
theorem zX(f:E.Ok){t j p:TypeId}{ok:Bool}{x k:Value}{es:Array MapEntry}(hu:E.nv t=some (.map j p))
 (B:x= .map none/\es= #[]\/∃L u,x= .map (some L)/\w.heap[L]?=some (.map es u)) (e:(Instr.checkKey es.isEmpty 10000 j k).run E.P w= .ok () w)
 {res:Option (Nat×Value)} (g:(Instr.findKey j k es.toList).run E.P w= .ok res w) {v:Value} {b:Bool}
 (y:(∃i,res=some (i,v)/\b=true)\/(res=none/\(zeroValue p).run E.P w= .ok v w/\b=false)):
 (Instr.lookup t x k ok).run E.P w= .ok (if ok then .tuple #[v,.bool b]else v) w:=by
 rcases B with⟨rfl,rfl⟩|⟨L,u,rfl,A⟩
 ·rcases y with⟨i,rfl,rfl⟩|⟨rfl,m,rfl⟩
  ·simp only[Instr.lookup,Sem.run_bind,cg f hu,Result.andThen_ok,Sem.run_pure,e,g]
  ·simp only[Instr.lookup,Sem.run_bind,cg f hu,Result.andThen_ok,Sem.run_pure,e,g,m]
 ·rcases y with⟨i,rfl,rfl⟩|⟨rfl,m,rfl⟩
  ·simp only[Instr.lookup,Sem.run_bind,cg f hu,Result.andThen_ok,Sem.run_pure,rk A,e,g]
  ·simp only[Instr.lookup,Sem.run_bind,cg f hu,Result.andThen_ok,Sem.run_pure,rk A,e,g,m]
theorem bG.Dw{v:AV}{u:Value}(e:bG ι v u)(b:Bool):bG ι (.iO [v,.bool b]) (.tuple #[u,.bool b]):=
 .Dx (bp.cons e (bp.cons (.bool b) (bp.nil _)))
theorem CD(K:E.Ok)(W:cj ι rg a.tmps)(C:dt ι h w){t:TypeId}{x ix:Operand}{ok:Bool}(ho:o.op= .lookup t x ix ok)(e:eQ E rg h o=some (r,h')):
 iQ ι h w r h' ((execOp a.eval o).run E.P w):=by
 simp only[eQ,wm,ho]at e;split at e
 ·rename_i kt vt m k hu hx hk;split at e
  ·rename_i D;have F:=bM W hk;have S:=bM W hx;split at e
   ·rename_i gM I;obtain⟨es,N,Z,B⟩:=EZ C S I;have O:=yb K F D es.isEmpty 9999 w;have f:(execOp a.eval o).run E.P w=((Instr.lookup t (a.eval x) (a.eval ix) ok).run E.P w).andThen λv w'=> .ok (.value v) w':=by
     simp only[execOp,ho,Sem.run_bind];rfl
    split at e
    ·rename_i i v U;simp at e;obtain⟨rfl,rfl⟩:=e;obtain⟨p,J,g⟩:=rS K C F D Z B U;cases p with
     |none=>exact g.elim
     |some iu=>
      obtain⟨j,u⟩:=iu;obtain⟨rfl,Q,_⟩:=g;have A:=zX K (ok:=ok) hu N O J (v:=u) (b:=true) (.inl ⟨_,rfl,rfl⟩);rw[A]at f;cases ok
      ·exact .pure C f Q
      ·exact .pure C f (Q.Dw true)
    ·rename_i z ag U hz V;split at e
     ·rename_i v hv;simp at e;obtain⟨rfl,rfl⟩:=e;obtain⟨p,J,g⟩:=rS K C F D Z B U;cases p with
      |some iu=>exact g.elim
      |none=>
       obtain⟨y,hy,R⟩:=zW K hz V hv ι w;have A:=zX K (ok:=ok) hu N O J (v:=y) (b:=false) (.inr ⟨rfl,hy,rfl⟩);rw[A]at f;cases ok
       ·exact .pure C f R
       ·exact .pure C f (R.Dw false)
     ·simp at e
    ·simp at e
   ·simp at e
  ·simp at e
 ·simp at e
theorem Bj(h:ah)(k:AV):∀(gM:List (AV×AV))(n i:Nat)(v:AV),eD h k gM n=some (some (i,v))->∃x,n<=i/\gM[i-n]?=some x/\mw h k x.1=some true
 |[],n,i,v,b=>by simp[eD]at b
 |x::gM,n,i,v,b=>by
  simp only[eD]at b;split at b
  ·rename_i e;simp at b;obtain⟨rfl,_⟩:=b;exact⟨x,ao _,sp,e⟩
  ·obtain⟨y,j,f,g⟩:=Bj h k gM (n+1) i v b;refine⟨y,om,?_,g⟩;rw[show i-n=(i-(n+1))+1 from om,rK];exact f
  ·simp at b
theorem yc{k x:AV}{u v:Value}(f:bG ι k u)(g:bG ι x v)(he:mw h k x=some true)(n:Nat):Instr.sameBits n v u=true:=by
 unfold mw at he;split at he
 ·rw[f.iG,g.iG];split at he
  ·rename_i e;subst e;simp at he;subst he;simp[Instr.sameBits]
  ·simp at he
 ·simp at he;subst he;rw[f.lX,g.lX];simp only[Instr.sameBits,beq_toListBytes,qv];simp
 ·simp at he;subst he;rw[f.lR,g.lR];simp[Instr.sameBits]
 ·rename_i p q;unfold uM at he;split at he
  ·split at he
   ·rename_i e;simp at he;obtain⟨L,i,rfl⟩:=f.j7;obtain⟨L',b,rfl⟩:=g.j7;rw[e]at i;rw[i]at b;cases b;simp[Instr.sameBits,he]
   ·split at he<;>simp at he
  ·simp at he
 ·simp at he
theorem Dy(hE:E.Ok)(hR:cj ι rg a.tmps)(hH:dt ι h w){t:TypeId}{x ix y:Operand}(ho:o.op= .mapUpdate t x ix y)(f:eQ E rg h o=some (r,h')):
 j4 ι h w r h' ((execOp a.eval o).run E.P w):=by
 simp only[eQ,qZ,ho]at f;split at f
 ·rename_i kt vt id k v hu m hk hv;split at f
  ·rename_i R;have B:=bM hR hk;have A1:=bM hR hv;split at f
   ·rename_i gM A2;have A3:=bM hR m;cases S:a.eval x<;>rw[S]at A3<;>cases A3;rename_i L hL;obtain⟨o1,h1,h2⟩:=hH.obj id L hL;rw[A2]at h1;cases h1;obtain⟨es,ck,hb,O,p⟩:=h2;have C1:L.b<w.heap.size:=(bI.1 hb).1;have A4:=yb hE B R false 9999 w;have hl:gM.length=es.toList.length:=(U7 O.symm);have D:∀(i:Nat)(x:AV×AV)(y:MapEntry),gM[i]?=some x->es.toList[i]?=some y->bG ι x.1 y.key/\bG ι x.2 y.val:=λi x y m C=>p i x y m (U7 C);have Q:∀(o':Obj),(setObj L.b o').run E.P w= .ok () {w with heap:=w.heap.setIfInBounds L.b o'}:=λo'=>by simp[setObj,Sem.run,hb]
    have F:∀(g:List (AV×AV))(I:Array MapEntry)(U:Nat),I.size=g.length->(∀(i:Nat)(x:AV×AV)(y:MapEntry),g[i]?=some x->I[i]?=some y->bG ι x.1 y.key/\bG ι x.2 y.val)->
     Ext ι h w ι (h.set id (.map g)) {w with heap:=w.heap.setIfInBounds L.b (.map I U)}:=λg I U h1 h2=>
     hH.Dz hL A2 rfl ⟨I,U,by simp[C1],h1,h2⟩ sp (λb C2=>by simp[C2.symm]) rfl rfl rfl
    split at f
    ·rename_i i v' hf;simp at f;obtain⟨rfl,rfl⟩:=f;obtain⟨J,V,A⟩:=rS hE hH B R hl D hf;cases J with
     |none=>exact A.elim
     |some iu=>
      obtain⟨j,u⟩:=iu;obtain⟨rfl,C6,C3⟩:=A;obtain⟨x0,_,W,A5⟩:=Bj h k gM 0 i v' hf;simp only[Nat.sub_zero]at W;have K:i<es.size:=(U7 C3);have Au:=(p i x0 es[i] W (by simp[K])).1;have Z:(Instr.keyThatStays (((es[i]?).map (·.key)).getD (a.eval ix)) (a.eval ix)).run E.P w= .ok (a.eval ix) w:=by
       have C4:=yc B Au A5 10000;simp[Instr.keyThatStays,K,C4]
      have N:(execOp a.eval o).run E.P w= .ok .skip {w with heap:=w.heap.setIfInBounds L.b (.map (es.modify i λe=>{e with key:=a.eval ix,val:=a.eval y}) ck)}:=by
       simp only[execOp,ho,Sem.run_bind,S,Instr.mapUpdate,cg hE hu,Result.andThen_ok,rk hb,A4,V,Z,Q,Sem.run_pure]
      rw[N];refine⟨ι,rfl,F _ _ _ (by simp[O]) ?_⟩;intro j x y' m C;rw[List.getElem?_modify]at m;rw[gL]at C;by_cases e:i=j
      ·subst e;rw[W]at m;simp[K]at m C;subst m;subst C;exact⟨B,A1⟩
      ·simp[e]at m C;exact p j x y' m C
    ·rename_i hf;simp at f;obtain⟨rfl,rfl⟩:=f;obtain⟨J,V,A⟩:=rS hE hH B R hl D hf;cases J with
     |some iu=>exact A.elim
     |none=>
      have N:(execOp a.eval o).run E.P w= .ok .skip {w with heap:=w.heap.setIfInBounds L.b (.map (es.push {key:=a.eval ix,val:=a.eval y,born:=ck}) (ck+1))}:=by
       simp only[execOp,ho,Sem.run_bind,S,Instr.mapUpdate,cg hE hu,Result.andThen_ok,rk hb,A4,V,Q,Sem.run_pure]
      rw[N];refine⟨ι,rfl,F _ _ _ (by simp[O]) ?_⟩;intro i x y m C;rw[eI]at m;split at m
      ·rename_i hi;rw[Array.getElem?_push,ay om]at C;exact p i x y m C
      ·rename_i hi;have C5:i=gM.length:=by
        have:=(aV.1 m).1;simp at this;omega
       subst C5;simp at m;subst m;rw[<-O,Array.getElem?_push,aY rfl]at C;simp at C;subst C;exact⟨B,A1⟩
    ·simp at f
   ·simp at f
  ·simp at f
 ·simp at f
end
section
variable[gJ]
variable{E:Env}{ι:cq}{h h':ah}{w:World}{rg:T AV}{a:Act}{o:Oper}{r:iB}
theorem dt.move{w':World}(u:dt ι h w){i:Nat}{L L':Loc}{o D:dK}(hi:ι i=some L)(ho:h.get i=some o)(y:o.owned=true)(F:L'.b=L.b)(hg:D.gone=false)
 (hO:vw (ι.add h.nx L') D L' w') (C:w'.heap.size=w.heap.size) (t:∀b,b≠L.b->w'.heap[b]?=w.heap[b]?) (J:w'.os=w.os) (ht:w'.tape=w.tape) (K:w'.output=w.output):
 Ext ι h w (ι.add h.nx L') ((h.set i .dead).alloc D).2 w':=by
 have A1:i<h.nx:=u.lt i L hi;have hle:ι.le (ι.add h.nx L'):=λk v f=>by
  rw[cq.bV];exact f;have:=u.lt k v f;omega
 have m:∀k,((h.set i .dead).alloc D).2.get k=if k=h.nx then some D else if k=i then some .dead else h.get k:=λk=>by
  rw[ah.cO,ah.aM];simp only[ah.pj];by_cases N:k=h.nx
  ·simp[N]
  ·by_cases U:k=i<;>simp[N,U]
 refine⟨⟨?_,?_,?_,?_,λk v f=>by
  by_cases e:k=h.nx
  ·subst e;rw[cq.add_same]at f;cases f;rw[F,C];exact u.Kz i L hi
  ·rw[cq.bV _ _ e]at f;rw[C];exact u.Kz k v f,⟨by rw[C];exact u.base.size,λb V=>(t b (by have:=u.base.own i L o hi ho y;omega)).trans (u.base.old b V),J.trans u.base.os,λk v ok f g A=>by
  by_cases e:k=h.nx
  ·subst e;rw[cq.add_same]at f;cases f;rw[F];exact u.base.own i L o hi ho y
  ·rw[cq.bV _ _ e]at f;rw[m,ay e]at g;by_cases e2:k=i
   ·rw[aY e2]at g;cases g;simp[dK.owned]at A
   ·rw[ay e2]at g;exact u.base.own k v ok f g A⟩⟩,?_,?_,sp,om,?_,J,ht,K,λk v f=>by
  by_cases e:k=h.nx
  ·subst e;rw[cq.add_same]at f;cases f;exact .inr (.inr ⟨i,L,o,hi,ho,y,F.symm⟩)
  ·rw[cq.bV _ _ e]at f;exact .inl f⟩
 ·intro k v f;by_cases e:k=h.nx
  ·subst e;rw[cq.add_same]at f;cases f;exact⟨D,by simp[m],hO⟩
  ·rw[cq.bV _ _ e]at f;by_cases e2:k=i
   ·subst e2;exact⟨.dead,by simp[m,e],True.intro⟩
   ·obtain⟨ok,N,U⟩:=u.obj k v f;refine⟨ok,by simp[m,e,e2,N],?_⟩;by_cases Z:ok.gone=true
    ·cases ok<;>simp[dK.gone]at Z;exact True.intro
    ·exact(U.mono hle).block (t _ λW=>u.Js i k L v o ok (λe'=>e2 e'.symm) hi f ho N y (U7 Z) W.symm)
 ·intro k j v Lj ok oj O f I g p P B;rw[m]at g p;by_cases e:k=h.nx
  ·subst e;rw[cq.add_same]at f;cases f;have e':j≠h.nx:=λe=>O e.symm;rw[cq.bV _ _ e']at I;rw[ay e']at p;by_cases e2:j=i
   ·rw[aY e2]at p;cases p;simp[dK.gone]at B
   ·rw[ay e2]at p;rw[F];exact u.Js i j L Lj o oj (λe'=>e2 e'.symm) hi I ho p y B
  ·rw[cq.bV _ _ e]at f;rw[ay e]at g;by_cases e2:k=i
   ·rw[aY e2]at g;cases g;simp[dK.owned]at P
   ·rw[ay e2]at g;by_cases e':j=h.nx
    ·subst e';rw[cq.add_same]at I;cases I;rw[F];exact λW=>u.Js i k L v o ok (λe'=>e2 e'.symm) hi f ho g y (by cases ok<;>simp_all[dK.owned,dK.gone]) W.symm
    ·rw[cq.bV _ _ e']at I;rw[ay e']at p;by_cases e3:j=i
     ·rw[aY e3]at p;cases p;simp[dK.gone]at B
     ·rw[ay e3]at p;exact u.Js k j v Lj ok oj O f I g p P B
 ·intro k v f;by_cases e:k=h.nx
  ·subst e;simp
  ·rw[cq.bV _ _ e]at f;have:=u.lt k v f;simp;omega
 ·intro k f;simp at f;rw[m,ay om,ay om];exact u.fresh k om
 ·intro k f;rw[cq.bV];omega
 ·intro k f Q;have:k≠i:=λe=>by subst e;rw[hi]at Q;cases Q
  rw[m,ay om,ay this]
 ·intro b A2 Q;have R:b≠L.b:=λe=>Q ⟨i,L,o,hi,ho,y,e.symm⟩;refine⟨t b R,?_⟩
  rintro⟨k,v,ok,f,g,A,S⟩
  rw[m]at g;by_cases e:k=h.nx
  ·subst e;rw[cq.add_same]at f;cases f;exact R (by rw[<-S,F])
  ·rw[cq.bV _ _ e]at f;rw[ay e]at g;by_cases e2:k=i
   ·rw[aY e2]at g;cases g;simp[dK.owned]at A
   ·rw[ay e2]at g;exact Q ⟨k,v,ok,f,g,A,S⟩
theorem NB(R:dt ι h w){es n:Nat}{x:AV}{v:Value}{new:eu}(A:bG ι x v)(e:NA h es x=some (n,new)){tx:TypeId}{P:Program}
 (I:(∃e',P.underlying tx=some (.slice e'))\/P.underlying tx=some .string):
 ∃g:List Value,bp ι new g/\new.length=n*es/\Src P es tx v n g w:=by
 unfold NA at e;split at e
 ·simp at e;obtain⟨rfl,rfl⟩:=e;cases A;exact⟨[],bp.nil _,sp,I,λ_=>rfl,rfl,rfl,sp,sp⟩
 ·rename_i i off B;split at e
  ·rename_i cs S;split at e
   ·rename_i K;simp at e;obtain⟨rfl,rfl⟩:=e;have one:∀g:List Value,bp ι cs g->∀u∈g,u.oneCell'=true:=λg U u hu=>by
     obtain⟨j,V,rfl⟩:=gh hu;have C:j<cs.length:=(by rw[U.1];exact V);rw[(U.2 j cs[j] g[j] (by simp[C]) (by simp[V])).scalar];exact(cL.1 K) _ (bk C)
    rcases A.wo with⟨L,cap,N,W,ht,rfl⟩|⟨L,ad,N,ht,rfl,rfl⟩
    ·obtain⟨D,g,m,p⟩:=mc R N S;have t:g.length=B*es:=(by rw[<-m.1];exact D);exact⟨g,m,D,I,λ_=>rfl,run_firstCells_some w es B _ B cap g t p,
      run_firstCells_some w.drew es B _ B cap g t (U7 p),t,one g m⟩
    ·have:cs=[]:=by
      obtain⟨D,_⟩:=mc R N S;simp at D;exact D
     subst this;refine⟨[],bp.nil _,sp,I,λ_=>rfl,?_,?_,sp,sp⟩
     ·exact run_firstCells_some w es 0 _ 0 0 [] sp sp
     ·exact run_firstCells_some w.drew es 0 _ 0 0 [] sp sp
   ·simp at e
  ·simp at e
 ·rename_i l;split at e
  ·rename_i O;subst O;simp at e;obtain⟨rfl,rfl⟩:=e;rw[A.lX];have Q:(⟨l.toArray⟩:ByteArray).size=l.length:=(by simp[ByteArray.size]);have f:∀J:World,(Builtin.firstCells 1 l.length (.string ⟨l.toArray⟩)).run P J= .ok (byteCells ⟨l.toArray⟩).toArray J:=λJ=>by
    have:=firstCells_string (P:=P) ⟨l.toArray⟩ J;rw[Q]at this;exact this
   refine⟨byteCells ⟨l.toArray⟩,⟨by simp[byteCells],λi x y A Z=>?_⟩,sp,I,λ_=>by simp[Builtin.lenOf,ByteArray.size],f _,f _,?_,?_⟩
   ·simp[byteCells]at A Z;obtain⟨b,hb,rfl⟩:=A;obtain⟨b',F,rfl⟩:=Z;rw[hb]at F;cases F;exact .int _ _
   ·simp[byteCells]
   ·intro u hu;obtain⟨_,_,rfl⟩:=pI.1 hu;rfl
  ·simp at e
 ·simp at e
theorem DA(hE:E.Ok)(Z:dt ι h w){t tx ty:TypeId}{s x z:AV}{u v:Value}(hs:bG ι s u)(V:bG ι x v)
 (hk:(∃e',E.P.underlying tx=some (.slice e'))\/E.P.underlying tx=some .string) (p:aK E h t s x=some (z,h')):
 ∃y w' cW,(Builtin.append_ #[t,tx] ty #[u,v]).run E.P w= .ok y w'/\bG cW z y/\Ext ι h w cW h' w':=by
 unfold aK at p;split at p
 ·rename_i e hu;have C1:=hE.nv t _ hu;split at p
  ·rename_i es C2 zl FF FO hz;obtain⟨i,hi,FP⟩:=hE.siz e _ FF;obtain⟨i2,C8,FQ⟩:=hE.byt e _ FO;obtain⟨i3,zv,C9,FW,_⟩:=hE.zer e _ hz;rw[hi]at C8 C9;cases C8;cases C9;have F7:roomy=1073741824:=rfl;split at p
   ·simp at p
   rename_i G2;simp at G2;obtain⟨G3,_⟩:= ‹_/\(_/\_)›;have G4:zv.cells.size=es+1:=by
    have:=DB G3;simp at this;omega
   split at p
   ·simp at p
   ·rename_i n new CL;obtain⟨news,A,A1,hS⟩:=NB Z V CL hk;have O:i.size=es+1:=FP;rw[<-O]at hS;have fits:∀B old:Nat,old<B->¬(roomy<B*(C2+1))->((B:Nat):Int)<=9223372036854775807/\Builtin.nextslicecap B old*i.bytes<=281474976710656:=λB old J h2=>by
     have h3:B<=B*(C2+1):=Nat.le_mul_of_pos_right _ om;have h4:B*i.bytes<=B*(C2+1):=Nat.mul_le_mul_left _ FQ;exact⟨om,growslice_fits J om⟩
    have Q:∀(h0:ah)(base:Option Addr)(len cap:Nat)(olds:eu)(m:List Value),Ext ι h w ι h0 w->h0.nx=h.nx->bp ι olds m->
     (Builtin.firstCells i.size len (.slice base len cap)).run E.P w.drew= .ok m.toArray w.drew->cap<len+n->¬(roomy<(len+n)*(C2+1))->olds.length=len*(es+1)->
     ∃y w' cW,(Builtin.append_ #[t,tx] ty #[.slice base len cap,v]).run E.P w= .ok y w'/\bG cW (.slice (some (h.nx,0)) (len+n)) y/\
      Ext ι h w cW (h0.alloc (.cells true (es+1) (olds++new))).2 w':=λh0 base len cap olds m R G5 C hold F D g=>by
     obtain⟨GL,C4⟩:=fits _ cap F D;have A2:=run_append_grow_src (P:=E.P) w t tx ty e i zv C1 hi FW base len cap m hold v n news hS F GL C4;have F0:=grownCap_ge w (len+n) cap e;have A3:=C.append A;have F1:((m++news).toArray++Builtin.zeroCells zv.cells (grownCap w (len+n) cap e-(len+n))).size=grownCap w (len+n) cap e*(es+1):=by
      have J:=A3.1;simp[Builtin.zeroCells,G4]at J⊢;rw[<-J,g,A1,<-Nat.add_mul,<-Nat.add_mul];congr 1;omega
     refine⟨_,_,ι.add h0.nx _,A2,?_,R.trans (tB (w0:=w.drew) R.rel rfl rfl rfl rfl true (es+1) e ?_ ?_)⟩
     ·rw[<-G5];refine .slice (off:=0) (cq.add_same _ _ _) F0 λ_ _=>?_;simp only[F1];omega
     ·intro j y I;obtain⟨q,hq,hr⟩:=A3.get I;refine⟨q,?_,hr⟩;have W:j<(m++news).length:=(aV.1 hq).1;rw[xU (U7 W)];simpa using hq
     ·have J:=A3.1;rw[F1];simp[g,A1,<-Nat.add_mul];exact iw _ F0
    split at p
    ·
      obtain⟨-,rfl⟩:=hs.xg;split at p
      ·simp at p
      rename_i D;split at p
      ·rename_i hn;subst hn;simp at p;obtain⟨rfl,rfl⟩:=p;have:news=[]:=cI (by rw[<-A.1,A1];simp);subst this;exact⟨_,_,_,run_append_nothing w t tx ty e i C1 hi none 0 0 om v hS,.tD,Ext.refl Z⟩
      ·rename_i hn;simp at p;obtain⟨rfl,rfl⟩:=p;have:=Q h none 0 0 [] [] (Ext.refl Z) rfl (bp.nil _) (run_firstCells_none w.drew _ _ _ _) om (U7 D) sp;simpa using this
    ·rename_i k off len;split at p
     ·simp at p
     rename_i D;split at p
     ·rename_i H9 cs ho;split at p
      ·simp at p
      rename_i C5;simp at C5;subst C5;have Gq:∃L base cap,ι k=some L/\u= .slice (some base) len cap/\len<=cap/\L.base+off+cap*(es+1)=L.top/\L.es=es+1/\L.rw=true/\
       (0<cap->base=⟨L.b,L.base+off,none⟩):=by
       rcases hs.wo with⟨L,cap,hL,F,ht,rfl⟩|⟨L,ad,hL,ht,rfl,rfl⟩
       ·obtain⟨A4,C3,_⟩:=Z.cells hL ho;have:=ht A4 om;exact⟨L,_,cap,hL,rfl,F,by rw[C3]at this;exact this,C3,A4,λ_=>rfl⟩
       ·obtain⟨A4,C3,_⟩:=Z.cells hL ho;have:=ht A4 om;exact⟨L,ad,0,hL,rfl,om,U7 this,C3,A4,λh=>om⟩
      obtain⟨L,base,cap,hL,rfl,F,S,F2,H7,A5⟩:=Gq;obtain⟨_,_,C4,c,ce,fz,hb,H2,H3⟩:=Z.cells hL ho;obtain⟨rfl,F3⟩:=H2 rfl;split at p
      ·rename_i hn;subst hn;simp at p;obtain⟨rfl,rfl⟩:=p;have:news=[]:=cI (by rw[<-A.1,A1];simp);subst this;exact⟨_,_,_,run_append_nothing w t tx ty e i C1 hi (some base) len cap F v hS,hs,Ext.refl Z⟩
      rename_i hn;have Au:news.length=n*(es+1):=(by rw[<-A.1,A1]);have K:∀w',len+n<=cap->(storeCells ⟨L.b,L.base+(off+len*(es+1)),none⟩ news).run E.P w= .ok () w'->(Builtin.append_ #[t,tx] ty #[.slice (some base) len cap,v]).run E.P w=
       .ok (.slice (some ⟨L.b,L.base+off,none⟩) (len+n) cap) w':=λw' f N=>by
       rw[A5 om];have F4:∀j,j<news.length->L.base+off+len*i.size+j<c.size:=λj W=>by
        rw[<-F3,<-S,O];have J:(len+n)*(es+1)<=cap*(es+1):=iw _ f;rw[Nat.add_mul]at J;omega
       have F5:∀j,j<news.length->(w.cell? ⟨L.b,L.base+off+len*i.size+j,none⟩).isSome=true:=λj W=>by
        simp[World.cell?,hb,F4 j W]
       have F6:∀j,j<news.length->w.frozen? ⟨L.b,L.base+off+len*i.size+j,none⟩=false:=λj W=>by
        simp[World.frozen?,hb]
       have J:=run_append_room_src w t tx ty e i C1 hi L.b (L.base+off) len cap v n news hS f F5 F6;have h2:=run_storeCells_cells (P:=E.P) L.b (L.base+off+len*i.size) news 0 w (U7 F5) (U7 F6) hS.one;rw[O]at J h2;simp only[mr,fq]at J h2 N;rw[h2]at N;cases N;rw[<-J]
      split at p
      ·
        rename_i F4;have f:len+n<=cap:=by
         have J:(len+n)*(es+1)<=cap*(es+1):=om;exact Nat.le_of_mul_le_mul_right J om
        split at p
        ·rename_i h2 N;simp at p;obtain⟨rfl,rfl⟩:=p;obtain⟨w',A2,R⟩:=tF Z hL N A E.P;exact⟨_,w',ι,K w' f A2,.slice hL f λ_ _=>by rw[F2];exact S,R⟩
        ·simp at p
      ·split at p
       ·rename_i H8 hlen;simp at p;obtain⟨rfl,rfl⟩:=p;have holds:∃m:List Value,bp ι ((cs.drop off).take (len*(es+1))) m/\m.length=len*(es+1)/\
         ∀j y,m[j]?=some y->c[L.base+off+j]?=some y:=by
         refine⟨(c.toList.drop (L.base+off)).take (len*(es+1)),⟨?_,λj x y V I=>?_⟩,?_,λj y I=>?_⟩
         ·simp;omega
         ·rw[ja]at V I;split at V
          ·rw[eM]at V;rename_i W;rw[aY W,eM]at I;obtain⟨q,hq,hr⟩:=H3 _ x V;rw[<-Array.getElem?_toList,<-Nat.add_assoc,I]at hq;cases hq;exact hr
          ·simp at V
         ·simp;omega
         ·rw[ja]at I;split at I
          ·rw[eM]at I;simpa using I
          ·simp at I
        obtain⟨m,C,g,U⟩:=holds;by_cases f:len+n<=cap
        ·
          have hbound:L.base+(off+len*(es+1))+0+news.length<=c.size:=by
           rw[<-F3,<-S,Au];have J:(len+n)*(es+1)<=cap*(es+1):=iw _ f;rw[Nat.add_mul]at J;omega
          have N:=run_storeCells_at E.P L.b (L.base+(off+len*(es+1))) ce news 0 c w hb hbound hS.one;simp only[mr]at N hbound;refine⟨_,_,ι.add h.nx ⟨L.b,L.base+off,L.top,es+1,true⟩,K _ f N,?_,?_⟩
          ·exact .slice (off:=0) (cq.add_same _ _ _) f λ_ _=>by simpa using S
          ·refine Z.move hL ho rfl rfl rfl ?_ (by simp[World.setRow]) (λb H4=>?_) rfl rfl rfl
           ·have hle:ι.le (ι.add h.nx ⟨L.b,L.base+off,L.top,es+1,true⟩):=λi Li hi=>by
             rw[cq.bV];exact hi;have:=Z.lt i Li hi;omega
            refine⟨rfl,rfl,?_,_,ce,(0,0),setRow_heap w L.b c _ ce _ hb,λ_=>⟨rfl,?_⟩,λj x V=>?_⟩
            ·have J:=C.1;have h2:=A.1;simp only[aO,J,h2,g,Au];omega
            ·simp;omega
            ·rw[eI,C.1]at V;simp only[List.getElem?_toArray];rw[aU,eI];have C6:(List.take (L.base+(off+len*(es+1))) c.toList).length=L.base+(off+len*(es+1)):=IN;rw[C6];split at V
             ·rename_i W;rw[g]at W;obtain⟨y,I,hr⟩:=C.get V;rw[aY om,ja,aY om];have:=U j y I;exact⟨y,U7 this,hr.mono hle⟩
             ·rename_i W;rw[g]at V W;obtain⟨y,I,hr⟩:=A.get V;have HA:=(aV.1 I).1;rw[ay om,eI,aY om];exact⟨y,by rw[<-I];congr 1;omega,hr.mono hle⟩
           ·simp only[World.setRow,gL];rw[ay (λe=>H4 e.symm)]
        ·
          have C7:Ext ι h w ι (h.set k .dead) w:=Z.Dz hL ho rfl True.intro rfl (λ_ _=>rfl) rfl rfl rfl;have H5:(Builtin.firstCells i.size len (.slice (some base) len cap)).run E.P w.drew= .ok m.toArray w.drew:=by
           rw[O];refine run_firstCells_some w.drew (es+1) len base len cap m g λj y I=>?_;have W:=(aV.1 I).1;have:0<cap:=by
            rcases Nat.eq_zero_or_pos len with h0|h0
            ·rw[h0]at g;simp at g;simp[g]at I
            ·omega
           rw[A5 this,addr_add];have J:=U j y I;have H6:w.drew.heap[L.b]?=some (Obj.cells c ce):=hb;simp only[World.cell?,H6,J];simp
          exact Q (h.set k .dead) (some base) len cap _ m C7 rfl C H5 om D (by rw[C.1,g])
       ·simp at p
     ·simp at p
    ·simp at p
  ·simp at p
 ·simp at p
end
section
variable[gJ]
variable{E:Env}{ι:cq}{h h':ah}{w:World}{rg:T AV}{a:Act}{o:Oper}{r:iB}
theorem CE(g:E.Ok)(u:dt ι h w){t ty:TypeId}{i:Array TypeId}{x z:AV}{v:Value}(j:bG ι x v)(h0:i[0]?=some t)(b:Du E h t x=some z):
 ∃y,(Builtin.len_ i ty #[v]).run E.P w= .ok y w/\bG ι z y:=by
 unfold Du at b;split at b
 ·rename_i s hu;simp at b;subst b;rw[j.lX];have f:(⟨s.toArray⟩:ByteArray).size=s.length:=by simp[ByteArray.size]
  exact⟨.int .i64 s.length,by simp[Builtin.len_,h0,cg g hu,goInt,f],.int _ _⟩
 ·rename_i n e hu;simp at b;subst b;exact⟨.int .i64 n,by simp[Builtin.len_,h0,cg g hu,goInt],.int _ _⟩
 ·rename_i e p n hu;simp at b;subst b;refine⟨.int .i64 n,?_,.int _ _⟩;cases j<;>simp[Builtin.len_,h0,cg g hu,goInt]
 ·rename_i A B hu;simp at b;subst b;cases j;exact⟨.int .i64 0,by simp[Builtin.len_,h0,cg g hu,goInt],.int _ _⟩
 ·rename_i A B m hu;split at b
  ·rename_i gM hm;simp at b;subst b;cases j with
   |map C=>
    obtain⟨o,ho,D⟩:=u.obj _ _ C;rw[hm]at ho;cases ho;obtain⟨es,I,F,f,_⟩:=D;refine⟨_,?_,.int _ _⟩;simp[Builtin.len_,h0,cg g hu,rk F,goInt,f]
  ·simp at b
 ·simp at b
theorem xh(I:E.Ok)(K:cj ι rg a.tmps)(A:dt ι h w){p t:TypeId}{x:Operand}{ok:Bool}(ho:o.op= .typeAssert x p t ok)(b:eQ E rg h o=some (r,h')):
 iQ ι h w r h' ((execOp a.eval o).run E.P w):=by
 simp only[eQ,oY,ho]at b;split at b
 ·simp at b
 ·rename_i d u v j N O;have m:=bM K O;obtain⟨f,B,J⟩:∃f,a.eval x= .iface u f/\bG ι v f:=by
   cases Q:a.eval x<;>rw[Q]at m<;>cases m;exact⟨_,rfl,‹_›⟩
  have R:∀ms,d≠ .interface ms:=λms e=>j ms e;have g:(execOp a.eval o).run E.P w=((Instr.typeAssert (.iface u f) p t ok).run E.P w).andThen λv w'=> .ok (.value v) w':=by
   simp only[execOp,ho,B,Sem.run_bind,Sem.run_pure]
  have C:(Instr.typeAssert (.iface u f) p t ok).run E.P w=(if u=t then(pure (if ok then .tuple #[f,.bool true]else f):Sem Value)
   else if ok then(do pure (.tuple #[<-zeroValue t,.bool false]))else runtimePanic (.typeAssertion (some p) (some u) t "")).run E.P w:=by
   simp only[Instr.typeAssert,Sem.run_bind,cg I N,Result.andThen_ok]
  rw[g,C];split at b
  ·rename_i i;simp at b;obtain⟨rfl,rfl⟩:=b;rw[aY i];cases ok
   ·exact .pure A sp J
   ·exact .pure A sp (J.Dw true)
  ·rename_i i;rw[ay i];split at b
   ·rename_i D;split at b
    ·rename_i z W S F;split at b
     ·rename_i q U;simp at b;obtain⟨rfl,rfl⟩:=b;obtain⟨y,V,hr⟩:=zW I S F U ι w;rw[aY D];exact .pure A (by simp only[Sem.run_bind,V,Result.andThen_ok,Sem.run_pure]) (hr.Dw false)
     ·simp at b
    ·simp at b
   ·simp at b
 ·simp at b
theorem KD(i:cj ι rg a.tmps)(u:dt ι h w){x:Operand}(ho:o.op= .panic x)(b:eQ E rg h o=some (r,h')):
 j4 ι h w r h' ((execOp a.eval o).run E.P w):=by
 simp only[eQ,Bg,ho]at b;split at b
 ·rename_i t v j;simp at b;obtain⟨rfl,rfl⟩:=b;have e:=bM i j;obtain⟨f,g,m⟩:∃f,a.eval x= .iface t f/\bG ι v f:=by
   cases p:a.eval x<;>rw[p]at e<;>cases e;exact⟨_,rfl,‹_›⟩
  have:(execOp a.eval o).run E.P w= .halt (.panic (.iface t f)) w:=by
   simp[execOp,ho,g,Instr.panic,goPanic,Sem.run]
  rw[this];exact⟨_,rfl,.iface _ m,rfl,rfl⟩
 ·simp at b
theorem KG(j:cj ι rg a.tmps)(u:dt ι h w){c:Call}(ho:o.op= .defer c)(b:eQ E rg h o=some (r,h')):
 j4 ι h w r h' ((execOp a.eval o).run E.P w):=by
 simp only[eQ,zb,ho]at b;split at b
 ·rename_i args f e m;split at b
  ·rename_i k lQ p;simp at b;obtain⟨rfl,rfl⟩:=b;have hr:=bM j p;obtain⟨cs,g,i⟩:∃cs,a.eval f= .func (.func k) #[] cs/\bp ι lQ cs.toList:=by
    cases t:a.eval f<;>rw[t]at hr<;>cases hr;exact⟨_,rfl,‹_›,‹_›⟩
   have:(execOp a.eval o).run E.P w= .ok (.defer {target:= .fn (.func k) cs,args:=c.args.map a.eval}) w:=by
    simp[execOp,ho,resolve,m,Deferred.ofValue,g]
   rw[this];exact⟨_,_,_,_,rfl,rfl,by simpa using(tA j e).append i,rfl,rfl⟩
  ·simp at b
 ·simp at b
theorem Bk(f:cj ι rg a.tmps){c:Call}{x y:AV}(b:qU rg c.args.toList=some [x,y]):∃u v,c.args.map a.eval= #[u,v]/\bG ι x u/\bG ι y v:=by
 have h:=tA f b;obtain⟨e,hi⟩:=h
 match hm:c.args.toList.map a.eval with
 |[u,v]=>
  rw[hm]at hi;exact⟨u,v,by apply iJ;simpa using hm,hi 0 _ _ rfl rfl,hi 1 _ _ rfl rfl⟩
 |[]=>rw[hm]at e;simp at e
 |[_]=>rw[hm]at e;simp at e
 |_::_::_::_=>rw[hm]at e;simp at e
theorem E0(f:cj ι rg a.tmps){c:Call}{x:AV}(b:qU rg c.args.toList=some [x]):∃u,c.args.map a.eval= #[u]/\bG ι x u:=by
 have h:=tA f b;obtain⟨e,hi⟩:=h
 match hm:c.args.toList.map a.eval with
 |[u]=>
  rw[hm]at hi;exact⟨u,by apply iJ;simpa using hm,hi 0 _ _ rfl rfl⟩
 |[]=>rw[hm]at e;simp at e
 |_::_::_=>rw[hm]at e;simp at e
theorem nF{c:Call}{b:Builtin}(ho:o.op= .call c)(e:c.callee= .builtin b)(s:Sem Value)
 (f:∀consts,builtin b c.argTypes o.type consts (c.args.map a.eval)=(do pure (.value (<-s)):Sem Next)):
 (execOp a.eval o).run E.P w=(s.run E.P w).andThen λv w'=> .ok (.value v) w':=by
 simp only[execOp,ho,resolve,e,Sem.run_bind,Sem.run_pure,Result.andThen_ok,invoke,f]
theorem NC(N:E.Ok)(I:cj ι rg a.tmps)(O:dt ι h w){c:Call}(ho:o.op= .call c)(g:eQ E rg h o=some (r,h')):
 j4 ι h w r h' ((execOp a.eval o).run E.P w):=by
 simp only[eQ,zU,ho]at g;split at g
 ·simp at g
 ·rename_i args j;have A:=tA I j;split at g
  ·rename_i f i;split at g
   ·rename_i k lQ Z;split at g
    ·rename_i fn A1;split at g
     ·rename_i A2;simp at g;obtain⟨rfl,rfl⟩:=g;have hr:=bM I Z;obtain⟨cs,B,J⟩:∃cs,a.eval f= .func (.func k) #[] cs/\bp ι lQ cs.toList:=by
       cases F:a.eval f<;>rw[F]at hr<;>cases hr;exact⟨_,rfl,‹_›,‹_›⟩
      obtain⟨C,m⟩:=N.fn k fn A1;have A3:fn.body.isNone=false:=(by cases F:fn.body<;>simp_all);have:(execOp a.eval o).run E.P w= .ok (.enter k (c.args.map a.eval++cs)) w:=by
       simp only[execOp,ho,resolve,i,Deferred.ofValue,B,invoke,callFunc,Sem.run_bind,Sem.run_pure,Result.andThen_ok,run_program,C,m,A3];simp
      rw[this];exact⟨_,rfl,by simpa using A.append J,rfl,rfl⟩
     ·split at g
      ·rename_i xf D;split at g
       ·rename_i v hv;simp at g;obtain⟨rfl,rfl⟩:=g;have hr:=bM I Z;obtain⟨cs,B,J⟩:∃cs,a.eval f= .func (.func k) #[] cs/\bp ι lQ cs.toList:=by
         cases F:a.eval f<;>rw[F]at hr<;>cases hr;exact⟨_,rfl,‹_›,‹_›⟩
        obtain⟨A4,e,C,m,hb,A5,Au,he⟩:=N.ext k _ D;obtain⟨y,Q,C1⟩:=he (bO:=c.args.map a.eval++cs) (w:=w) hv (by simpa using A.append J);have C2:A4.body.isNone=true:=(by rw[hb];rfl);have C3:=run_callFunc_extern C m C2 A5 Au (c.args.map a.eval++cs) w;have:(execOp a.eval o).run E.P w= .ok (.value y) w:=by
         simp only[execOp,ho,resolve,i,Deferred.ofValue,B,invoke,Sem.run_bind,Sem.run_pure,Result.andThen_ok];rw[Array.empty_append,C3,Q];rfl
        exact .pure O this C1
       ·simp at g
      ·simp at g
    ·simp at g
   ·rename_i l Z;split at g
    ·rename_i st pd n C8 ps ae b hl;split at g
     ·rename_i hlen;simp at g;obtain⟨rfl,rfl⟩:=g;have hr:=bM I Z;obtain⟨L,B,hL⟩:∃L,a.eval f= .func (.yield L.b) #[] #[]/\ι l=some L:=by
       cases F:a.eval f<;>rw[F]at hr<;>cases hr;exact⟨_,rfl,‹_›⟩
      obtain⟨ob,R,hO⟩:=O.obj l L hL;rw[hl]at R;cases R;obtain⟨tm,df,fn,S,U,C7⟩:=hO;have C4:(c.args.map a.eval).size=ps.size:=by
       have:=A.1;simp at this⊢;omega
      have:(execOp a.eval o).run E.P w= .ok (.round L.b fn ((ps.zip (c.args.map a.eval)).foldl (λt x=>t.setIfInBounds x.1 x.2) tm) ae b) w:=by
       simp only[execOp,ho,resolve,i,Deferred.ofValue,B,invoke,Sem.run_bind,Sem.run_pure,Result.andThen_ok,Instr.yield];have C5:(Instr.getLoop L.b).run E.P w= .ok {state:=st,pending:=pd,fn:=fn,tmps:=tm,params:=ps,assign:=ae,body:=b,defers:=df} w:=by
        simp[Instr.getLoop,getObj,Sem.run,S,Sem.bind,Bind.bind,Pure.pure]
       simp only[C5,Result.andThen_ok];simp[C4]
      have hm:c.args.map a.eval=(List.map a.eval c.args.toList).toArray:=(by apply iJ;simp);rw[this];exact⟨_,_,_,_,_,_,_,_,_,_,_,rfl,hL,hl,S,U,A,rfl,by have:=A.1;simp at this⊢;omega,by rw[hm],rfl,rfl⟩
     ·simp at g
    ·simp at g
   ·simp at g
  ·simp at g
  ·rename_i b i;split at g
   ·
     rename_i x;obtain⟨u,hu,V⟩:=E0 I j;split at g
     ·rename_i t ht;split at g
      ·rename_i v hv;simp at g;obtain⟨rfl,rfl⟩:=g;obtain⟨y,Q,hr⟩:=CE N O (ty:=o.type) V ht hv;exact .pure O (by rw[nF ho i _ λ_=>by rw[hu];rfl,Q];rfl) hr
      ·simp at g
     ·simp at g
   ·
     rename_i s x;obtain⟨u,v,K,hs,V⟩:=Bk I j;split at g
     ·rename_i t tx ht C6;have fin:∀(hk:(∃e',E.P.underlying tx=some (.slice e'))\/E.P.underlying tx=some .string),(match aK E h t s x with
       |some (v,h')=>some (.val v,h')
       |none=>none)=some (r,h')->j4 ι h w r h' ((execOp a.eval o).run E.P w):=λhk g=>by
       split at g
       ·rename_i z h2 hz;simp at g;obtain⟨rfl,rfl⟩:=g;obtain⟨y,w',cW,Q,hr,D⟩:=DA N O (ty:=o.type) hs V hk hz;have W:Builtin.append_ c.argTypes o.type #[u,v]=Builtin.append_ #[t,tx] o.type #[u,v]:=by
         simp only[Builtin.append_,ht,C6];rfl
        exact .val (by rw[nF ho i _ λ_=>by rw[K];rfl,W,Q];rfl) hr D
       ·simp at g
      split at g
      ·rename_i e he;exact fin (.inl ⟨e,N.nv _ _ he⟩) g
      ·rename_i he;exact fin (.inr (N.nv _ _ he)) g
      ·simp at g
     ·simp at g
   ·rename_i k p k' q;obtain⟨u,v,K,hs,V⟩:=Bk I j;simp at g;obtain⟨rfl,rfl⟩:=g;have F:=hs.iG;have h2:=V.iG;subst F h2;exact .pure O (by rw[nF ho i _ λ_=>by rw[K];rfl];simp[Builtin.max_,Builtin.max2]) (.int _ _)
   ·simp at g;obtain⟨rfl,rfl⟩:=g;have:(execOp a.eval o).run E.P w= .ok .recover w:=by
     simp[execOp,ho,resolve,i,invoke,builtin]
    rw[this];exact⟨rfl,rfl,rfl⟩
   ·simp at g
theorem wx(p:E.Ok)(j:cj ι rg a.tmps)(g:dt ι h w)(b:eQ E rg h o=some (r,h')):
 j4 ι h w r h' ((execOp a.eval o).run E.P w):=by
 cases ho:o.op with
 |move x=>exact(AH j g (.inl ho) b).post g
 |assign x=>exact(AH j g (.inr ho) b).post g
 |pick c x y=>exact(Ij j g ho b).post g
 |alloc e=>exact KI p g ho b
 |box e x=>exact Qk p j g ho b
 |build t ps=>exact(E1 p j g ho b).post g
 |buildSlice t n ps=>exact Cb p j g ho b
 |load t x=>exact(Il p j g ho b).post g
 |store t x y=>exact KJ p j g ho b
 |nilCheck x=>exact(zY j g ho b).post g
 |binOp op t x y u=>exact(E2 p j g ho b).post g
 |unOp op t x=>exact(Ii j g ho b).post g
 |convert s d x=>exact G6 p j g ho b
 |makeInterface t x=>exact(tz p j g ho b).post g
 |makeFunc f x c=>exact(zV j g ho b).post g
 |makeMap t x=>exact G1 g ho b
 |makeSlice t l c=>exact Dv p j g ho b
 |slice t x l u m=>exact(EW p j g ho b).post g
 |fieldAddr s x f=>exact(x9 p j g ho b).post g
 |field s x f=>exact(EX p j g ho b).post g
 |indexAddr t x i=>exact(ya p j g ho b).post g
 |index t x i=>exact(EY p j g ho b).post g
 |lookup t x i ok=>exact(CD p j g ho b).post g
 |mapUpdate t m k x=>exact Dy p j g ho b
 |typeAssert x t u ok=>exact(xh p j g ho b).post g
 |extract t i=>exact(Bh j g ho b).post g
 |call c=>exact NC p j g ho b
 |defer c=>exact KG j g ho b
 |panic x=>exact KD j g ho b
 |_=>simp[eQ,ho]at b
end
end Go.Am
