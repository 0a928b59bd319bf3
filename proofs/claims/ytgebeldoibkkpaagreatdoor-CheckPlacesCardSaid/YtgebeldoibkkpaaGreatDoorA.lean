/- Lemmas for CheckPlaces; each states its own conditions. -/
import Derived.RecoverIn
import Derived.RangeFuncIn
import Derived.OrdersIn
import Derived.Orders
import Derived.Laws.AppendOwn
import Derived.Laws.CopyRow
import Derived.Laws.StructEq
import Derived.Laws.Rows
import Derived.Laws.Build
import Derived.Deep.AppendSrc
import Derived.Deep.Upon
set_option maxRecDepth 100000
set_option maxHeartbeats 0
set_option linter.unusedVariables false
set_option linter.unusedSimpArgs false
set_option linter.unusedSectionVars false
namespace Go.Am
abbrev ai:=@List.length_cons
abbrev aj:=@List.getElem?_eq_getElem
abbrev ao:=@Nat.le_refl
abbrev aq:=@List.mem_cons
abbrev aw:=@Nat.lt_of_lt_of_le
abbrev ay:=@List.mem_cons_of_mem
abbrev az:=@if_neg
abbrev aH:=@beq_eq_false_iff_ne
abbrev aI:=@Nat.add_assoc
abbrev aP:=@List.mem_append
abbrev aR:=@List.mem_singleton
abbrev aU:=@List.getElem?_eq_some_iff
abbrev aW:=@if_pos
abbrev aY:=@List.mem_cons_self
abbrev bd:=@List.not_mem_nil
abbrev bg:=@List.mem_of_getElem?
abbrev bk:=@Nat.le_trans
abbrev bu:=@List.suffix_refl
abbrev bw:=@Option.some.injEq
abbrev bz:=@List.length_nil
abbrev bJ:=@List.mem_append_right
abbrev bK:=@List.getElem_mem
abbrev bO:=@List.length_append
abbrev bP:=@Array.getElem?_eq_some_iff
abbrev bQ:=@List.getElem?_map
abbrev bU:=@List.length_drop
abbrev bX:=@Nat.zero_le
abbrev bZ:=@List.cons_append
abbrev ca:=@List.drop_eq_getElem_cons
abbrev cd:=@List.nil_append
abbrev cj:=@List.append_assoc
abbrev ct:=@Nat.eq_or_lt_of_le
abbrev cw:=@List.eq_nil_of_length_eq_zero
abbrev cI:=@List.length_take
abbrev cR:=@Nat.le_succ
abbrev cT:=@or_false
abbrev cY:=@List.map_cons
abbrev dw:=@List.all_eq_true
abbrev dG:=@List.take_add_one
abbrev dH:=@List.take_length
abbrev dT:=@not_false_eq_true
abbrev ed:=@List.getElem?_cons_zero
abbrev eh:=@UInt8.toNat.inj
abbrev et:=@Array.getElem?_setIfInBounds_ne
abbrev eM:=@Bool.and_eq_true
abbrev eQ:=@List.drop_length
abbrev eW:=@Nat.lt_or_ge
abbrev eX:=@List.take_of_length_le
abbrev eY:=@Nat.zero_add
abbrev fi:=@Bool.true_and
abbrev fu:=@List.getElem?_eq_none
abbrev fy:=@Int.tdiv_eq_ediv_of_nonneg
abbrev fO:=@not_or
abbrev fR:=@List.getElem?_append
abbrev gh:=@Prod.mk.injEq
abbrev gO:=@List.getElem?_take
abbrev gQ:=@List.getElem?_drop
abbrev gR:=@Bool.false_eq_true
abbrev gS:=@List.mem_append_left
abbrev gV:=@Bool.or_eq_false_iff
abbrev gX:=@Bool.false_and
abbrev gZ:=@List.append_nil
abbrev im:=@Nat.le_max_right
abbrev iw:=@Ne.symm
abbrev iz:=@List.getElem?_append_left
abbrev iI:=@Array.getElem?_modify
abbrev iJ:=@Nat.le_of_ble_eq_true
abbrev iO:=@List.nodup_cons
abbrev iP:=@Nat.le_max_left
abbrev iV:=@Nat.mul_le_mul_right
abbrev iW:=@if_false
abbrev jf:=@Array.ext'
abbrev jg:=@and_true
abbrev jh:=@List.isPrefixOf_iff_prefix
abbrev ji:=@List.getElem?_append_right
abbrev jz:=@Nat.eq_of_beq_eq_true
abbrev jH:=@List.length_modify
abbrev j0:=@Bool.eq_false_iff
abbrev j1:=@List.flatten_cons
abbrev j4:=@Nat.min_eq_left
abbrev j5:=@List.foldl_cons
abbrev j6:=@List.mem_zipIdx_iff_getElem?
abbrev j7:=@List.map_append
abbrev kg:=@List.getElem_of_mem
abbrev lM:=@if_true
abbrev lN:=@List.contains_iff_mem
abbrev lV:=@Array.getElem?_eq_getElem
abbrev mz:=@Nat.blt_eq
abbrev ow:=@List.mem_map
abbrev oy:=@Array.getElem?_eq_none
abbrev oz:=@List.map_nil
abbrev oS:=@Bool.or_eq_true
abbrev oT:=@Bool.eq_iff_iff
abbrev oU:=@Bool.false_or
abbrev qB:=@List.getD_eq_getElem?_getD
abbrev qC:=@beq_iff_eq
abbrev qD:=@true_and
abbrev qR:=@Nat.add_zero
abbrev qS:=@Nat.le_add_right
abbrev qT:=@List.any_eq_true
abbrev rU:=@and_self
abbrev uw:=@Nat.mul_le_mul
abbrev ux:=@List.flatMap_cons
abbrev uy:=@Bool.not_false
abbrev uz:=@Bool.true_or
abbrev uA:=@Function.comp_def
abbrev vF:=@List.eq_nil_iff_forall_not_mem
abbrev wz:=@congrArg
abbrev wA:=@List.mem_of_mem_drop
abbrev xI:=@Option.map_some
abbrev xJ:=@List.cons.injEq
abbrev x8:=@Nat.testBit_two_pow
abbrev yj:=@Array.getD_eq_getD_getElem?
abbrev yE:=@cond_true
abbrev zk:=@Array.toList_range
abbrev zm:=@Array.getElem?_append_left
theorem om {p:Prop}(h:p:=by omega):p:=h
theorem sp {p:Prop}(h:p:=by simp):p:=h
theorem dc {p:Prop}(h:p:=by decide):p:=h
inductive T(α:Type) where
 |nil
 |node (v:Option α) (l r:T α)
noncomputable section
namespace T
variable{α:Type}
def get(t:T α):Nat->Option α:=
 T.rec (motive:=fun _=>Nat->Option α) (fun _=>none)
  (fun v _ _ gl gr n=>Nat.rec (motive:=fun _=>Option α) v (fun m _=>Bool.rec (motive:=fun _=>Nat->Option α) gr gl (Nat.beq (Nat.mod m 2) 0) (Nat.div m 2)) n) t
def mk(a:α):Nat->Nat->T α
 |0,_=>nil
 |f+1,n=>match n with
  |0=>node (some a) nil nil
  |m+1=>bif Nat.beq (m%2) 0 then node none (mk a f (m/2)) nil else node none nil (mk a f (m/2))
def set(a:α)(t:T α):Nat->T α:=
 T.rec (motive:=fun _=>Nat->T α) (fun n=>mk a (n+1) n)
  (fun v l r sl sr n=>Nat.rec (motive:=fun _=>T α) (node (some a) l r) (fun m _=>Bool.rec (motive:=fun _=>T α) (node v l (sr (Nat.div m 2))) (node v (sl (Nat.div m 2)) r) (Nat.beq (Nat.mod m 2) 0)) n) t
def del:T α->Nat->T α
 |nil,_=>nil
 |node v l r,n=>match n with
  |0=>node none l r
  |m+1=>bif Nat.beq (m%2) 0 then node v (del l (m/2)) r else node v l (del r (m/2))
end T
inductive AV where
 |bool (b:Bool)
 |int (k:IntKind) (n:Int)
 |str (s:List UInt8)
 |ptr (a:Option (Nat×Nat))
 |slice (a:Option (Nat×Nat)) (len:Nat)
 |map (r:Option Nat)
 |func (f:FuncId) (ko:List AV)
 |CG (l:Nat)
 |nilFunc
 |iface (t:TypeId) (v:AV)
 |nilIface
 |agg (cs:List AV)
 |iX (vs:List AV)
 deriving Inhabited
def AV.scalar:AV->Bool
 | .agg _| .iX _=>false
 |_=>true
def AV.cells:AV->List AV
 | .agg cs=>cs
 |v=>[v]
def Gb:Option (Nat×Nat)->Option (Nat×Nat)->Bool
 |none,none=>true
 |some a,some b=>Nat.beq a.1 b.1&&Nat.beq a.2 b.2
 |_,_=>false
def KP:Option Nat->Option Nat->Bool
 |none,none=>true
 |some a,some b=>Nat.beq a b
 |_,_=>false
mutual
def AV.beq:AV->AV->Bool
 | .bool a,.bool b=>a==b
 | .int k a,.int k' b=>k==k'&&a==b
 | .str a,.str b=>a==b
 | .ptr a,.ptr b=>Gb a b
 | .slice a n,.slice b m=>Gb a b&&Nat.beq n m
 | .map a,.map b=>KP a b
 | .func f cs,.func g ds=>Nat.beq f g&&AV.KQ cs ds
 | .CG a,.CG b=>Nat.beq a b
 | .nilFunc,.nilFunc=>true
 | .iface t v,.iface u w=>Nat.beq t u&&AV.beq v w
 | .nilIface,.nilIface=>true
 | .agg cs,.agg ds=>AV.KQ cs ds
 | .iX cs,.iX ds=>AV.KQ cs ds
 |_,_=>false
def AV.KQ:List AV->List AV->Bool
 |[],[]=>true
 |a::r,b::s=>AV.beq a b&&AV.KQ r s
 |_,_=>false
end
theorem CH(a b:Option (Nat×Nat)):Gb a b=true↔a=b:=by
 rcases a with _|⟨a1,a2⟩<;>rcases b with _|⟨b1,b2⟩<;>simp[Gb]
theorem KR(a b:Option Nat):KP a b=true↔a=b:=by
 cases a<;>cases b<;>simp[KP]
mutual
theorem AV.beq_iff:∀(a b:AV),AV.beq a b=true↔a=b
 | .bool a,b=>by cases b<;>simp[AV.beq]
 | .int k a,b=>by cases b<;>simp[AV.beq]
 | .str a,b=>by cases b<;>simp[AV.beq]
 | .ptr a,b=>by cases b<;>simp[AV.beq,CH]
 | .slice a n,b=>by cases b<;>simp[AV.beq,CH]
 | .map a,b=>by cases b<;>simp[AV.beq,KR]
 | .func f cs,b=>by cases b<;>simp[AV.beq,AV.zz cs]
 | .CG a,b=>by cases b<;>simp[AV.beq]
 | .nilFunc,b=>by cases b<;>simp[AV.beq]
 | .iface t v,b=>by cases b<;>simp[AV.beq,AV.beq_iff v]
 | .nilIface,b=>by cases b<;>simp[AV.beq]
 | .agg cs,b=>by cases b<;>simp[AV.beq,AV.zz cs]
 | .iX cs,b=>by cases b<;>simp[AV.beq,AV.zz cs]
theorem AV.zz:∀(a b:List AV),AV.KQ a b=true↔a=b
 |[],b=>by cases b<;>simp[AV.KQ]
 |x::r,b=>by cases b<;>simp[AV.KQ,AV.beq_iff x,AV.zz r]
end
inductive ej where
 |cells (rw:Bool) (es:Nat) (cs:List AV)
 |map (iG:List (AV×AV))
 |loop (state:LoopState) (pending:Option Code) (n:Nat) (rg:T AV) (params:Array Tmp) (assign body:Code)
 |MM (s:List UInt8) (pos:Nat)
 |Br (m:Nat)
 |sI
 |dead
abbrev AV.I(n:Int):AV:= .int .i64 n
abbrev AV.P(i:Nat):AV:= .ptr (some (i,0))
abbrev AV.S(i n:Nat):AV:= .slice (some (i,0)) n
abbrev AV.Z:AV:= .slice none 0
abbrev AV.N:AV:= .ptr none
abbrev ej.C(l:List AV):ej:= .cells true 0 l
structure ah where
 next:Nat
 ob:T ej
def ah.get(h:ah)(i:Nat):Option ej:=h.ob.get i
def ah.set(h:ah)(i:Nat)(o:ej):ah:={h with ob:=h.ob.set o i}
def ah.alloc(h:ah)(o:ej):Nat×ah:=(h.next,{next:=h.next+1,ob:=h.ob.set o h.next})
def ah.loadCells(h:ah)(i off n:Nat):Option (List AV):=
 match h.get i with
 |some (.cells _ _ cs)=>if off+n<=cs.length then some ((cs.drop off).take n)else none
 |_=>none
def ah.tP(h:ah)(i off:Nat):Option AV:=
 match h.get i with
 |some (.cells _ _ cs)=>cs[off]?
 |_=>none
def ah.storeCells(h:ah)(i off:Nat)(vs:List AV):Option ah:=
 match h.get i with
 |some (.cells true es cs)=>
  if off+vs.length<=cs.length/\vs.all AV.scalar then some (h.set i (.cells true es (cs.take off++vs++cs.drop (off+vs.length))))else none
 |_=>none
inductive Out where
 |ret (v:AV)
 |iS (v:AV)
structure Env where
 P:Program
 fn:FuncId->Option Func
 kQ:TypeId->Option TypeDesc
 siz:TypeId->Option Nat
 byt:TypeId->Option Nat
 zer:TypeId->Option (List AV)
 flat:TypeId->Option (List (Nat×Nat))
 ext:FuncId->Option (List AV->Option AV)
 fw:FuncId->Option (List AV->ah->Option (Out×ah))
def Env.isAgg(E:Env)(t:TypeId):Option Bool:=
 match E.kQ t with
 |some (.struct _)|some (.array _ _)=>some true
 |some _=>some false
 |none=>none
def iM:Value->Option AV
 | .bool b=>some (.bool b)
 | .int k n=>some (.int k n)
 | .string s=>some (.str s.data.toList)
 | .pointer none=>some (.ptr none)
 | .slice none 0 0=>some (.slice none 0)
 | .map none=>some (.map none)
 | .nilFunc=>some .nilFunc
 | .nilIface=>some .nilIface
 |_=>none
def yk:List Value->Option (List AV)
 |[]=>some []
 |v::r=>match iM v,yk r with
  |some a,some b=>some (a::b)
  |_,_=>none
def UM:Value->Option AV
 | .agg cs=>(yk cs.toList).map .agg
 | .iface t v=>(iM v).map (.iface t)
 |v=>iM v
def ic(rg:T AV):Operand->Option AV
 | .tmp t=>rg.get t
 | .const v=>UM v
 | .global _=>none
 | .func f=>some (.func f [])
def oP(rg:T AV):List Operand->Option (List AV)
 |[]=>some []
 |x::r=>match ic rg x,oP rg r with
  |some a,some b=>some (a::b)
  |_,_=>none
def eH(rg:T AV)(d:Option Tmp)(v:AV):T AV:=
 match d with
 |some d=>rg.set v d
 |none=>rg
def cn(s:Sem Value):Option AV:=
 match s with
 | .pure v=>iM v
 |_=>none
def CI(k:Nat)(x y:AV):Option Bool:=
 match k,x,y with
 |0,.bool a,.bool b=>some (a==b)
 |1,.str a,.str b=>some (a==b)
 |2,.int k a,.int k' b=>if k=k' then some (a==b)else none
 |_,_,_=>none
def yF(xs ys:List AV):List (Nat×Nat)->Option Bool
 |[]=>some true
 |(o,k)::r=>match xs[o]?,ys[o]? with
  |some x,some y=>match CI k x y with
   |some true=>yF xs ys r
   |some false=>some false
   |none=>none
  |_,_=>none
def vI(h:ah)(p q:Nat×Nat):Option Bool:=
 match h.get p.1,h.get q.1 with
 |some (.cells r _ _),some (.cells r' _ _)=>if p.1=q.1 then some (p.2==q.2)else if r&&r' then some false else none
 |_,_=>none
def jP:Operand->Bool
 | .const _=>true
 |_=>false
def E2(E:Env)(h:ah)(t:TypeId)(c:Bool)(x y:AV):Option Bool:=
 match x,y with
 | .bool a,.bool b=>match E.kQ t with|some .bool=>some (a==b)|_=>none
 | .ptr a,.ptr b=>match E.kQ t with
  |some (.pointer e)=>match a,b with
   |none,none=>some true
   |none,some _=>some false
   |some _,none=>some false
   |some p,some q=>match E.siz e with
    |some (_+1)=>vI h p q
    |_=>none
  |_=>none
 | .nilIface,.nilIface=>match E.kQ t with|some (.interface _)=>if c then some true else none|_=>none
 | .nilIface,.iface _ _=>match E.kQ t with|some (.interface _)=>some false|_=>none
 | .iface _ _,.nilIface=>match E.kQ t with|some (.interface _)=>some false|_=>none
 | .slice a _,.slice none _=>match E.kQ t with|some (.slice _)=>some a.isNone|_=>none
 | .map a,.map none=>match E.kQ t with|some (.map _ _)=>some a.isNone|_=>none
 | .agg xs,.agg ys=>match E.flat t with
  |some B4=>yF xs ys B4
  |none=>none
 |_,_=>none
def AI(E:Env)(h:ah)(op:BinOp)(t:TypeId)(c:Bool)(x y:AV):Option AV:=
 match x,y with
 | .int k a,.int k' b=>cn (Go.binOp op t (.int k a) (.int k' b))
 | .str a,.str b=>match op with
  | .add=>if a.length+b.length<=4611686018427387904 then some (.str (a++b))else none
  | .eql=>some (.bool (a==b))
  | .neq=>some (.bool (!(a==b)))
  | .lss=>some (.bool (Op.bytesLess a b))
  | .leq=>some (.bool (Op.bytesLess a b||a==b))
  | .gtr=>some (.bool (!(Op.bytesLess a b||a==b)))
  | .geq=>some (.bool (!Op.bytesLess a b))
  |_=>none
 |x,y=>match op with
  | .eql=>(E2 E h t c x y).map .bool
  | .neq=>(E2 E h t c x y).map fun b=> .bool (!b)
  |_=>none
def unA(op:UnOp)(x:AV):Option AV:=
 match x with
 | .int k n=>cn (Op.unary op (.int k n))
 | .bool b=>cn (Op.unary op (.bool b))
 |_=>none
def vJ(place:Nat->Option (Nat×Nat))(cells:List AV):List (Nat×AV)->Option (List AV)
 |[]=>some cells
 |(i,v)::rest=>match place i with
  |none=>none
  |some (off,size)=>
   if v.cells.length=size/\off+size<=cells.length/\v.cells.all AV.scalar then
    vJ place (cells.take off++v.cells++cells.drop (off+size)) rest
   else none
def nM(rg:T AV):List (Nat×Operand)->Option (List (Nat×AV))
 |[]=>some []
 |(i,x)::r=>match ic rg x,nM rg r with
  |some a,some b=>some ((i,a)::b)
  |_,_=>none
def rJ(E:Env):List Field->Option (List (Nat×Nat))
 |[]=>some []
 |f::r=>match E.siz f.type,rJ E r with
  |some s,some l=>some ((f.offset,s)::l)
  |_,_=>none
def Bs(E:Env)(t:TypeId)(cs:List AV)(off:Nat):Option AV:=
 match E.isAgg t,E.siz t with
 |some true,some n=>if off+n<=cs.length then some (.agg ((cs.drop off).take n))else none
 |some false,some _=>cs[off]?
 |_,_=>none
def CJ(v:AV)(y:Nat):Option Nat:=
 match v with
 | .int _ i=>if 0<=i/\i<=y then some i.toNat else none
 |_=>none
def kh(rg:T AV)(len cap:Nat)(low high:Option Operand):Option (Nat×Nat):=
 match(match high with
  |none=>some len
  |some x=>match ic rg x with
   |some v=>CJ v cap
   |none=>none)with
 |none=>none
 |some hi=>match low with
  |none=>some (0,hi)
  |some x=>match ic rg x with
   |some v=>match CJ v hi with
    |some l=>some (l,hi)
    |none=>none
   |none=>none
def oA(h:ah):AV->AV->Option Bool
 | .int k a,.int k' b=>if k=k' then some (a==b)else none
 | .str a,.str b=>some (a==b)
 | .bool a,.bool b=>some (a==b)
 | .ptr (some p),.ptr (some q)=>vI h p q
 |_,_=>none
def fq(h:ah)(k:AV):List (AV×AV)->Nat->Option (Option (Nat×AV))
 |[],_=>some none
 |e::es,i=>match oA h k e.1 with
  |some true=>some (some (i,e.2))
  |some false=>fq h k es (i+1)
  |none=>none
def ah.iG(h:ah):Option Nat->Option (List (AV×AV))
 |none=>some []
 |some r=>match h.get r with
  |some (.map es)=>some es
  |_=>none
def zA(E:Env)(t:TypeId)(k:AV):Bool:=
 match E.kQ t,k with
 |some (.int q),.int k' _=>q==k'
 |some .string,.str _=>true
 |some .bool,.bool _=>true
 |some (.pointer e),.ptr (some _)=>match E.siz e with|some (_+1)=>true|_=>false
 |_,_=>false
def roomy:Nat:=1073741824
def OA(h:ah)(es:Nat):AV->Option (Nat×List AV)
 | .slice none 0=>some (0,[])
 | .slice (some (i,off)) n=>match h.loadCells i off (n*es)with
  |some cs=>if cs.all AV.scalar then some (n,cs)else none
  |none=>none
 | .str l=>if es=1 then some (l.length,l.map fun b=> .int .u8 b.toNat)else none
 |_=>none
def aO(E:Env)(h:ah)(st:TypeId)(s x:AV):Option (AV×ah):=
 match E.kQ st with
 |some (.slice e)=>match E.siz e,E.byt e,E.zer e with
  |some (es+1),some uB,some zl=>
   if zl.length≠es+1 then none else
   match OA h (es+1) x with
   |none=>none
   |some (n,new)=>
    match s with
    | .slice none 0=>
     if roomy<n*(uB+1)then none else
     if n=0 then some (.slice none 0,h)else
     some (.slice (some (h.next,0)) n,(h.alloc (.cells true (es+1) new)).2)
    | .slice (some (i,off)) len=>
     if roomy<(len+n)*(uB+1)then none else
     match h.get i with
     |some (.cells true Kk cs)=>
      if Kk≠es+1 then none
      else if n=0 then some (.slice (some (i,off)) len,h)
      else if off+(len+n)*(es+1)<=cs.length then
       match h.storeCells i (off+len*(es+1)) new with
       |some h'=>some (.slice (some (i,off)) (len+n),h')
       |none=>none
      else if off+len*(es+1)<=cs.length then
       some (.slice (some (h.next,0)) (len+n),((h.set i .dead).alloc (.cells true (es+1) ((cs.drop off).take (len*(es+1))++new))).2)
      else none
     |_=>none
    |_=>none
  |_,_,_=>none
 |_=>none
def MO(E:Env)(h:ah)(dt:TypeId)(d x:AV):Option (AV×ah):=
 match E.kQ dt with
 |some (.slice e)=>match E.siz e,d,x with
  |some es,.slice (some (i,off)) dl,.slice (some (j,abR)) sl=>
   let n:=Nat.min sl dl
   match h.loadCells j abR (n*es)with
   |some cs=>(h.storeCells i off cs).map fun h'=>(.int .i64 n,h')
   |none=>none
  |some _,.slice none 0,.slice _ _=>some (.int .i64 0,h)
  |some _,.slice (some _) _,.slice none 0=>some (.int .i64 0,h)
  |_,_,_=>none
 |_=>none
def Eo(E:Env)(h:ah)(t:TypeId)(x:AV):Option AV:=
 match E.kQ t,x with
 |some .string,.str s=>some (.int .i64 s.length)
 |some (.array n _),_=>some (.int .i64 n)
 |some (.slice _),.slice _ n=>some (.int .i64 n)
 |some (.map _ _),.map none=>some (.int .i64 0)
 |some (.map _ _),.map (some r)=>match h.get r with
  |some (.map es)=>some (.int .i64 es.length)
  |_=>none
 |_,_=>none
inductive dZ where
 |val (v:AV)
 |skip
 |enter (f:FuncId) (args:List AV)
 |yield (l:Nat) (args:List AV)
 |defer (f:FuncId) (args:List AV)
 |recover
 |panic (v:AV)
def dK(E:Env)(rg:T AV)(h:ah)(x:Operand):Option (dZ×ah):=
 match ic rg x with
  |some v=>some (.val v,h)
  |none=>none
def dM(E:Env)(rg:T AV)(h:ah)(c:Operand)(a:Operand)(b:Operand):Option (dZ×ah):=
 match ic rg c with
  |some (.bool true)=>match ic rg a with
   |some v=>some (.val v,h)
   |none=>none
  |some (.bool false)=>match ic rg b with
   |some v=>some (.val v,h)
   |none=>none
  |_=>none
def cx(E:Env)(rg:T AV)(h:ah)(t:TypeId):Option (dZ×ah):=
 match E.zer t with
  |some cs=>some (.val (.ptr (some (h.next,0))),(h.alloc (.cells true 0 cs)).2)
  |_=>none
def fY(E:Env)(rg:T AV)(h:ah)(x:Operand):Option (dZ×ah):=
 match ic rg x with
  |some v=>if v.cells.all AV.scalar then some (.val (.ptr (some (h.next,0))),(h.alloc (.cells true 0 v.cells)).2)else none
  |_=>none
def cy(E:Env)(rg:T AV)(h:ah)(t:TypeId)(parts:Array (Nat×Operand)):Option (dZ×ah):=
 match E.zer t,E.kQ t,nM rg parts.toList with
  |some z,some (.struct fs),some ps=>match rJ E fs.toList with
   |some pl=>match vJ (pl[·]?) z ps with
    |some cs=>some (.val (.agg cs),h)
    |none=>none
   |none=>none
  |some z,some (.array _ e),some ps=>match E.siz e with
   |some s=>match vJ (fun i=>some (i*s,s)) z ps with
    |some cs=>some (.val (.agg cs),h)
    |none=>none
   |none=>none
  |_,_,_=>none
def ba(E:Env)(rg:T AV)(h:ah)(t:TypeId)(len:Nat)(parts:Array (Nat×Operand)):Option (dZ×ah):=
 match E.kQ t,nM rg parts.toList with
  |some (.slice e),some ps=>match E.siz e,E.zer e with
   |some (s+1),some z=>
    if len<=1000/\s<=1000/\z.length=s+1 then
     match vJ (fun i=>some (i*(s+1),s+1)) (List.replicate len z).flatten ps with
     |some cs=>some (.val (.slice (some (h.next,0)) len),(h.alloc (.cells true (s+1) cs)).2)
     |none=>none
    else none
   |_,_=>none
  |_,_=>none
def dN(E:Env)(rg:T AV)(h:ah)(t:TypeId)(a:Operand):Option (dZ×ah):=
 match ic rg a with
  |some (.ptr (some (i,off)))=>match E.isAgg t,E.siz t with
   |some true,some n=>match h.loadCells i off n with
    |some cs=>some (.val (.agg cs),h)
    |none=>none
   |some false,some _=>match h.tP i off with
    |some v=>some (.val v,h)
    |none=>none
   |_,_=>none
  |_=>none
def cz(E:Env)(rg:T AV)(h:ah)(t:TypeId)(a:Operand)(x:Operand):Option (dZ×ah):=
 match ic rg a,ic rg x with
  |some (.ptr (some (i,off))),some v=>
   if some v.cells.length=E.siz t then match h.storeCells i off v.cells with
    |some h'=>some (.skip,h')
    |none=>none
   else none
  |_,_=>none
def bG(E:Env)(rg:T AV)(h:ah)(x:Operand):Option (dZ×ah):=
 match ic rg x with
  |some (.ptr (some p))=>some (.val (.ptr (some p)),h)
  |some (.func f cs)=>some (.val (.func f cs),h)
  |some (.CG l)=>some (.val (.CG l),h)
  |_=>none
def cu(E:Env)(rg:T AV)(h:ah)(op:BinOp)(t:TypeId)(x:Operand)(y:Operand):Option (dZ×ah):=
 match ic rg x,ic rg y with
  |some a,some b=>match AI E h op t (jP x||jP y) a b with
   |some v=>some (.val v,h)
   |none=>none
  |_,_=>none
def dO(E:Env)(rg:T AV)(h:ah)(op:UnOp)(x:Operand):Option (dZ×ah):=
 match ic rg x with
  |some a=>match unA op a with
   |some v=>some (.val v,h)
   |none=>none
  |none=>none
def bL(E:Env)(rg:T AV)(h:ah)(s:TypeId)(d:TypeId)(x:Operand):Option (dZ×ah):=
 match E.kQ s,E.kQ d,ic rg x with
  |some _,some (.int k),some (.int _ n)=>match cn (Conv.intToInt k n)with
   |some v=>some (.val v,h)
   |none=>none
  |some .string,some .string,some (.str l)=>some (.val (.str l),h)
  |some .string,some (.slice e),some (.str l)=>match E.kQ e with
   |some (.int .u8)=>if roomy<l.length then none else
    some (.val (.slice (some (h.next,0)) l.length),(h.alloc (.cells false 1 (l.map fun b=> .int .u8 b.toNat))).2)
   |_=>none
  |_,_,_=>none
def aT(E:Env)(rg:T AV)(h:ah)(t:TypeId)(x:Operand):Option (dZ×ah):=
 match E.kQ t,ic rg x with
  |some (.interface _),_=>none
  |some _,some v=>some (.val (.iface t v),h)
  |_,_=>none
def bH(E:Env)(rg:T AV)(h:ah)(f:FuncId)(first:Array Operand)(ko:Array Operand):Option (dZ×ah):=
 match first.toList,oP rg ko.toList with
  |[],some cs=>some (.val (.func f cs),h)
  |_,_=>none
def bN(E:Env)(rg:T AV)(h:ah):Option (dZ×ah):=
 some (.val (.map (some h.next)),(h.alloc (.map [])).2)
def bh(E:Env)(rg:T AV)(h:ah)(t:TypeId)(l:Operand)(c:Operand):Option (dZ×ah):=
 match E.kQ t,ic rg l,ic rg c with
  |some (.slice e),some (.int .i64 n),some (.int .i64 n')=>match E.siz e,E.byt e,E.zer e with
   |some (s+1),some b,some z=>
    if n=n'/\0<=n/\n.toNat*(b+1)<=roomy/\z.length=s+1 then
     some (.val (.slice (some (h.next,0)) n.toNat),(h.alloc (.cells true (s+1) (List.replicate n.toNat z).flatten)).2)
    else none
   |_,_,_=>none
  |_,_,_=>none
def cA(E:Env)(rg:T AV)(h:ah)(t:TypeId)(x:Operand)(lo:Option Operand)(hi:Option Operand):Option (dZ×ah):=
 match E.kQ t,ic rg x with
  |some .string,some (.str s)=>match kh rg s.length s.length lo hi with
   |some (l,r)=>some (.val (.str ((s.take r).drop l)),h)
   |none=>none
  |some (.slice e),some (.slice a len)=>match E.siz e,kh rg len len lo hi with
   |some (s+1),some (l,r)=>match a with
    |some (i,off)=>match h.get i with
     |some (.cells rw es _)=>if rw=false\/es=0\/es=s+1 then some (.val (.slice (some (i,off+l*(s+1))) (r-l)),h)else none
     |_=>none
    |none=>some (.val (.slice none 0),h)
   |_,_=>none
  |some (.array n e),some (.ptr (some (i,off)))=>match E.siz e,kh rg n n lo hi,h.get i with
   |some (s+1),some (l,r),some (.cells rw es _)=>
    if rw=false\/es=0 then some (.val (.slice (some (i,off+l*(s+1))) (r-l)),h)else none
   |_,_,_=>none
  |_,_=>none
def bj(E:Env)(rg:T AV)(h:ah)(t:TypeId)(x:Operand)(f:Nat):Option (dZ×ah):=
 match E.kQ t,ic rg x with
  |some (.struct fs),some (.ptr (some (i,off)))=>match fs[f]? with
   |some fd=>match E.siz fd.type with
    |some (_+1)=>some (.val (.ptr (some (i,off+fd.offset))),h)
    |_=>none
   |none=>none
  |_,_=>none
def cB(E:Env)(rg:T AV)(h:ah)(t:TypeId)(x:Operand)(f:Nat):Option (dZ×ah):=
 match E.kQ t,ic rg x with
  |some (.struct fs),some (.agg cs)=>match fs[f]? with
   |some fd=>match Bs E fd.type cs fd.offset with
    |some v=>some (.val v,h)
    |none=>none
   |none=>none
  |_,_=>none
def bm(E:Env)(rg:T AV)(h:ah)(t:TypeId)(x:Operand)(ix:Operand):Option (dZ×ah):=
 match E.kQ t,ic rg x,ic rg ix with
  |some (.slice e),some (.slice (some (i,off)) len),some (.int _ n)=>match E.siz e with
   |some s=>if 0<=n/\n<len then some (.val (.ptr (some (i,off+n.toNat*s))),h)else none
   |none=>none
  |some (.array len e),some (.ptr (some (i,off))),some (.int _ n)=>match E.siz e with
   |some s=>if 0<=n/\n<len then some (.val (.ptr (some (i,off+n.toNat*s))),h)else none
   |none=>none
  |_,_,_=>none
def cC(E:Env)(rg:T AV)(h:ah)(t:TypeId)(x:Operand)(ix:Operand):Option (dZ×ah):=
 match E.kQ t,ic rg x,ic rg ix with
  |some .string,some (.str s),some (.int _ n)=>if 0<=n then match s[n.toNat]? with
   |some b=>some (.val (.int .u8 b.toNat),h)
   |none=>none
   else none
  |some (.array len e),some (.agg cs),some (.int _ n)=>match E.siz e with
   |some s=>if 0<=n/\n<len then match Bs E e cs (n.toNat*s)with
    |some v=>some (.val v,h)
    |none=>none
    else none
   |none=>none
  |_,_,_=>none
def bT(E:Env)(rg:T AV)(h:ah)(t:TypeId)(x:Operand)(ix:Operand)(ok:Bool):Option (dZ×ah):=
 match E.kQ t,ic rg x,ic rg ix with
  |some (.map kt vt),some (.map m),some k=>
   if zA E kt k then
    match h.iG m with
    |some es=>match fq h k es 0,E.zer vt,E.isAgg vt with
     |some (some (_,v)),_,_=>some (.val (if ok then .iX [v,.bool true]else v),h)
     |some none,some z,some ag=>
      match(if ag then some (.agg z)else z[0]?)with
      |some v=>some (.val (if ok then .iX [v,.bool false]else v),h)
      |none=>none
     |_,_,_=>none
    |none=>none
   else none
  |_,_,_=>none
def bp(E:Env)(rg:T AV)(h:ah)(t:TypeId)(m:Operand)(k:Operand)(x:Operand):Option (dZ×ah):=
 match E.kQ t,ic rg m,ic rg k,ic rg x with
  |some (.map kt _),some (.map (some r)),some k,some v=>
   if zA E kt k then match h.get r with
    |some (.map es)=>match fq h k es 0 with
     |some (some (i,_))=>some (.skip,h.set r (.map (es.modify i fun _=>(k,v))))
     |some none=>some (.skip,h.set r (.map (es++[(k,v)])))
     |none=>none
    |_=>none
   else none
  |_,_,_,_=>none
def bc(E:Env)(rg:T AV)(h:ah)(x:Operand)(t:TypeId)(ok:Bool):Option (dZ×ah):=
 match E.kQ t,ic rg x with
  |some (.interface _),_=>none
  |some _,some (.iface u v)=>
   if u=t then some (.val (if ok then .iX [v,.bool true]else v),h)
   else if ok then match E.zer t,E.isAgg t with
    |some z,some ag=>match(if ag then some (.agg z)else z[0]?)with
     |some v=>some (.val (.iX [v,.bool false]),h)
     |none=>none
    |_,_=>none
   else none
  |_,_=>none
def bM(E:Env)(rg:T AV)(h:ah)(x:Operand)(i:Nat):Option (dZ×ah):=
 match ic rg x with
  |some (.iX vs)=>match vs[i]? with
   |some v=>some (.val v,h)
   |none=>none
  |_=>none
def dQ(E:Env)(rg:T AV)(h:ah)(c:Call):Option (dZ×ah):=
 match oP rg c.args.toList with
  |none=>none
  |some args=>match c.callee with
   | .value f=>match ic rg f with
    |some (.func k ko)=>match E.fn k with
     |some fn=>if fn.body.isSome then some (.enter k (args++ko),h)else match E.ext k with
      |some f=>match f (args++ko)with
       |some v=>some (.val v,h)
       |none=>none
      |none=>none
     |none=>none
    |some (.CG l)=>match h.get l with
     |some (.loop _ _ _ _ ps _ _)=>if args.length=ps.size then some (.yield l args,h)else none
     |_=>none
    |_=>none
   | .invoke _ _=>none
   | .builtin b=>match b,args with
    | .len,[x]=>match c.argTypes[0]? with
     |some t=>match Eo E h t x with
      |some v=>some (.val v,h)
      |none=>none
     |none=>none
    | .append,[s,x]=>match c.argTypes[0]?,c.argTypes[1]? with
     |some t,some u=>match E.kQ u with
      |some (.slice _)|some .string=>match aO E h t s x with
       |some (v,h')=>some (.val v,h')
       |none=>none
      |_=>none
     |_,_=>none
    | .copy,[d,x]=>match c.argTypes[0]? with
     |some t=>match MO E h t d x with
      |some (v,h')=>some (.val v,h')
      |none=>none
     |none=>none
    | .max,[.int k a,.int _ b]=>some (.val (.int k (if b>a then b else a)),h)
    | .min,[.int k a,.int _ b]=>some (.val (.int k (if b<a then b else a)),h)
    | .recover,[]=>some (.recover,h)
    |_,_=>none
def cD(E:Env)(rg:T AV)(h:ah)(c:Call):Option (dZ×ah):=
 match oP rg c.args.toList,c.callee with
  |some args,.value f=>match ic rg f with
   |some (.func k ko)=>some (.defer k (args++ko),h)
   |_=>none
  |_,_=>none
def cF(E:Env)(rg:T AV)(h:ah)(x:Operand):Option (dZ×ah):=
 match ic rg x with
  |some (.iface t v)=>some (.panic (.iface t v),h)
  |_=>none
def cJ(E:Env)(rg:T AV)(h:ah)(t:TypeId)(x:Operand):Option (dZ×ah):=
 match E.kQ t,ic rg x with
  |some (.map _ _),some (.map (some m))=>match h.get m with
   |some (.map [])=>some (.val (.ptr (some (h.next,0))),(h.alloc (.Br m)).2)
   |_=>none
  |_,_=>none
def dU(E:Env)(rg:T AV)(h:ah)(x:Operand):Option (dZ×ah):=
 match ic rg x with
  |some (.ptr (some (i,0)))=>match h.get i with
   |some (.Br m)=>match h.get m with
    |some (.map [])=>some (.val (.iX [.bool false]),h)
    |_=>none
   |_=>none
  |_=>none
def eF(E:Env)(rg:T AV)(h:ah)(o:Oper):Option (dZ×ah):=
 match o.op with
 | .move x| .assign x=>dK E rg h x
 | .pick c a b=>dM E rg h c a b
 | .alloc t=>cx E rg h t
 | .box _ x=>fY E rg h x
 | .build t parts=>cy E rg h t parts
 | .buildSlice t len parts=>ba E rg h t len parts
 | .load t a=>dN E rg h t a
 | .store t a x=>cz E rg h t a x
 | .nilCheck x=>bG E rg h x
 | .binOp op t x y _=>cu E rg h op t x y
 | .unOp op _ x=>dO E rg h op x
 | .convert s d x=>bL E rg h s d x
 | .makeInterface t x=>aT E rg h t x
 | .makeFunc (.func f) first ko=>bH E rg h f first ko
 | .makeMap _ none=>bN E rg h
 | .makeSlice t l c=>bh E rg h t l c
 | .slice t x lo hi none=>cA E rg h t x lo hi
 | .fieldAddr t x f=>bj E rg h t x f
 | .field t x f=>cB E rg h t x f
 | .indexAddr t x ix=>bm E rg h t x ix
 | .index t x ix=>cC E rg h t x ix
 | .lookup t x ix ok=>bT E rg h t x ix ok
 | .mapUpdate t m k x=>bp E rg h t m k x
 | .typeAssert x _ t ok=>bc E rg h x t ok
 | .extract x i=>bM E rg h x i
 | .call c=>dQ E rg h c
 | .defer c=>cD E rg h c
 | .panic x=>cF E rg h x
 | .range t x=>cJ E rg h t x
 | .next x false=>dU E rg h x
 |_=>none
end
end Go.Am
namespace Go.Am
section
noncomputable section
inductive fJ where
 |call (f:FuncId) (args:List AV)
 |mark (r:Nat)
structure St where
 rg:T AV
 n:Nat
 h:ah
 ds:List fJ
 bI:Bool
inductive bt where
 |jL
 |exit (id:Nat)
 |ret
 |iS (v:AV)
abbrev mc:AV:= .iX []
def oC(n:Nat):Option Tmp->Bool
 |some d=>d<n
 |none=>true
def cf(ops:Array Oper)(n:Nat)(rg:T AV)(o:Oper):Option Bool:=
 if oC n o.dst then
  match o.guard with
  |none=>some true
  |some (j,want)=>match(ops[j]?).bind (·.dst)with
   |none=>some false
   |some d=>match rg.get d with
    |some (.bool b)=>some (b==want)
    |some (.iX [])=>some false
    |_=>none
 else none
abbrev dR:=FuncId->List AV->ah->Option (Out×ah)
abbrev cO:=Nat->List AV->ah->Option (AV×ah)
def nV(call:dR)(round:cO)(d:Option Tmp)(st:St):dZ×ah->Option (Option AV×St)
 |(.val v,h)=>some (none,{st with rg:=eH st.rg d v,h:=h})
 |(.skip,h)=>some (none,{st with rg:=eH st.rg d mc,h:=h})
 |(.enter f args,h)=>match call f args h with
  |some (.ret v,h')=>some (none,{st with rg:=eH st.rg d v,h:=h'})
  |some (.iS v,h')=>some (some v,{st with h:=h'})
  |none=>none
 |(.yield l args,h)=>match round l args h with
  |some (v,h')=>some (none,{st with rg:=eH st.rg d v,h:=h'})
  |none=>none
 |(.defer f args,h)=>if st.bI then none else some (none,{st with rg:=eH st.rg d mc,h:=h,ds:= .call f args::st.ds})
 |(.recover,_)=>none
 |(.panic v,h)=>some (some v,{st with h:=h})
def wM(E:Env)(call:dR)(round:cO)(ops:Array Oper):List Oper->St->Option (bt×St)
 |[],st=>some (.jL,st)
 |o::rest,st=>match cf ops st.n st.rg o with
  |none=>none
  |some false=>wM E call round ops rest {st with rg:=eH st.rg o.dst mc}
  |some true=>match eF E st.rg st.h o with
   |none=>none
   |some r=>match nV call round o.dst st r with
    |none=>none
    |some (none,cg)=>wM E call round ops rest cg
    |some (some v,cg)=>some (.iS v,cg)
inductive Cls where
 |pure|read|alloc|pK
 deriving DecidableEq
def fK(E:Env)(o:Oper):Cls:=
 match o.op with
 | .move _| .assign _| .pick ..| .build ..| .nilCheck _| .unOp ..| .makeInterface ..| .makeFunc ..| .fieldAddr ..| .field ..| .indexAddr ..| .index ..| .extract ..| .typeAssert ..=> .pure
 | .binOp ..| .load ..| .lookup ..=> .read
 | .slice ..=> .read
 | .alloc _| .box ..| .buildSlice ..| .makeMap ..| .makeSlice ..=> .alloc
 | .convert _ d _=>match E.kQ d with
  |some (.slice _)=> .alloc
  |_=> .pure
 | .call c=>match c.callee with
  | .builtin .len=> .read
  | .builtin .max| .builtin .min=> .pure
  |_=> .pK
 |_=> .pK
def AN(acc:List Nat)(o:Oper):Nat:=
 o.after.toList.foldl (fun s e=>if Region.binds .any e then s|||2^e.on|||acc.getD e.on 0 else s) 0
def uN:List Oper->List Nat->List Nat
 |[],acc=>acc
 |o::r,acc=>match AN acc o with
  |0=>uN r (acc++[0])
  |k+1=>uN r (acc++[k+1])
def gK(ops:Array Oper):Nat->Nat:=
 let ms:=uN ops.toList []
 fun i=>ms.getD i 0
def gL(ops:Array Oper):Bool:=
 ops.toList.zipIdx.all fun x=>
  x.1.after.toList.all (fun e=>!Region.binds .any e||e.on<x.2)&&
  (ops.toList.take x.2).zipIdx.all fun y=>Oper.apart ops y.1 x.1||(gK ops x.2).testBit y.2
def wg(n:Nat):AV->Option AV
 | .ptr (some (_,0))=>some (.ptr (some (n,0)))
 | .slice (some (_,0)) len=>some (.slice (some (n,0)) len)
 | .map (some _)=>some (.map (some n))
 |_=>none
structure jB where
 idx:Nat
 h:ah
structure Rd where
 idx:Nat
 o:Oper
 rg:T AV
 v:AV
def gD(E:Env)(h:ah)(rg:T AV)(o:Oper)(v:AV):Bool:=
 match eF E rg h o with
 |some (.val v',_)=>AV.beq v' v
 |_=>false
def lW(E:Env)(call:dR)(round:cO)(ops:Array Oper)(eg:Nat->Nat)(base:Nat):
 List (Oper×Nat)->St->List jB->List Rd->Option (bt×St)
 |[],st,_,_=>some (.jL,st)
 |(o,i)::rest,st,sn,rd=>match cf ops st.n st.rg o with
  |none=>none
  |some false=>lW E call round ops eg base rest {st with rg:=eH st.rg o.dst mc} sn rd
  |some true=>match fK E o,eF E st.rg st.h o with
   |_,none=>none
   | .pure,some (.val v,_)=>lW E call round ops eg base rest {st with rg:=eH st.rg o.dst v} sn rd
   | .read,some (.val v,_)=>
    if sn.all (fun s=>(eg i).testBit s.idx||gD E s.h st.rg o v)then
     lW E call round ops eg base rest {st with rg:=eH st.rg o.dst v} sn ({idx:=i,o:=o,rg:=st.rg,v:=v}::rd)
    else none
   | .alloc,some (.val v,h2)=>match h2.get st.h.next,st.h.get (base+i),wg (base+i) v with
    |some obj,none,some v'=>lW E call round ops eg base rest {st with rg:=eH st.rg o.dst v',h:=st.h.set (base+i) obj} sn rd
    |_,_,_=>none
   | .pK,some r=>
    if sn.all (fun s=>(eg i).testBit s.idx)then
     match nV call round o.dst st r with
     |none=>none
     |some (none,cg)=>
      if rd.all (fun r=>(eg i).testBit r.idx||gD E cg.h r.rg r.o r.v)then
       lW E call round ops eg base rest cg ({idx:=i,h:=st.h}::sn) rd
      else none
     |some (some v,cg)=>
      if rest.all (fun x=>(eg x.2).testBit i)then
       some (.iS v,{cg with rg:=ops.foldl (fun r o=>match o.dst with|some d=>r.del d|none=>r) st.rg})
      else none
    else none
   |_,some _=>none
def fh:List Nat->Nat->Nat
 |[],_=>0
 |x::r,i=>if x=i then 0 else fh r i+1
def ew(p:List Nat)(o:Oper):Oper:=
 {o with after:=o.after.map (fun e=>{e with on:=fh p e.on}),guard:=o.guard.map fun g=>(fh p g.1,g.2)}
def jS(ops:Array Oper)(p:List Nat):Array Oper:=
 (p.filterMap fun i=>(ops[i]?).map (ew p)).toArray
def Nj:List Nat->Bool
 |[]=>true
 |x::r=>!r.contains x&&Nj r
def nZ(ops:Array Oper)(p:List Nat):Bool:=p.length==ops.size&&Nj p&&p.all (fun i=>i<ops.size)&&(List.range ops.size).all fun i=>p.contains i
def OI(done:List Nat)(o:Oper):Bool:=
 o.after.toList.all (fun e=>!Region.binds .any e||done.contains e.on)&&match o.guard with
  |none=>true
  |some g=>done.contains g.1
def XT(E:Env)(o:Oper):Bool:=
 match fK E o with
 | .pK=>true
 |_=>false
def Ll(E:Env)(pK:Bool)(done:List Nat):List (Oper×Nat)->Option Nat
 |[]=>none
 |(o,i)::r=>bif (XT E o==pK)&&OI done o&&!done.contains i then some i else Ll E pK done r
def QX(E:Env)(ops:Array Oper):Nat->List (Oper×Nat)->List Nat->List Nat
 |0,_,done=>done.reverse
 |n+1,l,done=>match Ll E false done l with
  |some i=>QX E ops n l (i::done)
  |none=>match Ll E true done l with
   |some i=>QX E ops n l (i::done)
   |none=>done.reverse
def ZE(o:Oper):Bool:=
 match o.op with
 | .call c=>match c.callee with
  | .value _=>true
  |_=>false
 |_=>false
def qj(E:Env)(ops:Array Oper):Bool:=
 ops.toList.zipIdx.any fun x=>ZE x.1&&(ops.toList.zipIdx.drop (x.2+1)).any fun y=>!XT E y.1&&!(gK ops y.2).testBit x.2
def tT(E:Env)(ops:Array Oper):Array Oper:=
 bif qj E ops then bif nZ ops (QX E ops ops.size ops.toList.zipIdx [])then jS ops (QX E ops ops.size ops.toList.zipIdx [])else ops else ops
def xO(E:Env)(call:dR)(round:cO)(ops:Array Oper)(st:St):Option (bt×St):=
 if gL ops then lW E call round ops (gK ops) st.h.next ops.toList.zipIdx {st with h:={st.h with next:=st.h.next+ops.size}} [] []
 else none
def pR(f:St->Option (bt×St)):Nat->St->Option (bt×St)
 |0,_=>none
 |n+1,st=>match f st with
  |some (.jL,cg)=>pR f n cg
  |r=>r
def u0(E:Env)(k:FuncId):Bool:=
 match E.fn k with
 |some fn=>fn.body.isSome
 |none=>false
def dX(E:Env)(call:dR)(round:cO)(fuel:Nat):Code->St->Option (bt×St)
 | .skip,st=>some (.jL,st)
 | .region _ ops false,st=>wM E call round ops ops.toList st
 | .region _ ops true,st=>xO E call round (tT E ops) st
 | .seq a b,st=>match dX E call round fuel a st with
  |some (.jL,cg)=>dX E call round fuel b cg
  |r=>r
 | .cond c a b,st=>match ic st.rg c with
  |some (.bool true)=>dX E call round fuel a st
  |some (.bool false)=>dX E call round fuel b st
  |_=>none
 | .block id b,st=>match dX E call round fuel b st with
  |some (.exit wE,cg)=>if wE=id then some (.jL,cg)else some (.exit wE,cg)
  |r=>r
 | .loop b,st=>pR (dX E call round fuel b) fuel st
 | .exit id,st=>some (.exit id,st)
 | .ret,st=>some (.ret,st)
 | .label _,st=>some (.jL,st)
 | .scope b,st=>dX E call round fuel b st
 | .rangeFunc f ps ae b,st=>match ic st.rg f with
  |some (.func g ko)=>if st.bI||!u0 E g then none else
   let h0:=(st.h.alloc .sI).2
   match call g (.CG h0.next::ko) (h0.alloc (.loop .ready none st.n st.rg ps ae b)).2 with
   |some (.ret _,h2)=>match h2.get h0.next with
    |some (.loop .busy ..)=>none
    |some (.loop _ vb n rg ps ae b)=>
     let cg:St:={st with h:=h2.set h0.next (.loop .exhausted vb n rg ps ae b),ds:= .mark st.h.next::st.ds}
     match vb with
     |none=>some (.jL,cg)
     |some .ret=>some (.ret,cg)
     |some (.exit id)=>some (.exit id,cg)
     |_=>none
    |_=>none
   |_=>none
  |_=>none
 |_,_=>none
def vc(E:Env)(call:dR)(round:cO)(fuel:Nat):cO:=fun l args h=>
 match h.get l with
 |some (.loop .ready _ n rg ps ae b)=>
  if ps.size=args.length/\ps.all (fun p=>p<n)then
   match dX E call round fuel ae {rg:=(ps.toList.zip args).foldl (fun r x=>r.set x.2 x.1) rg,n:=n,h:=h,ds:=[],bI:=true}with
   |some (.jL,rL)=>match rL.h.get l with
    |some (.loop .ready pd n' da Kp as' b')=>
     match dX E call round fuel b {rL with h:=rL.h.set l (.loop .busy pd n' da Kp as' b')}with
     |some (e,yn)=>match yn.ds,yn.h.get l with
      |[],some (.loop _ _ ZF Ln Lo as'' ZG)=>match e with
       | .jL=>some (.bool true,yn.h.set l (.loop .ready none ZF Ln Lo as'' ZG))
       | .ret=>some (.bool false,yn.h.set l (.loop .done (some .ret) ZF Ln Lo as'' ZG))
       | .exit id=>some (.bool false,yn.h.set l (.loop .done (some (.exit id)) ZF Ln Lo as'' ZG))
       | .iS _=>none
      |_,_=>none
     |none=>none
    |_=>none
   |_=>none
  else none
 |_=>none
def Cr(E:Env)(rg:T AV)(h:ah):ResultVar->Option AV
 | .tmp t=>rg.get t
 | .cell a t=>match rg.get a,E.isAgg t,E.siz t with
  |some (.ptr (some (i,off))),some true,some n=>(h.loadCells i off n).map .agg
  |some (.ptr (some (i,off))),some false,some _=>h.tP i off
  |_,_,_=>none
def fL(E:Env)(rg:T AV)(h:ah):List ResultVar->Option (List AV)
 |[]=>some []
 |r::rs=>match Cr E rg h r,fL E rg h rs with
  |some v,some vs=>some (v::vs)
  |_,_=>none
def oneOf:List AV->AV
 |[v]=>v
 |vs=> .iX vs
def oI:List AV->Nat->T AV->T AV
 |[],_,t=>t
 |v::r,i,t=>oI r (i+1) (t.set v i)
def Cb(E:Env)(ops:Array Oper):List Oper->St->Option AV->Option (bt×St×Option AV)
 |[],st,p=>some (.jL,st,p)
 |o::rest,st,p=>match cf ops st.n st.rg o with
  |none=>none
  |some false=>Cb E ops rest {st with rg:=eH st.rg o.dst mc} p
  |some true=>match eF E st.rg st.h o with
   |some (.val v,h)=>Cb E ops rest {st with rg:=eH st.rg o.dst v,h:=h} p
   |some (.skip,h)=>Cb E ops rest {st with rg:=eH st.rg o.dst mc,h:=h} p
   |some (.recover,h)=>Cb E ops rest {st with rg:=eH st.rg o.dst (p.getD .nilIface),h:=h} none
   |_=>none
def isRec(o:Oper):Bool:=
 match o.op with
 | .call {callee:= .builtin .recover,..}=>true
 |_=>false
def CY:Code->Bool
 | .region _ ops _=>ops.any isRec
 | .seq a b| .cond _ a b=>CY a||CY b
 | .block _ b| .loop b| .scope b=>CY b
 | .rangeFunc _ _ a b=>CY a||CY b
 |_=>false
def ky(E:Env)(call:dR)(round:cO)(fuel:Nat):Code->St->Option AV->Option (bt×St×Option AV)
 | .seq a b,st,p=>match ky E call round fuel a st p with
  |some (.jL,cg,p')=>ky E call round fuel b cg p'
  |r=>r
 | .region id ops false,st,p=>
  if ops.any isRec then Cb E ops ops.toList st p
  else match dX E call round fuel (.region id ops false) st with
   |some (e,cg)=>some (e,cg,p)
   |none=>none
 | .cond c a b,st,p=>match ic st.rg c with
  |some (.bool true)=>ky E call round fuel a st p
  |some (.bool false)=>ky E call round fuel b st p
  |_=>none
 |c,st,p=>match dX E call round fuel c st with
  |some (e,cg)=>some (e,cg,p)
  |none=>none
abbrev CZ:=FuncId->List AV->ah->Option AV->Option (Out×ah×Option AV)
def mg(E:Env)(call:dR)(round:cO)(fuel:Nat):CZ:=fun k args h p=>
 match E.fn k with
 |none=>none
 |some fn=>match fn.body with
  |none=>none
  |some c=>
   if args.length<=fn.ntmps then
    match ky E call round fuel c {rg:=oI args 0 .nil,n:=fn.ntmps,h:=h,ds:=[],bI:=false} p with
    |some (.jL,st,p')|some (.ret,st,p')=>match st.ds,fL E st.rg st.h fn.results.toList with
     |[],some vs=>some (.ret (oneOf vs),st.h,p')
     |_,_=>none
    |_=>none
   else none
def jo(E:Env)(dfr:CZ)(fn:Func)(rg:T AV):List fJ->Option AV->ah->Option (Out×ah)
 |[],none,h=>match fL E rg h fn.results.toList with
  |some vs=>some (.ret (oneOf vs),h)
  |none=>none
 |[],some v,h=>some (.iS v,h)
 | .mark r::ds,p,h=>match h.get r with
  |some .sI=>jo E dfr fn rg ds p (h.set r .dead)
  |_=>none
 | .call f args::ds,p,h=>match dfr f args h p with
  |some (.ret _,h',p')=>jo E dfr fn rg ds p' h'
  |_=>none
structure Gx where
 call:dR
 round:cO
def wT(E:Env)(m:Gx)(n:Nat):dR:=fun k args h=>
 match E.fn k with
  |none=>none
  |some fn=>match fn.body with
   |none=>none
   |some c=>
    if args.length<=fn.ntmps then
     match dX E m.call m.round n c {rg:=oI args 0 .nil,n:=fn.ntmps,h:=h,ds:=[],bI:=false}with
     |some (.jL,st)|some (.ret,st)=>jo E (mg E m.call m.round n) fn st.rg st.ds none st.h
     |some (.iS v,st)=>jo E (mg E m.call m.round n) fn st.rg st.ds (some v) st.h
     |_=>none
    else none
def Env.told(E:Env)(k:FuncId)(args:List AV)(h:ah):Option (Out×ah):=
 match E.fw k with
 |some f=>f args h
 |none=>none
def wS(E:Env)(m:Gx)(n:Nat):dR:=fun k args h=>
 match E.told k args h with
 |some r=>some r
 |none=>wT E m n k args h
def jx(E:Env):Nat->Gx
 |0=>{call:=fun _ _ _=>none,round:=fun _ _ _=>none}
 |n+1=>{call:=wS E (jx E n) n,round:=vc E (jx E n).call (jx E n).round n}
end
end
end Go.Am
namespace Go.Am
theorem ZR(x:Nat):x.beq 0=decide (x=0):=by
 cases x<;>simp[Nat.beq]
namespace T
variable{α:Type}
theorem get_nil(k:Nat):(nil:T α).get k=none:=rfl
theorem rX(v:Option α)(l r:T α):(node v l r).get 0=v:=rfl
theorem oD(v:Option α)(l r:T α)(k:Nat):(node v l r).get (k+1)=if k%2=0 then l.get (k/2)else r.get (k/2):=by
 show Bool.rec (motive:=fun _=>Nat->Option α) r.get l.get (Nat.beq (k%2) 0) (k/2)=_;rw[ZR];by_cases h:k%2=0<;>simp[h]
theorem aeR(a:α)(f m:Nat):mk a (f+1) (m+1)=if m%2=0 then node none (mk a f (m/2)) nil else node none nil (mk a f (m/2)):=by
 simp only[mk,ZR];by_cases h:m%2=0<;>simp[h]
theorem ac9(a:α)(v:Option α)(l r:T α)(m:Nat):(node v l r).set a (m+1)=if m%2=0 then node v (set a l (m/2)) r else node v l (set a r (m/2)):=by
 show Bool.rec (motive:=fun _=>T α) (node v l (set a r (m/2))) (node v (set a l (m/2)) r) (Nat.beq (m%2) 0)=_;rw[ZR];by_cases h:m%2=0<;>simp[h]
theorem aca(a:α)(v:Option α)(l r:T α):(node v l r).set a 0=node (some a) l r:=rfl
theorem ZS(a:α):∀(f n k:Nat),n<f->(mk a f n).get k=if k=n then some a else none:=by
 intro f;induction f with
 |zero=>intro n k h;omega
 |succ f ih=>
  intro n k h;cases n with
  |zero=>
   cases k with
   |zero=>simp[mk,rX]
   |succ k=>simp[mk,oD,get_nil]
  |succ m=>
   have hf:m/2<f:=om;rw[aeR];cases k with
   |zero=>split<;>simp[rX]
   |succ k=>
    split<;>rw[oD]<;>split<;>simp only[ih _ _ hf,get_nil]
    ·have:(k/2=m/2)↔(k+1=m+1):=om;simp only[this]
    ·rw[az om]
    ·rw[az om]
    ·have:(k/2=m/2)↔(k+1=m+1):=om;simp only[this]
theorem aM(a:α):∀(t:T α)(n k:Nat),(t.set a n).get k=if k=n then some a else t.get k:=by
 intro t;induction t with
 |nil=>intro n k;exact ZS a (n+1) n k om
 |node v l r ihl ihr=>
  intro n k;cases n with
  |zero=>cases k<;>simp[aca,rX,oD]
  |succ m=>
   rw[ac9];cases k with
   |zero=>split<;>simp[rX]
   |succ k=>
    split<;>rw[oD,oD]<;>split<;>(try simp only[ihl,ihr])
    ·have:(k/2=m/2)↔(k+1=m+1):=om;simp only[this]
    ·rw[az om]
    ·rw[az om]
    ·have:(k/2=m/2)↔(k+1=m+1):=om;simp only[this]
end T
theorem ah.aM(h:ah)(i k:Nat)(o:ej):(h.set i o).get k=if k=i then some o else h.get k:=by
 simp[ah.get,ah.set,T.aM]
theorem ah.dz(h:ah)(k:Nat)(o:ej):(h.alloc o).2.get k=if k=h.next then some o else h.get k:=by
 simp[ah.get,ah.alloc,T.aM]
@[simp] theorem ah.qJ(h:ah)(i:Nat)(o:ej):(h.set i o).next=h.next:=rfl
@[simp] theorem ah.vm(h:ah)(o:ej):(h.alloc o).2.next=h.next+1:=rfl
structure Loc where
 b:Nat
 base:Nat
 top:Nat
 es:Nat
 rw:Bool
abbrev cS:=Nat->Option Loc
inductive bS(ι:cS):AV->Value->Prop
 |bool (b:Bool):bS ι (.bool b) (.bool b)
 |int (k:IntKind) (n:Int):bS ι (.int k n) (.int k n)
 |str (l:List UInt8):bS ι (.str l) (.string ⟨l.toArray⟩)
 |GH:bS ι (.ptr none) (.pointer none)
 |ptr {id off:Nat} {L:Loc} (h:ι id=some L):bS ι (.ptr (some (id,off))) (.pointer (some ⟨L.b,L.base+off,none⟩))
 |uI:bS ι (.slice none 0) (.slice none 0 0)
 |slice {id off len cap:Nat} {L:Loc} (h:ι id=some L) (hc:len<=cap) (ht:L.rw=true->0<L.es->L.base+off+cap*L.es=L.top):
  bS ι (.slice (some (id,off)) len) (.slice (some ⟨L.b,L.base+off,none⟩) len cap)
 |qI {id off:Nat} {a:Addr} {L:Loc} (h:ι id=some L) (ht:L.rw=true->0<L.es->L.base+off=L.top):
  bS ι (.slice (some (id,off)) 0) (.slice (some a) 0 0)
 |CP:bS ι (.map none) (.map none)
 |map {id:Nat} {L:Loc} (h:ι id=some L):bS ι (.map (some id)) (.map (some L.b))
 |func (f:FuncId) {ko:List AV} {cs:Array Value} (hl:ko.length=cs.toList.length) (h:∀(i:Nat)(x:AV)(y:Value),ko[i]?=some x->cs.toList[i]?=some y->bS ι x y):
  bS ι (.func f ko) (.func (.func f) #[] cs)
 |CG {l:Nat} {L:Loc} (h:ι l=some L):bS ι (.CG l) (.func (.yield L.b) #[] #[])
 |nilFunc:bS ι .nilFunc .nilFunc
 |iface (t:TypeId) {v:AV} {v':Value} (h:bS ι v v'):bS ι (.iface t v) (.iface t v')
 |nilIface:bS ι .nilIface .nilIface
 |agg {xs:List AV} {cs:Array Value} (hl:xs.length=cs.toList.length) (h:∀(i:Nat)(x:AV)(y:Value),xs[i]?=some x->cs.toList[i]?=some y->bS ι x y):
  bS ι (.agg xs) (.agg cs)
 |iX {xs:List AV} {cs:Array Value} (hl:xs.length=cs.toList.length) (h:∀(i:Nat)(x:AV)(y:Value),xs[i]?=some x->cs.toList[i]?=some y->bS ι x y):
  bS ι (.iX xs) (.tuple cs)
def bF(ι:cS)(xs:List AV)(ys:List Value):Prop:=
 xs.length=ys.length/\∀(i:Nat)(x:AV)(y:Value),xs[i]?=some x->ys[i]?=some y->bS ι x y
theorem bF.nil(ι:cS):bF ι [] []:=⟨rfl,sp⟩
theorem bF.cons{ι:cS}{x:AV}{y:Value}{xs:List AV}{ys:List Value}(h:bS ι x y)(hs:bF ι xs ys):bF ι (x::xs) (y::ys):=by
 refine⟨by simp[hs.1],fun i a b ha hb=>?_⟩;cases i with
 |zero=>simp at ha hb;subst ha hb;exact h
 |succ i=>simp at ha hb;exact hs.2 i a b ha hb
theorem bF.inv{ι:cS}{x:AV}{xs:List AV}{ys:List Value}(h:bF ι (x::xs) ys):∃y ys',ys=y::ys'/\bS ι x y/\bF ι xs ys':=by
 cases ys with
 |nil=>have:=h.1;simp at this
 |cons y ys=>exact⟨y,ys,rfl,h.2 0 x y rfl rfl,by have:=h.1;simpa using this,fun i a b ha hb=>h.2 (i+1) a b (by simpa using ha) (by simpa using hb)⟩
theorem bF.tV{ι:cS}{ys:List Value}(h:bF ι [] ys):ys=[]:=by
 have:=h.1;cases ys<;>simp_all
theorem bF.append{ι:cS}{xs xs':List AV}{ys ys':List Value}(h:bF ι xs ys)(h':bF ι xs' ys'):bF ι (xs++xs') (ys++ys'):=by
 refine⟨by simp[h.1,h'.1],fun i a b ha hb=>?_⟩;rw[fR]at ha hb;rw[<-h.1]at hb;split at ha
 ·rename_i cX;simp[cX]at hb;exact h.2 i a b ha hb
 ·rename_i cX;simp[cX]at hb;exact h'.2 _ a b ha hb
theorem bF.get{ι:cS}{xs:List AV}{ys:List Value}(h:bF ι xs ys){i:Nat}{x:AV}(hx:xs[i]?=some x):∃y,ys[i]?=some y/\bS ι x y:=by
 have hi:i<xs.length:=(aU.1 hx).1;have Eb:i<ys.length:=h.1▸hi;exact⟨ys[i],by simp[Eb],h.2 i x _ hx (by simp[Eb])⟩
theorem bF.take{ι:cS}{xs:List AV}{ys:List Value}(h:bF ι xs ys)(n:Nat):bF ι (xs.take n) (ys.take n):=by
 refine⟨by simp[h.1],fun i a b ha hb=>?_⟩;rw[gO]at ha hb;split at ha
 ·rename_i cX;simp[cX]at hb;exact h.2 i a b ha hb
 ·simp at ha
theorem bF.drop{ι:cS}{xs:List AV}{ys:List Value}(h:bF ι xs ys)(n:Nat):bF ι (xs.drop n) (ys.drop n):=by
 refine⟨by simp[h.1],fun i a b ha hb=>?_⟩;rw[gQ]at ha hb;exact h.2 _ a b ha hb
def cS.le(ι dS:cS):Prop:=∀i L,ι i=some L->dS i=some L
theorem cS.le.refl(ι:cS):ι.le ι:=fun _ _ h=>h
theorem cS.le.trans{a b c:cS}(h:a.le b)(h':b.le c):a.le c:=fun i L hi=>h' i L (h i L hi)
theorem bS.mono{ι dS:cS}(hle:ι.le dS){v:AV}{v':Value}(h:bS ι v v'):bS dS v v':=by
 induction h with
 |bool b=>exact .bool b
 |int k n=>exact .int k n
 |str l=>exact .str l
 |GH=>exact .GH
 |ptr h=>exact .ptr (hle _ _ h)
 |uI=>exact .uI
 |slice h hc ht=>exact .slice (hle _ _ h) hc ht
 |qI h ht=>exact .qI (hle _ _ h) ht
 |CP=>exact .CP
 |map h=>exact .map (hle _ _ h)
 |func f hl _ ih=>exact .func f hl ih
 |CG h=>exact .CG (hle _ _ h)
 |nilFunc=>exact .nilFunc
 |iface t _ ih=>exact .iface t ih
 |nilIface=>exact .nilIface
 |agg hl _ ih=>exact .agg hl ih
 |iX hl _ ih=>exact .iX hl ih
theorem bF.mono{ι dS:cS}(hle:ι.le dS){xs:List AV}{ys:List Value}(h:bF ι xs ys):bF dS xs ys:=
 ⟨h.1,fun i x y hx hy=>(h.2 i x y hx hy).mono hle⟩
theorem bS.La{ι:cS}{xs:List AV}{cs:Array Value}(h:bF ι xs cs.toList):bS ι (.agg xs) (.agg cs):= .agg h.1 h.2
theorem bS.xK{ι:cS}{xs:List AV}{v:Value}(h:bS ι (.agg xs) v):∃cs,v= .agg cs/\bF ι xs cs.toList:=by
 cases h with|agg hl h=>exact⟨_,rfl,hl,h⟩
theorem bS.Er{ι:cS}{xs:List AV}{cs:Array Value}(h:bF ι xs cs.toList):bS ι (.iX xs) (.tuple cs):= .iX h.1 h.2
theorem bS.MQ{ι:cS}{xs:List AV}{v:Value}(h:bS ι (.iX xs) v):∃cs,v= .tuple cs/\bF ι xs cs.toList:=by
 cases h with|iX hl h=>exact⟨_,rfl,hl,h⟩
theorem bS.undef(ι:cS):bS ι mc Go.undef:= .iX rfl sp
theorem bS.scalar{ι:cS}{v:AV}{v':Value}(h:bS ι v v'):v'.oneCell'=v.scalar:=by
 cases h<;>rfl
theorem bS.cells{ι:cS}{v:AV}{v':Value}(h:bS ι v v'):bF ι v.cells v'.cells.toList:=by
 cases h with
 |agg hl h=>exact⟨hl,h⟩
 |bool b=>exact bF.cons (.bool b) (bF.nil _)
 |int k n=>exact bF.cons (.int k n) (bF.nil _)
 |str l=>exact bF.cons (.str l) (bF.nil _)
 |GH=>exact bF.cons .GH (bF.nil _)
 |ptr h=>exact bF.cons (.ptr h) (bF.nil _)
 |uI=>exact bF.cons .uI (bF.nil _)
 |slice h hc ht=>exact bF.cons (.slice h hc ht) (bF.nil _)
 |qI h ht=>exact bF.cons (.qI h ht) (bF.nil _)
 |CP=>exact bF.cons .CP (bF.nil _)
 |map h=>exact bF.cons (.map h) (bF.nil _)
 |func f hl h=>exact bF.cons (.func f hl h) (bF.nil _)
 |CG h=>exact bF.cons (.CG h) (bF.nil _)
 |nilFunc=>exact bF.cons .nilFunc (bF.nil _)
 |iface t h=>exact bF.cons (.iface t h) (bF.nil _)
 |nilIface=>exact bF.cons .nilIface (bF.nil _)
 |iX hl h=>exact bF.cons (.iX hl h) (bF.nil _)
theorem xQ(ι:cS){v:Value}{a:AV}(h:iM v=some a):bS ι a v:=by
 unfold iM at h;split at h<;>simp at h<;>subst h<;>constructor
theorem jN(ι:cS):∀{vs:List Value}{l:List AV},yk vs=some l->bF ι l vs
 |[],l,h=>by simp[yk]at h;subst h;exact bF.nil _
 |v::r,l,h=>by
  simp only[yk]at h;split at h
  ·rename_i a b ha hb;simp at h;subst h;exact bF.cons (xQ ι ha) (jN ι hb)
  ·simp at h
theorem Rc(ι:cS){v:Value}{a:AV}(h:UM v=some a):bS ι a v:=by
 unfold UM at h;split at h
 ·simp at h;obtain⟨l,hl,rfl⟩:=h;exact .La (jN ι hl)
 ·simp at h;obtain⟨l,hl,rfl⟩:=h;exact .iface _ (xQ ι hl)
 ·exact xQ ι h
def ej.gone:ej->Bool
 | .dead=>true
 |_=>false
def ej.owned:ej->Bool
 | .cells rw _ _=>rw
 | .dead=>false
 |_=>true
def cK(ι:cS)(rg:T AV)(tm:Array Value):Prop:=∀i x,rg.get i=some x->∃y,tm[i]?=some y/\bS ι x y
def wJ(ι:cS)(o:ej)(L:Loc)(w:World):Prop:=
 match o with
 | .dead=>True
 | .cells rw es cs=>L.rw=rw/\L.es=es/\L.base+cs.length<=L.top/\∃c e fz,w.heap[L.b]?=some (.cells c e fz)/\(rw=true->fz=(0,0)/\L.top=c.size)/\
  (∀(i:Nat)(x:AV),cs[i]?=some x->∃y:Value,c[L.base+i]?=some y/\bS ι x y)
 | .map iG=>∃es ck,w.heap[L.b]?=some (.map es ck)/\es.size=iG.length/\∀(i:Nat)(x:AV×AV)(y:MapEntry),iG[i]?=some x->es[i]?=some y->bS ι x.1 y.key/\bS ι x.2 y.val
 | .loop st vb n rg ps ae b=>∃tm df fn,w.heap[L.b]?=some (.loop {state:=st,pending:=vb,fn:=fn,tmps:=tm,params:=ps,assign:=ae,body:=b,defers:=df})/\cK ι rg tm/\tm.size=n
 | .MM s pos=>w.heap[L.b]?=some (.stringIter ⟨s.toArray⟩ pos)
 | .Br m=>∃Lm since last,L.base=0/\ι m=some Lm/\w.heap[L.b]?=some (.mapIter (some Lm.b) since #[] last)
 | .sI=>w.heap[L.b]?=some (.deferred (some []))
class iY where
 w:World
variable [iY]
structure ZT(ι:cS)(h:ah)(w:World):Prop where
 size:iY.w.heap.size<=w.heap.size
 old:∀b,b<iY.w.heap.size->w.heap[b]?=iY.w.heap[b]?
 os:w.os=iY.w.os
 own:∀i L o,ι i=some L->h.get i=some o->o.owned=true->iY.w.heap.size<=L.b
structure dV(ι:cS)(h:ah)(w:World):Prop where
 obj:∀i L,ι i=some L->∃o,h.get i=some o/\wJ ι o L w
 MV:∀i j Li Lj oi oj,i≠j->ι i=some Li->ι j=some Lj->h.get i=some oi->h.get j=some oj->oi.owned=true->oj.gone=false->Li.b≠Lj.b
 lt:∀i L,ι i=some L->i<h.next
 fresh:∀i,h.next<=i->h.get i=none
 MU:∀i L,ι i=some L->L.b<w.heap.size
 base:ZT ι h w
def IP(ι:cS)(h:ah)(b:Nat):Prop:=∃i L o,ι i=some L/\h.get i=some o/\o.owned=true/\L.b=b
structure Ext(ι:cS)(h:ah)(w:World)(dS:cS)(h':ah)(w':World):Prop where
 rel:dV dS h' w'
 aJ:∀i,i<h.next->dS i=ι i
 same:∀i,i<h.next->ι i=none->h'.get i=h.get i
 next:h.next<=h'.next
 size:w.heap.size<=w'.heap.size
 frame:∀b,b<w.heap.size->¬IP ι h b->w'.heap[b]?=w.heap[b]?/\¬IP dS h' b
 os:w'.os=w.os
 tape:w'.tape=w.tape
 output:w'.output=w.output
 new:∀i L,dS i=some L->ι i=some L\/w.heap.size<=L.b\/IP ι h L.b
theorem Ext.le{ι dS:cS}{h h':ah}{w w':World}(hH:dV ι h w)(e:Ext ι h w dS h' w'):ι.le dS:=fun i L hi=>by
 rw[e.aJ i (hH.lt i L hi)];exact hi
theorem Ext.refl{ι:cS}{h:ah}{w:World}(hH:dV ι h w):Ext ι h w ι h w:=
 ⟨hH,fun _ _=>rfl,fun _ _ _=>rfl,ao _,ao _,fun _ _ hn=>⟨rfl,hn⟩,rfl,rfl,rfl,fun _ _ hi=> .inl hi⟩
theorem Ext.trans{ι X1 X2:cS}{h acb acd:ah}{w IC ace:World}(e:Ext ι h w X1 acb IC)(e':Ext X1 acb IC X2 acd ace):Ext ι h w X2 acd ace:=
 ⟨e'.rel,fun i hi=>(e'.aJ i (aw hi e.next)).trans (e.aJ i hi),
  fun i hi hn=>(e'.same i (aw hi e.next) ((e.aJ i hi).trans hn)).trans (e.same i hi hn),
  bk e.next e'.next,bk e.size e'.size,
  fun b hb hn=>let ⟨h1,h2⟩:=e.frame b hb hn;let ⟨h3,h4⟩:=e'.frame b (aw hb e.size) h2;⟨h3.trans h1,h4⟩,
  e'.os.trans e.os,e'.tape.trans e.tape,e'.output.trans e.output,
  fun i L hi=>by
   rcases e'.new i L hi with h1|h1|h1
   ·exact e.new i L h1
   ·exact .inr (.inl (bk e.size h1))
   ·by_cases hs:w.heap.size<=L.b
    ·exact .inr (.inl hs)
    ·by_cases ho:IP ι h L.b
     ·exact .inr (.inr ho)
     ·exact absurd h1 (e.frame L.b om ho).2⟩
theorem cK.mono{ι dS:cS}(hle:ι.le dS){rg:T AV}{tm:Array Value}(h:cK ι rg tm):cK dS rg tm:=
 fun i x hx=>let ⟨y,hy,hr⟩:=h i x hx;⟨y,hy,hr.mono hle⟩
theorem wJ.mono{ι dS:cS}(hle:ι.le dS){o:ej}{L:Loc}{w:World}(h:wJ ι o L w):wJ dS o L w:=by
 cases o with
 |dead=>trivial
 |cells rw es cs=>
  obtain⟨h1,h2,h3,c,e,fz,h4,h5,h6⟩:=h;exact⟨h1,h2,h3,c,e,fz,h4,h5,fun i x hx=>let ⟨y,hy,hr⟩:=h6 i x hx;⟨y,hy,hr.mono hle⟩⟩
 |map iG=>
  obtain⟨es,ck,h1,h2,h3⟩:=h;exact⟨es,ck,h1,h2,fun i x y hx hy=>⟨(h3 i x y hx hy).1.mono hle,(h3 i x y hx hy).2.mono hle⟩⟩
 |loop st vb fn rg ps ae b=>
  obtain⟨tm,df,fn,h1,h2,h3⟩:=h;exact⟨tm,df,fn,h1,h2.mono hle,h3⟩
 |MM s pos=>exact h
 |Br m=>obtain⟨Lm,since,last,h0,h1,h2⟩:=h;exact⟨Lm,since,last,h0,hle _ _ h1,h2⟩
 |sI=>exact h
theorem wJ.block{ι:cS}{o:ej}{L:Loc}{w w':World}(h:wJ ι o L w)(hb:w'.heap[L.b]?=w.heap[L.b]?):wJ ι o L w':=by
 cases o with
 |dead=>trivial
 |cells rw es cs=>
  obtain⟨h1,h2,h3,c,e,fz,h4,h5,h6⟩:=h;exact⟨h1,h2,h3,c,e,fz,hb.trans h4,h5,h6⟩
 |map iG=>obtain⟨es,ck,h1,h2⟩:=h;exact⟨es,ck,hb.trans h1,h2⟩
 |loop st vb fn rg ps ae b=>obtain⟨tm,df,fn,h1,h2⟩:=h;exact⟨tm,df,fn,hb.trans h1,h2⟩
 |MM s pos=>exact hb.trans h
 |Br m=>obtain⟨Lm,since,last,h0,h1,h2⟩:=h;exact⟨Lm,since,last,h0,h1,hb.trans h2⟩
 |sI=>exact hb.trans h
theorem wJ.lt{ι:cS}{o:ej}{L:Loc}{w:World}(h:wJ ι o L w)(hd:o.gone=false):L.b<w.heap.size:=by
 have key:∀{x:Obj},w.heap[L.b]?=some x->L.b<w.heap.size:=fun hx=>(bP.1 hx).1;cases o with
 |dead=>simp[ej.gone]at hd
 |cells rw es cs=>obtain⟨_,_,_,c,e,fz,h4,_⟩:=h;exact key h4
 |map iG=>obtain⟨es,ck,h1,_⟩:=h;exact key h1
 |loop st vb fn rg ps ae b=>obtain⟨tm,df,fn,h1,_⟩:=h;exact key h1
 |MM s pos=>exact key h
 |Br m=>obtain⟨_,_,_,_,_,h2⟩:=h;exact key h2
 |sI=>exact key h
def cS.add(ι:cS)(i:Nat)(L:Loc):cS:=fun k=>if k=i then some L else ι k
theorem cS.add_same(ι:cS)(i:Nat)(L:Loc):ι.add i L i=some L:=by simp[cS.add]
theorem cS.cm(ι:cS){i k:Nat}(L:Loc)(h:k≠i):ι.add i L k=ι k:=by simp[cS.add,h]
theorem dV.grow{ι:cS}{h:ah}{w w':World}(hH:dV ι h w)(ng:w.heap.size<=w'.heap.size)(hold:∀b,b<w.heap.size->w'.heap[b]?=w.heap[b]?)(Es:w'.os=w.os)(ht:w'.tape=w.tape)(ho:w'.output=w.output)
 (o:ej) (L:Loc) (hL:w.heap.size<=L.b) (MS:L.b<w'.heap.size) (hO:wJ (ι.add h.next L) o L w'):
 Ext ι h w (ι.add h.next L) (h.alloc o).2 w':=by
 have hle:ι.le (ι.add h.next L):=fun i Li hi=>by
  rw[cS.cm];exact hi;have:=hH.lt i Li hi;omega
 refine⟨⟨?_,?_,?_,?_,fun i Li hi=>by
  by_cases e:i=h.next
  ·subst e;rw[cS.add_same]at hi;cases hi;exact MS
  ·rw[cS.cm _ _ e]at hi;exact aw (hH.MU i Li hi) ng,⟨bk hH.base.size ng,fun b hb=>(hold b (aw hb hH.base.size)).trans (hH.base.old b hb),Es.trans hH.base.os,fun i Li oi hi Lf Bx=>by
  by_cases e:i=h.next
  ·subst e;rw[cS.add_same]at hi;cases hi;exact bk hH.base.size hL
  ·rw[cS.cm _ _ e]at hi;simp[ah.dz,e]at Lf;exact hH.base.own i Li oi hi Lf Bx⟩⟩,?_,?_,sp,ng,?_,Es,ht,ho,fun i Li hi=>by
  by_cases e:i=h.next
  ·subst e;rw[cS.add_same]at hi;cases hi;exact .inr (.inl hL)
  ·rw[cS.cm _ _ e]at hi;exact .inl hi⟩
 ·intro i Li hi;by_cases e:i=h.next
  ·subst e;rw[cS.add_same]at hi;cases hi;exact⟨o,by simp[ah.dz],hO⟩
  ·rw[cS.cm _ _ e]at hi;obtain⟨oi,Ge,B9⟩:=hH.obj i Li hi;refine⟨oi,by simp[ah.dz,e,Ge],?_⟩;by_cases hd:oi.gone=true
   ·cases oi<;>simp[ej.gone]at hd;exact True.intro
   ·exact(B9.mono hle).block (hold _ (B9.lt (by simpa using hd)))
 ·intro i j Li Lj oi oj Iv hi hj Lf AJ Bx Kn;by_cases e:i=h.next
  ·subst e;rw[cS.add_same]at hi;cases hi;have Qb:j≠h.next:=fun e=>Iv e.symm;rw[cS.cm _ _ Qb]at hj;simp[ah.dz,Qb]at AJ;obtain⟨oj',Ge,B9⟩:=hH.obj j Lj hj;rw[AJ]at Ge;cases Ge;have:=B9.lt Kn;omega
  ·rw[cS.cm _ _ e]at hi;simp[ah.dz,e]at Lf;obtain⟨oi',Ge,B9⟩:=hH.obj i Li hi;rw[Lf]at Ge;cases Ge;by_cases e':j=h.next
   ·subst e';rw[cS.add_same]at hj;cases hj;have:=B9.lt (by cases oi<;>simp_all[ej.owned,ej.gone]);omega
   ·rw[cS.cm _ _ e']at hj;simp[ah.dz,e']at AJ;exact hH.MV i j Li Lj oi oj Iv hi hj Lf AJ Bx Kn
 ·intro i Li hi;by_cases e:i=h.next
  ·subst e;simp
  ·rw[cS.cm _ _ e]at hi;have:=hH.lt i Li hi;simp;omega
 ·intro i hi;simp at hi;have:i≠h.next:=by omega
  simp[ah.dz,this];exact hH.fresh i om
 ·intro i hi;rw[cS.cm];omega
 ·intro i hi _;rw[ah.dz,az om]
 ·intro b hb hn;refine⟨hold b hb,?_⟩
  rintro⟨i,Li,oi,hi,Lf,Bx,hbi⟩
  by_cases e:i=h.next
  ·subst e;rw[cS.add_same]at hi;cases hi;omega
  ·rw[cS.cm _ _ e]at hi;simp[ah.dz,e]at Lf;exact hn ⟨i,Li,oi,hi,Lf,Bx,hbi⟩
theorem dV.alloc{ι:cS}{h:ah}{w w0:World}(hH:dV ι h w)(hh:w0.heap=w.heap)(Es:w0.os=w.os)(ht:w0.tape=w.tape)(ho:w0.output=w.output)
 (o:ej) (x:Obj) (L:Loc) (hL:L.b=w.heap.size) (hO:wJ (ι.add h.next L) o L (w0.alloc x)):
 Ext ι h w (ι.add h.next L) (h.alloc o).2 (w0.alloc x):=
 hH.grow (w':=w0.alloc x) (by simp[World.alloc,hh]) (fun b hb=>by rw[heap_alloc_old _ _ _ (by rw[hh];exact hb),hh]) Es ht ho o L om (by rw[hL];simp[World.alloc_eq,hh]) hO
theorem dV.OD{ι:cS}{h:ah}{w w':World}(hH:dV ι h w){i:Nat}{L:Loc}{o o':ej}(hi:ι i=some L)(ho:h.get i=some o)(Bx:o.owned=true)
 (hO:wJ ι o' L w') (ng:w'.heap.size=w.heap.size) (yI:∀b,b≠L.b->w'.heap[b]?=w.heap[b]?) (Es:w'.os=w.os) (ht:w'.tape=w.tape) (tz:w'.output=w.output):
 Ext ι h w ι (h.set i o') w':=by
 have hbL:=hH.base.own i L o hi ho Bx;refine⟨⟨?_,?_,?_,?_,fun i Li hi=>by rw[ng];exact hH.MU i Li hi,⟨by rw[ng];exact hH.base.size,fun b hb=>(yI b om).trans (hH.base.old b hb),Es.trans hH.base.os,fun k Lk ok hk gJ Qz=>by
  by_cases e:k=i
  ·subst e;rw[hi]at hk;cases hk;exact hbL
  ·simp[ah.aM,e]at gJ;exact hH.base.own k Lk ok hk gJ Qz⟩⟩,fun _ _=>rfl,?_,ao _,om,?_,Es,ht,tz,fun _ _ hi=> .inl hi⟩
 ·intro k Lk hk;by_cases e:k=i
  ·subst e;rw[hi]at hk;cases hk;exact⟨o',by simp[ah.aM],hO⟩
  ·obtain⟨ok,h1,h2⟩:=hH.obj k Lk hk;refine⟨ok,by simp[ah.aM,e,h1],?_⟩;by_cases hd:ok.gone=true
   ·cases ok<;>simp[ej.gone]at hd;exact True.intro
   ·exact h2.block (yI _ fun eb=>hH.MV i k L Lk o ok (fun e'=>e e'.symm) hi hk ho h1 Bx (by simpa using hd) eb.symm)
 ·intro k j Lk Lj ok oj Gj hk hj gJ AJ UU Kn;by_cases e:k=i
  ·subst e;rw[hi]at hk;cases hk;have e':j≠k:=fun e=>Gj e.symm;simp[ah.aM,e']at AJ;exact hH.MV k j L Lj o oj Gj hi hj ho AJ Bx Kn
  ·simp[ah.aM,e]at gJ;by_cases e':j=i
   ·subst e';rw[hi]at hj;cases hj;exact fun eb=>hH.MV j k L Lk o ok (fun h=>Gj h.symm) hi hk ho gJ Bx (by cases ok<;>simp_all[ej.owned,ej.gone]) eb.symm
   ·simp[ah.aM,e']at AJ;exact hH.MV k j Lk Lj ok oj Gj hk hj gJ AJ UU Kn
 ·intro k Lk hk;exact hH.lt k Lk hk
 ·intro k hk;rw[ah.aM,az];exact hH.fresh k hk;have:=hH.lt i L hi;have:h.next<=k:=hk;omega
 ·intro k hk hn;rw[ah.aM,az];intro e;subst e;rw[hi]at hn;cases hn
 ·intro b hb hn;refine⟨yI b fun e=>hn ⟨i,L,o,hi,ho,Bx,e.symm⟩,?_⟩
  rintro⟨k,Lk,ok,hk,gJ,Qz,XE⟩
  by_cases e:k=i
  ·subst e;rw[hi]at hk;cases hk;exact hn ⟨k,L,o,hi,ho,Bx,XE⟩
  ·simp[ah.aM,e]at gJ;exact hn ⟨k,Lk,ok,hk,gJ,Qz,XE⟩
theorem dV.aeS{ι:cS}{h:ah}{w w':World}(hH:dV ι h w)(hh:w'.heap=w.heap)(ho:w'.os=w.os):dV ι h w':=
 ⟨fun i L hi=>let ⟨o,h1,h2⟩:=hH.obj i L hi;⟨o,h1,h2.block (by rw[hh])⟩,hH.MV,hH.lt,hH.fresh,fun i L hi=>by rw[hh];exact hH.MU i L hi,
  ⟨by rw[hh];exact hH.base.size,fun b hb=>by rw[hh];exact hH.base.old b hb,ho.trans hH.base.os,hH.base.own⟩⟩
end Go.Am
namespace Go.Am
section
variable [iY]
def GI(P:Program):List Field->List (Nat×Nat)->Prop
 |[],[]=>True
 |f::fs,(o,k)::r=>f.name≠ "_" /\f.offset=o/\((k=0/\P.underlying f.type=some .bool)\/(k=1/\P.underlying f.type=some .string)\/(k=2/\∃q,P.underlying f.type=some (.int q)))/\GI P fs r
 |_,_=>False
def No(P:Program)(k:FuncId)(f:List AV->Option AV):Prop:=
 ∃fn e,P.funcs[k]?=some fn/\(fn.name== "runtime.NumGoroutine")=false/\fn.body=none/\Extern.findNext fn=none/\Extern.find fn=some e/\
  ∀{ι:cS}{args:List AV}{v:AV}{cp:Array Value}{w:World},f args=some v->bF ι args cp.toList->∃y,(e cp).run P w= .ok y w/\bS ι v y
structure Env.Ok(E:Env):Prop where
 ext:∀k f,E.ext k=some f->No E.P k f
 fn:∀k f,E.fn k=some f->E.P.funcs[k]?=some f/\(f.name== "runtime.NumGoroutine")=false
 kQ:∀t d,E.kQ t=some d->E.P.underlying t=some d
 siz:∀t n,E.siz t=some n->∃i,E.P.info? t=some i/\i.size=n
 byt:∀t n,E.byt t=some n->∃i,E.P.info? t=some i/\i.bytes<=n+1
 zer:∀t l,E.zer t=some l->∃i z,E.P.info? t=some i/\i.zero=some z/\yk z.cells.toList=some l/\(E.isAgg t=some true->∃cs,z= .agg cs)/\(E.isAgg t=some false->z.oneCell'=true)
 flat:∀t B4,E.flat t=some B4->∃fs,E.P.underlying t=some (.struct fs)/\E.P.stoodInHeld t=false/\E.P.eqGuardType E.P.depth t=false/\GI E.P fs.toList B4
 mixed:E.P.follows .mixedOrders=true
variable{E:Env}{ι:cS}{h:ah}{w:World}{rg:T AV}{a:Act}
theorem bV(hR:cK ι rg a.tmps){x:Operand}{v:AV}(h:ic rg x=some v):bS ι v (a.eval x):=by
 cases x with
 |tmp t=>
  obtain⟨y,hy,hr⟩:=hR t v h;simp only[Act.eval];rw[yj,hy];exact hr
 |const c=>exact Rc ι h
 |global g=>simp[ic]at h
 |func f=>simp[ic]at h;subst h;exact .func f sp sp
theorem uF(hR:cK ι rg a.tmps):∀{xs:List Operand}{vs:List AV},oP rg xs=some vs->bF ι vs (xs.map a.eval)
 |[],vs,h=>by simp[oP]at h;subst h;exact bF.nil _
 |x::r,vs,h=>by
  simp only[oP]at h;split at h
  ·rename_i u us hu hus;simp at h;subst h;exact bF.cons (bV hR hu) (uF hR hus)
  ·simp at h
def ku(ι:cS)(h:ah)(w:World)(r:dZ)(h':ah):Result Next->Prop
 | .ok (.value y) w'=>∃v dS,r= .val v/\bS dS v y/\Ext ι h w dS h' w'
 | .ok .skip w'=>∃dS,r= .skip/\Ext ι h w dS h' w'
 | .ok (.enter f args) w'=>∃ae,r= .enter f ae/\bF ι ae args.toList/\w'=w/\h'=h
 | .ok (.round l f tmps ae b) w'=>∃id args L st pd n AD ps tm df vs,r= .yield id args/\ι id=some L/\h.get id=some (.loop st pd n AD ps ae b)/\
  w.heap[L.b]?=some (.loop {state:=st,pending:=pd,fn:=f,tmps:=tm,params:=ps,assign:=ae,body:=b,defers:=df})/\cK ι AD tm/\bF ι args vs/\
  l=L.b/\vs.length=ps.size/\tmps=(ps.zip vs.toArray).foldl (fun t x=>t.setIfInBounds x.1 x.2) tm/\w'=w/\h'=h
 | .ok (.defer d) w'=>∃f ae cap tR,r= .defer f ae/\d={target:= .fn (.func f) cap,args:=tR}/\bF ι ae (tR.toList++cap.toList)/\w'=w/\h'=h
 | .ok .recover w'=>r= .recover/\w'=w/\h'=h
 | .halt (.panic v) w'=>∃x,r= .panic x/\bS ι x v/\w'=w/\h'=h
 |_=>False
theorem ku.val{r:Result Next}{h':ah}{v:AV}{y:Value}{w':World}{dS:cS}(hr:r= .ok (.value y) w')(hv:bS dS v y)(he:Ext ι h w dS h' w'):ku ι h w (.val v) h' r:=by
 subst hr;exact⟨v,dS,rfl,hv,he⟩
theorem ku.pure(hH:dV ι h w){r:Result Next}{v:AV}{y:Value}(hr:r= .ok (.value y) w)(hv:bS ι v y):ku ι h w (.val v) h r:=
 .val hr hv (Ext.refl hH)
def jn(ι:cS)(h:ah)(w:World)(r:dZ)(h':ah)(res:Result Next):Prop:=
 ∃v y,r= .val v/\h'=h/\res= .ok (.value y) w/\bS ι v y
theorem jn.pure(hH:dV ι h w){r:Result Next}{v:AV}{y:Value}(hr:r= .ok (.value y) w)(hv:bS ι v y):jn ι h w (.val v) h r:=⟨v,y,rfl,rfl,hr,hv⟩
theorem jn.post(hH:dV ι h w){r:dZ}{h':ah}{res:Result Next}(hp:jn ι h w r h' res):ku ι h w r h' res:=by
 obtain⟨v,y,rfl,rfl,hr,hv⟩:=hp;exact .pure hH hr hv
theorem dV.cells(hH:dV ι h w){i:Nat}{L:Loc}{rw:Bool}{es:Nat}{cs:List AV}(hi:ι i=some L)(ho:h.get i=some (.cells rw es cs)):
 L.rw=rw/\L.es=es/\L.base+cs.length<=L.top/\∃c e fz,w.heap[L.b]?=some (.cells c e fz)/\(rw=true->fz=(0,0)/\L.top=c.size)/\
  (∀(i:Nat)(x:AV),cs[i]?=some x->∃y:Value,c[L.base+i]?=some y/\bS ι x y):=by
 obtain⟨o,h1,h2⟩:=hH.obj i L hi;rw[ho]at h1;cases h1;exact h2
theorem addr_add(b o n:Nat):(⟨b,o,none⟩:Addr).add n=⟨b,o+n,none⟩:=by
 unfold Addr.add;split<;>simp_all
theorem BB(hH:dV ι h w){i off:Nat}{L:Loc}{v:AV}(hi:ι i=some L)(hl:h.tP i off=some v):
 ∃y,w.cell? ⟨L.b,L.base+off,none⟩=some y/\bS ι v y:=by
 unfold ah.tP at hl;split at hl
 ·rename_i rw es cs ho;obtain⟨_,_,_,c,e,fz,hb,_,hc⟩:=hH.cells hi ho;obtain⟨y,hy,hr⟩:=hc off v hl;exact⟨y,by simp[World.cell?,hb,hy],hr⟩
 ·simp at hl
theorem jO(hH:dV ι h w){i off n:Nat}{L:Loc}{vs:List AV}(hi:ι i=some L)(hl:h.loadCells i off n=some vs):
 vs.length=n/\∃ys:List Value,bF ι vs ys/\∀j v,ys[j]?=some v->w.cell? ((⟨L.b,L.base+off,none⟩:Addr).add j)=some v:=by
 unfold ah.loadCells at hl;split at hl
 ·rename_i rw es cs ho;split at hl
  ·rename_i hlen;simp at hl;subst hl;obtain⟨_,_,_,c,e,fz,hb,_,hc⟩:=hH.cells hi ho;have hn:((cs.drop off).take n).length=n:=(by simp;omega);refine⟨hn,(List.range n).map (fun j=>c[L.base+off+j]?.getD default),⟨by simp;omega,?_⟩,?_⟩
   ·intro j x y hx hy;rw[gO]at hx;split at hx
    ·rename_i hj;rw[gQ]at hx;simp[hj]at hy;obtain⟨z,hz,hr⟩:=hc _ x hx;rw[<-hy,<-Nat.add_assoc]at*;simpa[hz]using hr
    ·simp at hx
   ·intro j v hv;have hj:j<n:=by
     have:=(aU.1 hv).1;simpa using this
    simp[hj]at hv;have:off+j<cs.length:=om;obtain⟨z,hz,hr⟩:=hc (off+j) cs[off+j] (by simp[this]);rw[<-Nat.add_assoc]at hz;rw[addr_add,<-hv];simp[World.cell?,hb,hz]
  ·simp at hl
 ·simp at hl
theorem mJ(hH:dV ι h w){i off:Nat}{L:Loc}{vs:List AV}{ys:List Value}{h':ah}(hi:ι i=some L)(hs:h.storeCells i off vs=some h')(hv:bF ι vs ys)(P:Program):
 ∃w',(storeCells ⟨L.b,L.base+off,none⟩ ys).run P w= .ok () w'/\Ext ι h w ι h' w':=by
 unfold ah.storeCells at hs;split at hs
 ·rename_i es cs ho;split at hs
  ·rename_i hc;obtain⟨hlen,uJ⟩:=hc;simp at hs;subst hs;obtain⟨Io,wC,QB,c,e,fz,hb,hfz,zn⟩:=hH.cells hi ho;obtain⟨rfl,agQ⟩:=hfz rfl;have h1:∀v∈ys,v.oneCell'=true:=by
    intro v tB;obtain⟨j,hj,rfl⟩:=kg tB;have Qb:j<vs.length:=(by rw[hv.1];exact hj);rw[(hv.2 j vs[j] ys[j] (by simp[Qb]) (by simp[hj])).scalar];exact(dw.1 uJ) _ (bK Qb)
   have XF:ys.length=vs.length:=hv.1.symm;have fI:=run_storeCells_at P L.b (L.base+off) e ys 0 c w hb om h1;simp only[qR]at fI;refine⟨_,fI,?_⟩;have cX:L.b<w.heap.size:=(bP.1 hb).1;refine hH.OD hi ho rfl ?_ ?_ ?_ rfl rfl rfl
   ·refine⟨Io,wC,?_,(c.toList.take (L.base+off)++ys++c.toList.drop (L.base+off+ys.length)).toArray,e,(0,0),setRow_heap w L.b c _ e _ hb,?_,?_⟩
    ·simp;omega
    ·intro _;refine⟨rfl,?_⟩;simp;omega
    ·intro j x hx;simp only[List.getElem?_toArray];rw[fR]at hx;simp only[cI]at hx;have QE:min off cs.length=off:=om;rw[QE]at hx;rw[cj,fR];have QD:(List.take (L.base+off) c.toList).length=L.base+off:=(by simp;omega);rw[QD];split at hx
     ·rename_i hj;rw[gO,aW hj]at hx;obtain⟨y,hy,hr⟩:=zn j x hx;rw[aW om,gO,aW om];exact⟨y,by simpa using hy,hr⟩
     ·rename_i hj;rw[az om,fR];rw[fR]at hx;split at hx
      ·rename_i Rf;rw[aW om];obtain⟨y,hy,hr⟩:=hv.get hx;exact⟨y,by rw[<-hy];congr 1;omega,hr⟩
      ·rename_i Rf;rw[az om,gQ];rw[gQ]at hx;obtain⟨y,hy,hr⟩:=zn _ x hx;refine⟨y,?_,hr⟩;rw[<-Array.getElem?_toList]at hy;rw[<-hy];congr 1;omega
   ·simp[World.setRow]
   ·intro b jX;simp only[World.setRow,iI];rw[az (fun e=>jX e.symm)]
  ·simp at hs
 ·simp at hs
end
section
variable [iY]
variable{E:Env}{ι:cS}{h:ah}{w:World}{rg:T AV}{a:Act}
theorem eI(hE:E.Ok){t:TypeId}{n:Nat}(hs:E.siz t=some n)(w:World):(sizeOf t).run E.P w= .ok n w:=by
 obtain⟨i,hi,hn⟩:=hE.siz t n hs;simp[sizeOf,typeInfo,hi,hn]
theorem cG(hE:E.Ok){t:TypeId}{d:TypeDesc}(hs:E.kQ t=some d)(w:World):(underlying t).run E.P w= .ok d w:=
 run_underlying (hE.kQ t d hs) w
theorem rW(hE:E.Ok){t:TypeId}{b:Bool}(hs:E.isAgg t=some b)(w:World):(isAgg t).run E.P w= .ok b w:=by
 unfold Env.isAgg at hs;unfold Go.isAgg;split at hs<;>simp at hs<;>subst hs
 ·rename_i fs hd;simp[cG hE hd]
 ·rename_i n e hd;simp[cG hE hd]
 ·rename_i d h1 h2 hd;rw[Sem.run_bind,cG hE hd];cases d<;>simp_all
theorem oV(hE:E.Ok){t:TypeId}{l:List AV}(hz:E.zer t=some l)(w:World):∃z,(zeroValue t).run E.P w= .ok z w/\yk z.cells.toList=some l/\
 (E.isAgg t=some true->∃cs,z= .agg cs)/\(E.isAgg t=some false->z.oneCell'=true):=by
 obtain⟨i,z,hi,hz,hl,ha,hb⟩:=hE.zer t l hz;exact⟨z,by simp[zeroValue,typeInfo,hi,hz],hl,ha,hb⟩
theorem Gm:∀{vs:List Value}{l:List AV},yk vs=some l->l.length=vs.length:=fun hl=>(jN (fun _=>none) hl).1
theorem uH(hH:dV ι h w){w0:World}(hh:w0.heap=w.heap)(Es:w0.os=w.os)(ht:w0.tape=w.tape)(ho:w0.output=w.output)
 (rw:Bool) (es:Nat) {cs:List AV} {c:Array Value} (e:TypeId) (hc:∀(i:Nat)(x:AV),cs[i]?=some x->∃y:Value,c[i]?=some y/\bS ι x y) (hl:cs.length<=c.size):
 Ext ι h w (ι.add h.next ⟨w.heap.size,0,c.size,es,rw⟩) (h.alloc (.cells rw es cs)).2 (w0.alloc (.cells c e)):=by
 have hle:ι.le (ι.add h.next ⟨w.heap.size,0,c.size,es,rw⟩):=fun i Li hi=>by
  rw[cS.cm];exact hi;have:=hH.lt i Li hi;omega
 refine hH.alloc hh Es ht ho _ _ _ rfl ⟨rfl,rfl,by simpa using hl,c,e,(0,0),?_,fun _=>⟨rfl,rfl⟩,fun i x hx=>?_⟩
 ·rw[<-hh];exact heap_alloc_new w0 _
 ·obtain⟨y,hy,hr⟩:=hc i x hx;exact⟨y,by simpa using hy,hr.mono hle⟩
theorem oB{xs:List AV}{c:Array Value}(hv:bF ι xs c.toList):(∀(i:Nat)(x:AV),xs[i]?=some x->∃y:Value,c[i]?=some y/\bS ι x y)/\xs.length<=c.size:=
 ⟨fun i x hx=>let ⟨y,hy,hr⟩:=hv.get hx;⟨y,by simpa using hy,hr⟩,by have:=hv.1;simp at this;omega⟩
theorem bS.new{ι:cS}{n:Nat}{L:Loc}:bS (ι.add n L) (.ptr (some (n,0))) (.pointer (some ⟨L.b,L.base,none⟩)):=
 .ptr (off:=0) (cS.add_same ι n L)
theorem sM{place:Nat->Option (Nat×Nat)}:∀{ps:List (Nat×AV)}{qs:List (Nat×Value)}{cs:List AV}{c:Array Value}{uf:List AV},
 (∀(i:Nat) x y,ps[i]?=some x->qs[i]?=some y->x.1=y.1/\bS ι x.2 y.2)->ps.length=qs.length->bF ι cs c.toList->vJ place cs ps=some uf->
 ∃c',Instr.fill place c qs=some c'/\bF ι uf c'.toList
 |[],[],cs,c,uf,_,_,hv,hf=>by simp[vJ]at hf;subst hf;exact⟨c,rfl,hv⟩
 |(i,v)::ps,(j,u)::qs,cs,c,uf,hp,hl,hv,hf=>by
  obtain⟨h1,h2⟩:=hp 0 _ _ rfl rfl;simp only at h1 h2;subst h1;simp only[vJ]at hf;simp only[Instr.fill];cases rO:place i with
  |none=>simp[rO]at hf
  |some os=>
   obtain⟨off,size⟩:=os;simp only[rO]at hf⊢;split at hf
   ·rename_i hc;obtain⟨hlen,Lb,xL⟩:=hc;have CR:=h2.cells;have hul:u.cells.size=size:=(by have:=CR.1;simp at this;omega);have zo:c.size=cs.length:=(by have:=hv.1;simp at this;omega);rw[az (by simp;omega)];refine sM (fun k x y hx hy=>hp (k+1) x y (by simpa using hx) (by simpa using hy)) (by simpa using hl) ?_ hf;have key:(u.cells.zipIdx.foldl (fun cs x=>cs.setIfInBounds (off+x.2) x.1) c).toList=c.toList.take off++u.cells.toList++c.toList.drop (off+size):=by
     have gen:∀(l:List Value)(k:Nat)(c:Array Value),off+k+l.length<=c.size->
      ((l.zipIdx k).foldl (fun cs x=>cs.setIfInBounds (off+x.2) x.1) c).toList=c.toList.take (off+k)++l++c.toList.drop (off+k+l.length):=by
      intro l;induction l with
      |nil=>intro k c _;simp
      |cons x l ih=>
       intro k c hk;simp only[List.zipIdx_cons,j5];rw[ih (k+1) _ (by simp at hk⊢;omega)];have e:=list_seg_step c.toList (off+k) x l (by simp at hk⊢;omega);simpa[Array.toList_setIfInBounds,aI]using e
     have:=gen u.cells.toList 0 c (by simp;omega);rw[<-Array.foldl_toList,Array.toList_zipIdx];simpa[hul]using this
    show bF ι _ ((u.cells.zipIdx.foldl (fun cs x=>cs.setIfInBounds (off+x.2) x.1) c).toList);rw[key];exact((hv.take off).append CR).append (hv.drop _)
   ·simp at hf
 |[],_::_,_,_,_,_,hl,_,_=>by simp at hl
 |_::_,[],_,_,_,_,hl,_,_=>by simp at hl
theorem qK(hR:cK ι rg a.tmps):∀{xs:List (Nat×Operand)}{ps:List (Nat×AV)},nM rg xs=some ps->
 ps.length=xs.length/\∀(i:Nat) x y,ps[i]?=some x->(xs.map fun(p:Nat×Operand)=>(p.1,a.eval p.2))[i]?=some y->x.1=y.1/\bS ι x.2 y.2
 |[],ps,h=>by simp[nM]at h;subst h;simp
 |(k,x)::r,ps,h=>by
  simp only[nM]at h;split at h
  ·rename_i u us hu hus;simp at h;subst h;obtain⟨h1,h2⟩:=qK hR hus;refine⟨by simp[h1],fun i x y hx hy=>?_⟩;cases i with
   |zero=>simp at hx hy;subst hx;subst hy;exact⟨rfl,bV hR hu⟩
   |succ i=>exact h2 i x y (by simpa using hx) (by simpa using hy)
  ·simp at h
theorem Di(hE:E.Ok)(w:World):∀{fs:List Field}{pl:List (Nat×Nat)},rJ E fs=some pl->
 (fs.mapM fun(f:Field)=>(do pure (f.offset,<-sizeOf f.type):Sem (Nat×Nat))).run E.P w= .ok pl w
 |[],pl,h=>by simp[rJ]at h;subst h;simp
 |f::r,pl,h=>by
  simp only[rJ]at h;split at h
  ·rename_i s l hs hl;simp at h;subst h;have ih:=Di hE w hl;simp at ih;simp[eI hE hs,ih]
  ·simp at h
theorem I8(hE:E.Ok)(w:World){fs:Array Field}{pl:List (Nat×Nat)}(hp:rJ E fs.toList=some pl):
 (fs.mapM fun(f:Field)=>(do pure (f.offset,<-sizeOf f.type):Sem (Nat×Nat))).run E.P w= .ok pl.toArray w:=by
 rw[Array.mapM_eq_mapM_toList,Sem.run_map,Di hE w hp];rfl
end
section
variable [iY]
variable{E:Env}{ι:cS}{h h':ah}{w:World}{rg:T AV}{a:Act}{o:Oper}{r:dZ}
theorem Cp(hR:cK ι rg a.tmps)(hH:dV ι h w){x:Operand}(ho:o.op= .move x\/o.op= .assign x)(aX:eF E rg h o=some (r,h')):
 jn ι h w r h' ((execOp a.eval o).run E.P w):=by
 have e:(execOp a.eval o).run E.P w= .ok (.value (a.eval x)) w:=by rcases ho with ho|ho<;>simp[execOp,ho]
 have:eF E rg h o=match ic rg x with|some v=>some (.val v,h)|none=>none:=by rcases ho with ho|ho<;>simp only[eF,dK,dM,cx,fY,cy,ba,dN,cz,bG,cu,dO,bL,aT,bH,bN,bh,cA,bj,cB,bm,cC,bT,bp,bc,bM,dQ,cD,cF,cJ,dU,ho]<;>rfl
 rw[this]at aX;split at aX
 ·rename_i v hv;simp at aX;obtain⟨rfl,rfl⟩:=aX;exact .pure hH e (bV hR hv)
 ·simp at aX
theorem MZ(hR:cK ι rg a.tmps)(hH:dV ι h w){c x y:Operand}(ho:o.op= .pick c x y)(aX:eF E rg h o=some (r,h')):
 jn ι h w r h' ((execOp a.eval o).run E.P w):=by
 simp only[eF,dK,dM,cx,fY,cy,ba,dN,cz,bG,cu,dO,bL,aT,bH,bN,bh,cA,bj,cB,bm,cC,bT,bp,bc,bM,dQ,cD,cF,cJ,dU,ho]at aX;split at aX
 ·rename_i hc;have hb:=bV hR hc;cases Uk:a.eval c<;>rw[Uk]at hb<;>cases hb;split at aX
  ·rename_i v hv;simp at aX;obtain⟨rfl,rfl⟩:=aX;exact .pure hH (by simp[execOp,ho,Uk,asBool]) (bV hR hv)
  ·simp at aX
 ·rename_i hc;have hb:=bV hR hc;cases Uk:a.eval c<;>rw[Uk]at hb<;>cases hb;split at aX
  ·rename_i v hv;simp at aX;obtain⟨rfl,rfl⟩:=aX;exact .pure hH (by simp[execOp,ho,Uk,asBool]) (bV hR hv)
  ·simp at aX
 ·simp at aX
theorem QJ(hE:E.Ok)(hH:dV ι h w){t:TypeId}(ho:o.op= .alloc t)(aX:eF E rg h o=some (r,h')):
 ku ι h w r h' ((execOp a.eval o).run E.P w):=by
 simp only[eF,dK,dM,cx,fY,cy,ba,dN,cz,bG,cu,dO,bL,aT,bH,bN,bh,cA,bj,cB,bm,cC,bT,bp,bc,bM,dQ,cD,cF,cJ,dU,ho]at aX;split at aX
 ·rename_i cs hz;simp at aX;obtain⟨rfl,rfl⟩:=aX;obtain⟨z,Il,wB,_,_⟩:=oV hE hz w;obtain⟨hc,hl⟩:=oB (jN ι wB);exact .val (by simp[execOp,ho,Instr.alloc,Il,newVar,newRow]) bS.new (uH hH rfl rfl rfl rfl true 0 t hc hl)
 ·simp at aX
theorem Zt(hE:E.Ok)(hR:cK ι rg a.tmps)(hH:dV ι h w){t:TypeId}{x:Operand}(ho:o.op= .box t x)(aX:eF E rg h o=some (r,h')):
 ku ι h w r h' ((execOp a.eval o).run E.P w):=by
 simp only[eF,dK,dM,cx,fY,cy,ba,dN,cz,bG,cu,dO,bL,aT,bH,bN,bh,cA,bj,cB,bm,cC,bT,bp,bc,bM,dQ,cD,cF,cJ,dU,ho]at aX;split at aX
 ·rename_i v hv;split at aX
  ·simp at aX;obtain⟨rfl,rfl⟩:=aX;obtain⟨hc,hl⟩:=oB (bV hR hv).cells;exact .val (by simp[execOp,ho,Instr.box,newVar,newRow]) bS.new (uH hH rfl rfl rfl rfl true 0 t hc hl)
  ·simp at aX
 ·simp at aX
theorem Ix(hE:E.Ok)(hR:cK ι rg a.tmps)(hH:dV ι h w){t:TypeId}{parts:Array (Nat×Operand)}(ho:o.op= .build t parts)(aX:eF E rg h o=some (r,h')):
 jn ι h w r h' ((execOp a.eval o).run E.P w):=by
 simp only[eF,dK,dM,cx,fY,cy,ba,dN,cz,bG,cu,dO,bL,aT,bH,bN,bh,cA,bj,cB,bm,cC,bT,bp,bc,bM,dQ,cD,cF,cJ,dU,ho]at aX;split at aX
 ·rename_i z fs ps hz hu Ef;split at aX
  ·rename_i pl rO;split at aX
   ·rename_i cs hf;simp at aX;obtain⟨rfl,rfl⟩:=aX;obtain⟨zv,Il,wB,_,_⟩:=oV hE hz w;obtain⟨h1,h2⟩:=qK hR Ef;obtain⟨c',Gz,tB⟩:=sM (ι:=ι) (qs:=parts.toList.map fun(p:Nat×Operand)=>(p.1,a.eval p.2)) h2 (by simpa using h1) (jN ι wB) hf;have hp:=I8 hE w rO;refine .pure hH (y:= .agg c') ?_ (.La tB);simp only[execOp,ho,Instr.build,Sem.run_bind,Il,Result.andThen_ok,cG hE hu,hp];simp[Gz]
   ·simp at aX
  ·simp at aX
 ·rename_i z n e ps hz hu Ef;split at aX
  ·rename_i s hs;split at aX
   ·rename_i cs hf;simp at aX;obtain⟨rfl,rfl⟩:=aX;obtain⟨zv,Il,wB,_,_⟩:=oV hE hz w;obtain⟨h1,h2⟩:=qK hR Ef;obtain⟨c',Gz,tB⟩:=sM (ι:=ι) (qs:=parts.toList.map fun(p:Nat×Operand)=>(p.1,a.eval p.2)) h2 (by simpa using h1) (jN ι wB) hf;refine .pure hH (y:= .agg c') ?_ (.La tB);simp only[execOp,ho,Instr.build,Sem.run_bind,Il,Result.andThen_ok,cG hE hu,eI hE hs];simp[Gz]
   ·simp at aX
  ·simp at aX
 ·simp at aX
end
section
variable [iY]
variable{E:Env}{ι:cS}{h h':ah}{w:World}{rg:T AV}{a:Act}{o:Oper}{r:dZ}
theorem bS.kR{i off:Nat}{v:Value}(h:bS ι (.ptr (some (i,off))) v):∃L,ι i=some L/\v= .pointer (some ⟨L.b,L.base+off,none⟩):=by
 cases h with|ptr h=>exact⟨_,h,rfl⟩
theorem nP{z:Array Value}{zl:List AV}{len s:Nat}(hz:bF ι zl z.toList)(hs:zl.length=s+1):
 bF ι (List.replicate len zl).flatten ((Array.range (len*(s+1))).map (fun i=>z[i%z.size]!)).toList:=by
 have hzs:z.size=s+1:=by have:=hz.1;simp at this;omega
 refine⟨by simp[hs],fun i x y hx hy=>?_⟩;have key:∀(len i:Nat)(x:AV),((List.replicate len zl).flatten)[i]?=some x->zl[i%(s+1)]?=some x/\i<len*(s+1):=by
  intro len;induction len with
  |zero=>intro i x h;simp at h
  |succ n ih=>
   intro i x h;rw[List.replicate_succ,j1,fR]at h;split at h
   ·rename_i cX;rw[hs]at cX;refine⟨by rw[Nat.mod_eq_of_lt cX];exact h,?_⟩;have:s+1<=(n+1)*(s+1):=Nat.le_mul_of_pos_left _ om;omega
   ·rename_i cX;rw[hs]at cX h;obtain⟨h1,h2⟩:=ih _ _ h;have afn:i%(s+1)=(i-(s+1))%(s+1):=by
     conv=>lhs;rw[show i=(i-(s+1))+(s+1)from by omega]
     rw[Nat.add_mod_right]
    refine⟨by rw[afn];exact h1,?_⟩;rw[Nat.add_mul];omega
 obtain⟨h1,h2⟩:=key _ _ _ hx;rw[Array.toList_map,bQ]at hy;simp[h2]at hy;have hm:i%(s+1)<s+1:=Nat.mod_lt _ om;rw[hzs]at hy;refine hz.2 _ _ _ h1 ?_;rw[<-hy];simp[hzs,hm,getElem!_pos]
theorem Dt(f:Value×Nat->Nat)(g:Value×Nat->Value):∀(l:List (Value×Nat))(c:Array Value),(l.foldl (fun cs x=>cs.setIfInBounds (f x) (g x)) c).size=c.size
 |[],c=>rfl
 |x::l,c=>by simp only[j5];rw[Dt f g l];simp
theorem AO(place:Nat->Option (Nat×Nat)):∀(qs:List (Nat×Value)){c c':Array Value},Instr.fill place c qs=some c'->c'.size=c.size
 |[],c,c',h=>by simp[Instr.fill]at h;rw[h]
 |(j,u)::qs,c,c',h=>by
  simp only[Instr.fill]at h;split at h
  ·simp at h
  ·split at h
   ·simp at h
   ·rw[AO place qs h,<-Array.foldl_toList];exact Dt _ _ _ _
theorem Eu(hE:E.Ok)(hR:cK ι rg a.tmps)(hH:dV ι h w){t:TypeId}{len:Nat}{parts:Array (Nat×Operand)}(ho:o.op= .buildSlice t len parts)(aX:eF E rg h o=some (r,h')):
 ku ι h w r h' ((execOp a.eval o).run E.P w):=by
 simp only[eF,dK,dM,cx,fY,cy,ba,dN,cz,bG,cu,dO,bL,aT,bH,bN,bh,cA,bj,cB,bm,cC,bT,bp,bc,bM,dQ,cD,cF,cJ,dU,ho]at aX;split at aX
 ·rename_i e ps hu Ef;split at aX
  ·rename_i s z hs hz;split at aX
   ·rename_i hc;obtain⟨hlen,Gv,wB⟩:=hc;split at aX
    ·rename_i cs hf;simp at aX;obtain⟨rfl,rfl⟩:=aX;obtain⟨zv,Il,UN,_,_⟩:=oV hE hz w;obtain⟨h1,h2⟩:=qK hR Ef;have CM:=jN ι UN;have KZ:=nP (len:=len) CM wB;obtain⟨c',Gz,tB⟩:=sM (ι:=ι) (qs:=parts.toList.map fun(p:Nat×Operand)=>(p.1,a.eval p.2)) h2 (by simpa using h1) KZ hf;obtain⟨OB,zo⟩:=oB tB;have zn:c'.size=len*(s+1):=by
      rw[AO _ _ Gz];simp
     have hle:len*(s+1)<=16777216:=by
      have:len*(s+1)<=1000*1001:=uw hlen om;omega
     refine .val (y:= .slice (some ⟨w.heap.size,0,none⟩) len len) (w':=w.alloc (.cells c' e)) (dS:=ι.add h.next ⟨w.heap.size,0,c'.size,s+1,true⟩) ?_ ?_ (uH hH rfl rfl rfl rfl true (s+1) e OB zo)
     ·have hn:¬(16777216<len*(s+1)):=om;simp only[execOp,ho,Instr.buildSlice,Sem.run_bind,cG hE hu,Result.andThen_ok,eI hE hs];by_cases h0:len*(s+1)=0
      ·have Ee:len=0:=by
        rcases Nat.mul_eq_zero.1 h0 with h|h<;>omega
       subst Ee;have e1:(Array.range (0*(s+1))).map (fun i=>zv.cells[i%zv.cells.size]!)= #[]:=sp;rw[e1]at Gz;have zp:Instr.fill (fun i=>some (i*(s+1),s+1)) #[] (parts.toList.map fun(p:Nat×Operand)=>(p.1,a.eval p.2))=some c':=Gz;have e2:Array.map (fun _:Nat=>(default:Value)) (Array.range 0)= #[]:=(by apply jf;simp[zk]);simp[zp,newRow,e2]
      ·simp[hn,h0,Il,Gz,newRow]
     ·refine .slice (off:=0) (L:=⟨w.heap.size,0,c'.size,s+1,true⟩) (cS.add_same _ _ _) (ao _) (fun _ _=>?_);simp[zn]
    ·simp at aX
   ·simp at aX
  ·simp at aX
 ·simp at aX
theorem M0(hE:E.Ok)(hR:cK ι rg a.tmps)(hH:dV ι h w){t:TypeId}{x:Operand}(ho:o.op= .load t x)(aX:eF E rg h o=some (r,h')):
 jn ι h w r h' ((execOp a.eval o).run E.P w):=by
 simp only[eF,dK,dM,cx,fY,cy,ba,dN,cz,bG,cu,dO,bL,aT,bH,bN,bh,cA,bj,cB,bm,cC,bT,bp,bc,bM,dQ,cD,cF,cJ,dU,ho]at aX;split at aX
 ·rename_i i off hv;obtain⟨L,hL,hx⟩:=(bV hR hv).kR;split at aX
  ·rename_i n K9 hs;split at aX
   ·rename_i cs zn;simp at aX;obtain⟨rfl,rfl⟩:=aX;obtain⟨hn,ys,gz,zH⟩:=jO hH hL zn;have hl:=run_loadCells_list (P:=E.P) w _ ys zH;have XF:ys.length=n:=(by rw[<-gz.1];exact hn);rw[XF]at hl;refine .pure hH (y:= .agg ys.toArray) ?_ (.La (by simpa using gz));simp[execOp,ho,hx,Instr.loadAt,Instr.sureAddr,loadVar,rW hE K9,eI hE hs,hl]
   ·simp at aX
  ·rename_i n K9 hs;split at aX
   ·rename_i v tB;simp at aX;obtain⟨rfl,rfl⟩:=aX;obtain⟨y,hy,hr⟩:=BB hH hL tB;refine .pure hH (y:=y) ?_ hr;simp[execOp,ho,hx,Instr.loadAt,Instr.sureAddr,loadVar,rW hE K9,hy]
   ·simp at aX
  ·simp at aX
 ·simp at aX
theorem QK(hE:E.Ok)(hR:cK ι rg a.tmps)(hH:dV ι h w){t:TypeId}{x y:Operand}(ho:o.op= .store t x y)(aX:eF E rg h o=some (r,h')):
 ku ι h w r h' ((execOp a.eval o).run E.P w):=by
 simp only[eF,dK,dM,cx,fY,cy,ba,dN,cz,bG,cu,dO,bL,aT,bH,bN,bh,cA,bj,cB,bm,cC,bT,bp,bc,bM,dQ,cD,cF,cJ,dU,ho]at aX;split at aX
 ·rename_i i off v hv tB;obtain⟨L,hL,hx⟩:=(bV hR hv).kR;split at aX
  ·rename_i hs;split at aX
   ·rename_i h1 fI;simp at aX;obtain⟨rfl,rfl⟩:=aX;have hc:=(bV hR tB).cells;obtain⟨w',HV,he⟩:=mJ hH hL fI hc E.P;have ng:(a.eval y).cells.size=v.cells.length:=(by have:=hc.1;simp at this;omega);have mI:(execOp a.eval o).run E.P w= .ok .skip w':=by
     simp[execOp,ho,hx,Instr.storeAt,Instr.sureAddr,storeVar,eI hE hs.symm,ng,HV]
    rw[mI];exact⟨ι,rfl,he⟩
   ·simp at aX
  ·simp at aX
 ·simp at aX
theorem BA(hR:cK ι rg a.tmps)(hH:dV ι h w){x:Operand}(ho:o.op= .nilCheck x)(aX:eF E rg h o=some (r,h')):
 jn ι h w r h' ((execOp a.eval o).run E.P w):=by
 simp only[eF,dK,dM,cx,fY,cy,ba,dN,cz,bG,cu,dO,bL,aT,bH,bN,bh,cA,bj,cB,bm,cC,bT,bp,bc,bM,dQ,cD,cF,cJ,dU,ho]at aX;split at aX
 ·rename_i p hv;simp at aX;obtain⟨rfl,rfl⟩:=aX;obtain⟨L,hL,hx⟩:=(bV hR hv).kR;refine .pure hH (y:=a.eval x) ?_ (bV hR hv);simp[execOp,ho,hx]
 ·rename_i f cs hv;simp at aX;obtain⟨rfl,rfl⟩:=aX;have hr:=bV hR hv;refine .pure hH (y:=a.eval x) ?_ hr;cases he:a.eval x<;>rw[he]at hr<;>cases hr;simp[execOp,ho,he]
 ·rename_i l hv;simp at aX;obtain⟨rfl,rfl⟩:=aX;have hr:=bV hR hv;refine .pure hH (y:=a.eval x) ?_ hr;cases he:a.eval x<;>rw[he]at hr<;>cases hr;simp[execOp,ho,he]
 ·simp at aX
end
section
variable [iY]
variable{E:Env}{ι:cS}{h h':ah}{w:World}{rg:T AV}{a:Act}{o:Oper}{r:dZ}
theorem sJ{s:Sem Value}{v:AV}(hp:cn s=some v)(ι:cS)(P:Program)(w:World):∃y,s.run P w= .ok y w/\bS ι v y:=by
 unfold cn at hp;split at hp
 ·rename_i y;exact⟨y,rfl,xQ ι hp⟩
 ·simp at hp
theorem rK(l:List UInt8):(⟨l.toArray⟩:ByteArray).toList=l:=by
 rw[ByteArray.toList_eq]
theorem LI{P:Program}{k:Nat}{x y:AV}{u v:Value}{b:Bool}(hx:bS ι x u)(hy:bS ι y v)(he:CI k x y=some b){t:TypeId}(d:Nat)(w:World)
 (ht:(k=0/\P.underlying t=some .bool)\/(k=1/\P.underlying t=some .string)\/(k=2/\∃q,P.underlying t=some (.int q))):
 (Op.equalIn (d+1) t u v).run P w= .ok b w:=by
 unfold CI at he;split at he
 ·rename_i c c';cases hx;cases hy;simp at he;subst he;exact run_equalIn_bool (P:=P) w d t c c' (by simpa using ht)
 ·rename_i c c';cases hx;cases hy;simp at he;subst he;have:=run_equalIn_string (P:=P) w d t ⟨c.toArray⟩ ⟨c'.toArray⟩ (by simpa using ht);rw[rK,rK]at this;exact this
 ·rename_i q1 c q2 c';cases hx;cases hy;obtain⟨q,hq⟩:∃q,P.underlying t=some (.int q):=by simpa using ht
  split at he
  ·rename_i e;subst e;simp at he;subst he;exact run_equalIn_int (P:=P) w d t q1 q c c' hq
  ·simp at he
 ·simp at he
theorem Du{P:Program}{k:Nat}{t:TypeId}(w:World)
 (ht:(k=0/\P.underlying t=some .bool)\/(k=1/\P.underlying t=some .string)\/(k=2/\∃q,P.underlying t=some (.int q))):(Go.isAgg t).run P w= .ok false w:=by
 rcases ht with⟨_,h⟩|⟨_,h⟩|⟨_,q,h⟩<;>simp[Go.isAgg,run_underlying h]
theorem Dv{P:Program}(d:Nat)(w:World){xs ys:List AV}{us vs:Array Value}(hx:bF ι xs us.toList)(hy:bF ι ys vs.toList):
 ∀(fs:List Field)(B4:List (Nat×Nat))(b:Bool),GI P fs B4->yF xs ys B4=some b->(Op.eqFields (d+1) us vs fs).run P w= .ok b w
 |[],[],b,_,he=>by simp[yF]at he;subst he;simp[Op.eqFields]
 |f::fs,(o,k)::r,b,hf,he=>by
  obtain⟨hn,rfl,hk,hr⟩:=hf;simp only[yF]at he;split at he
  ·rename_i x y hxo hyo;obtain⟨u,hu,hxu⟩:=hx.get hxo;obtain⟨v,hv,hyv⟩:=hy.get hyo;have pu:(part f.type us f.offset).run P w= .ok u w:=(by simp[part,Du w hk,<-Array.getElem?_toList,hu]);have pv:(part f.type vs f.offset).run P w= .ok v w:=(by simp[part,Du w hk,<-Array.getElem?_toList,hv]);cases hb:CI k x y with
   |none=>simp[hb]at he
   |some c=>
    have hc:=LI hxu hyv hb d w hk;simp only[hb]at he;simp only[Op.eqFields,hn,ne_eq,dT,lM,Sem.run_bind,pu,Result.andThen_ok,pv,hc];cases c
    ·simp at he;subst he;simp
    ·simp only[Bool.not_true,gR,iW];exact Dv d w hx hy fs r b hr he
  ·simp at he
 |[],_::_,_,hf,_=>hf.elim
 |_::_,[],_,hf,_=>hf.elim
theorem E4(P:Program)(hH:dV ι h w){p q:Nat×Nat}{Lp Lq:Loc}{b:Bool}(hp:ι p.1=some Lp)(hq:ι q.1=some Lq)(he:vI h p q=some b):
 (sameAddr ⟨Lp.b,Lp.base+p.2,none⟩ ⟨Lq.b,Lq.base+q.2,none⟩).run P w= .ok b w:=by
 unfold vI at he;split at he
 ·rename_i rw1 es1 cs1 rw2 es2 cs2 Ge B9;split at he
  ·rename_i e;simp at he;subst he;rw[e]at hp;rw[hp]at hq;cases hq;by_cases h2:p.2=q.2
   ·simp[sameAddr,h2]
   ·have:¬(Lp.base+p.2=Lp.base+q.2):=om;have hb:(({block:=Lp.b,off:=Lp.base+p.2}:Addr)=={block:=Lp.b,off:=Lp.base+q.2})=false:=by
     rw[aH];intro e;injection e with _ e2;omega
    simp[sameAddr,hb,h2]
  ·rename_i e;split at he
   ·rename_i Io;simp at he;subst he;obtain⟨_,_,_,c1,e1,fz1,E9,hf1,_⟩:=hH.cells hp Ge;obtain⟨_,_,_,c2,e2,fz2,jJ,hf2,_⟩:=hH.cells hq B9;have jX:Lp.b≠Lq.b:=by
     simp at Io;exact hH.MV p.1 q.1 Lp Lq _ _ e hp hq Ge B9 (by simp[ej.owned,Io.1]) rfl
    simp at Io;obtain⟨rfl,rfl⟩:=Io;obtain⟨rfl,_⟩:=hf1 rfl;obtain⟨rfl,_⟩:=hf2 rfl;have s1:w.shape? Lp.b=some (e1,c1.size):=(by simp[World.shape?,E9]);have s2:w.shape? Lq.b=some (e2,c2.size):=(by simp[World.shape?,jJ]);have f1:∀k,w.frozen? ⟨Lp.b,k,none⟩=false:=fun k=>by simp[World.frozen?,E9]
    have f2:∀k,w.frozen? ⟨Lq.b,k,none⟩=false:=fun k=>by simp[World.frozen?,jJ]
    have HQ:(Lp.b==Lq.b)=false:=(by simpa using jX);simp[sameAddr,HQ,f1,f2,noView,viewAt,s1,s2,mayBeOne,stringish]
   ·simp at he
 ·simp at he
end
section
variable [iY]
variable{E:Env}{ι:cS}{h h':ah}{w:World}{rg:T AV}{a:Act}{o:Oper}{r:dZ}
theorem O1(hE:E.Ok)(hH:dV ι h w){t:TypeId}{c:Bool}{x y:AV}{u v:Value}{b:Bool}(hx:bS ι x u)(hy:bS ι y v)(he:E2 E h t c x y=some b)(d:Nat):
 (Op.equalIn (d+1+1) t u v).run E.P w= .ok b w:=by
 unfold E2 at he;split at he
 ·rename_i p q;split at he
  ·rename_i hu;simp at he;subst he;cases hx;cases hy;exact run_equalIn_bool (P:=E.P) w _ t p q (hE.kQ t _ hu)
  ·simp at he
 ·rename_i p q;split at he
  ·rename_i e hu;have HR:=cG hE hu w;split at he
   ·simp at he;subst he;cases hx;cases hy;rw[Op.equalIn];simp[HR]
   ·simp at he;subst he;cases hx;cases hy;rw[Op.equalIn];simp[HR]
   ·simp at he;subst he;cases hx;cases hy;rw[Op.equalIn];simp[HR]
   ·rename_i p q;split at he
    ·rename_i n hs;obtain⟨Lp,hLp,rfl⟩:=hx.kR;obtain⟨Lq,hLq,rfl⟩:=hy.kR;have qU:=eI hE hs w;rw[Op.equalIn];simp[HR,qU,E4 E.P hH hLp hLq he]
    ·simp at he
  ·simp at he
 ·split at he
  ·rename_i ms hu;split at he
   ·simp at he;subst he;cases hx;cases hy;rw[Op.equalIn];simp[cG hE hu]
   ·simp at he
  ·simp at he
 ·split at he
  ·rename_i ms hu;simp at he;subst he;cases hx;cases hy;rw[Op.equalIn];simp[cG hE hu]
  ·simp at he
 ·split at he
  ·rename_i ms hu;simp at he;subst he;cases hx;cases hy;rw[Op.equalIn];simp[cG hE hu]
  ·simp at he
 ·split at he
  ·rename_i ms hu;simp at he;subst he;cases hy;cases hx<;>(rw[Op.equalIn];simp[cG hE hu])
  ·simp at he
 ·split at he
  ·rename_i ms hu;simp at he;subst he;cases hy;cases hx<;>(rw[Op.equalIn];simp[cG hE hu])
  ·simp at he
 ·rename_i xs ys;split at he
  ·rename_i B4 HW;obtain⟨us,rfl,hus⟩:=hx.xK;obtain⟨vs,rfl,Nh⟩:=hy.xK;obtain⟨fs,hu,fI,heq,gJ⟩:=hE.flat t B4 HW;have hf:E.P.fieldsOf t=fs:=(by simp[Program.fieldsOf,hu]);have HR:E.P.underlying t=some (.struct (E.P.fieldsOf t)):=(by rw[hf];exact hu);rw[run_equalIn_struct w (d+1) t us vs HR fI,hf];exact Dv d w hus Nh _ _ _ gJ he
  ·simp at he
 ·simp at he
theorem NK(hE:E.Ok)(hH:dV ι h w){t:TypeId}{c:Bool}{x y:AV}{u v:Value}{b:Bool}(hx:bS ι x u)(hy:bS ι y v)(he:E2 E h t c x y=some b):
 (Op.equal t u v).run E.P w= .ok b w:=O1 hE hH hx hy he 9998
theorem BJ(hE:E.Ok){t:TypeId}{op:BinOp}(aX:op= .eql\/op= .neq){x y:Operand}{p q:AV}{u v:Value}{b:Bool}(hx:bS ι p u)(hy:bS ι q v)
 (he:E2 E h t (jP x||jP y) p q=some b) (w:World):(eqGuard op t x y u v).run E.P w= .ok () w:=by
 unfold E2 at he;split at he
 ·cases hx;cases hy;rcases aX with rfl|rfl<;>simp[eqGuard]
 ·cases hx<;>cases hy<;>rcases aX with rfl|rfl<;>simp[eqGuard]
 ·split at he
  ·split at he
   ·rename_i hc;cases hx;cases hy;rcases aX with rfl|rfl<;>cases x<;>cases y<;>simp_all[jP,eqGuard]
   ·simp at he
  ·simp at he
 ·cases hx;cases hy;rcases aX with rfl|rfl<;>simp[eqGuard]
 ·cases hx;cases hy;rcases aX with rfl|rfl<;>simp[eqGuard]
 ·cases hy;cases hx<;>rcases aX with rfl|rfl<;>simp[eqGuard]
 ·cases hy;cases hx<;>rcases aX with rfl|rfl<;>simp[eqGuard]
 ·split at he
  ·rename_i B4 HW;obtain⟨us,rfl,hus⟩:=hx.xK;obtain⟨vs,rfl,Nh⟩:=hy.xK;obtain⟨fs,hu,fI,heq,gJ⟩:=hE.flat t B4 HW;rcases aX with rfl|rfl<;>simp[eqGuard,heq]
  ·simp at he
 ·simp at he
theorem binOp_eql(hE:E.Ok)(t:TypeId){c:Bool}{p q:AV}{u v:Value}{b:Bool}(hx:bS ι p u)(hy:bS ι q v)(he:E2 E h t c p q=some b):
 Go.binOp .eql t u v=(do pure (.bool (<-Op.equal t u v)):Sem Value)/\Go.binOp .neq t u v=(do pure (.bool (!(<-Op.equal t u v))):Sem Value):=by
 unfold E2 at he;split at he
 ·cases hx;cases hy;exact⟨rfl,rfl⟩
 ·cases hx<;>cases hy<;>exact⟨rfl,rfl⟩
 ·cases hx;cases hy;exact⟨rfl,rfl⟩
 ·cases hx;cases hy;exact⟨rfl,rfl⟩
 ·cases hx;cases hy;exact⟨rfl,rfl⟩
 ·cases hx<;>cases hy<;>exact⟨rfl,rfl⟩
 ·cases hx<;>cases hy<;>exact⟨rfl,rfl⟩
 ·cases hx;cases hy;exact⟨rfl,rfl⟩
 ·simp at he
theorem Iy(hE:E.Ok)(hR:cK ι rg a.tmps)(hH:dV ι h w){op:BinOp}{t yt:TypeId}{x y:Operand}(ho:o.op= .binOp op t x y yt)(aX:eF E rg h o=some (r,h')):
 jn ι h w r h' ((execOp a.eval o).run E.P w):=by
 simp only[eF,dK,dM,cx,fY,cy,ba,dN,cz,bG,cu,dO,bL,aT,bH,bN,bh,cA,bj,cB,bm,cC,bT,bp,bc,bM,dQ,cD,cF,cJ,dU,ho]at aX;split at aX
 ·rename_i p q hp hq;split at aX
  ·rename_i z hz;simp at aX;obtain⟨rfl,rfl⟩:=aX;have KU:=bV hR hp;have Ul:=bV hR hq;have sL:(execOp a.eval o).run E.P w=((eqGuard op t x y (a.eval x) (a.eval y)).run E.P w).andThen fun _ w'=>((Go.binOp op t (a.eval x) (a.eval y)).run E.P w').andThen fun v Zu=> .ok (.value v) Zu:=by
    simp only[execOp,ho,Sem.run_bind];cases(eqGuard op t x y (a.eval x) (a.eval y)).run E.P w<;>simp
   unfold AI at hz;split at hz
   ·rename_i k c k' c';obtain⟨v,hv,hr⟩:=sJ hz ι E.P w;have hpe:a.eval x= .int k c:=(by cases h1:a.eval x<;>rw[h1]at KU<;>cases KU;rfl);have hqe:a.eval y= .int k' c':=(by cases h1:a.eval y<;>rw[h1]at Ul<;>cases Ul;rfl);have hg:(eqGuard op t x y (.int k c) (.int k' c')).run E.P w= .ok () w:=by
     unfold eqGuard;cases op<;>simp
    exact .pure hH (y:=v) (by rw[sL,hpe,hqe,hg];simp[hv]) hr
   ·rename_i c c';have hpe:a.eval x= .string ⟨c.toArray⟩:=(by cases h1:a.eval x<;>rw[h1]at KU<;>cases KU;rfl);have hqe:a.eval y= .string ⟨c'.toArray⟩:=(by cases h1:a.eval y<;>rw[h1]at Ul<;>cases Ul;rfl);have hg:(eqGuard op t x y (.string ⟨c.toArray⟩) (.string ⟨c'.toArray⟩)).run E.P w= .ok () w:=by
     unfold eqGuard;cases op<;>simp
    have hb:∀op',Go.binOp op' t (.string ⟨c.toArray⟩) (.string ⟨c'.toArray⟩)=Op.stringOp op' ⟨c.toArray⟩ ⟨c'.toArray⟩:=fun op'=>by cases op'<;>rfl
    have afo:(⟨c.toArray⟩:ByteArray)++⟨c'.toArray⟩=⟨(c++c').toArray⟩:=by
     apply ByteArray.ext;simp
    rw[hpe,hqe,hg,hb]at sL;split at hz
    ·split at hz
     ·rename_i hlen;simp at hz;subst hz;refine .pure hH (y:= .string ⟨(c++c').toArray⟩) ?_ (.str _);have s1:({data:=c.toArray}:ByteArray).size=c.length:=(by simp[ByteArray.size]);have s2:({data:=c'.toArray}:ByteArray).size=c'.length:=(by simp[ByteArray.size]);have hm:IntKind.i64.max=9223372036854775807:=(by rfl);have hl:¬((((({data:=c.toArray}:ByteArray).size+({data:=c'.toArray}:ByteArray).size:Nat)):Int)>IntKind.i64.max):=by
       rw[s1,s2,hm];omega
      rw[sL];simp only[Result.andThen_ok,Op.stringOp,az hl,afo,Sem.run_pure]
     ·simp at hz
    all_goals first|(simp at hz;done)|skip
    all_goals
     simp at hz;subst hz;exact .pure hH (by rw[sL];simp[Op.stringOp]) (.bool _)
   ·split at hz
    ·rw[Option.map_eq_some_iff]at hz;obtain⟨b,hb,rfl⟩:=hz;have h1:=NK hE hH KU Ul hb;have h2:=BJ hE (op:= .eql) (.inl rfl) KU Ul hb w;exact .pure hH (by rw[sL,h2,(binOp_eql hE t KU Ul hb).1];simp[h1]) (.bool b)
    ·rw[Option.map_eq_some_iff]at hz;obtain⟨b,hb,rfl⟩:=hz;have h1:=NK hE hH KU Ul hb;have h2:=BJ hE (op:= .neq) (.inr rfl) KU Ul hb w;exact .pure hH (by rw[sL,h2,(binOp_eql hE t KU Ul hb).2];simp[h1]) (.bool (!b))
    ·simp at hz
  ·simp at aX
 ·simp at aX
end
section
variable [iY]
variable{E:Env}{ι:cS}{h h':ah}{w:World}{rg:T AV}{a:Act}{o:Oper}{r:dZ}
theorem bS.il{k:IntKind}{n:Int}{v:Value}(h:bS ι (.int k n) v):v= .int k n:=by cases h;rfl
theorem bS.nD{b:Bool}{v:Value}(h:bS ι (.bool b) v):v= .bool b:=by cases h;rfl
theorem bS.nO{s:List UInt8}{v:Value}(h:bS ι (.str s) v):v= .string ⟨s.toArray⟩:=by cases h;rfl
theorem MP(hR:cK ι rg a.tmps)(hH:dV ι h w){op:UnOp}{t:TypeId}{x:Operand}(ho:o.op= .unOp op t x)(aX:eF E rg h o=some (r,h')):
 jn ι h w r h' ((execOp a.eval o).run E.P w):=by
 simp only[eF,dK,dM,cx,fY,cy,ba,dN,cz,bG,cu,dO,bL,aT,bH,bN,bh,cA,bj,cB,bm,cC,bT,bp,bc,bM,dQ,cD,cF,cJ,dU,ho]at aX;split at aX
 ·rename_i p hp;split at aX
  ·rename_i z hz;simp at aX;obtain⟨rfl,rfl⟩:=aX;have KU:=bV hR hp;unfold unA at hz;split at hz
   ·obtain⟨v,hv,hr⟩:=sJ hz ι E.P w;exact .pure hH (y:=v) (by simp[execOp,ho,KU.il,hv]) hr
   ·obtain⟨v,hv,hr⟩:=sJ hz ι E.P w;exact .pure hH (y:=v) (by simp[execOp,ho,KU.nD,hv]) hr
   ·simp at hz
  ·simp at aX
 ·simp at aX
theorem uE(hE:E.Ok)(hR:cK ι rg a.tmps)(hH:dV ι h w){t:TypeId}{x:Operand}(ho:o.op= .makeInterface t x)(aX:eF E rg h o=some (r,h')):
 jn ι h w r h' ((execOp a.eval o).run E.P w):=by
 simp only[eF,dK,dM,cx,fY,cy,ba,dN,cz,bG,cu,dO,bL,aT,bH,bN,bh,cA,bj,cB,bm,cC,bT,bp,bc,bM,dQ,cD,cF,cJ,dU,ho]at aX;split at aX
 ·simp at aX
 ·rename_i d v hn hu hv;simp at aX;obtain⟨rfl,rfl⟩:=aX;have hc:E.P.concrete t=true:=by
   unfold Program.concrete;rw[hE.kQ t _ hu];cases d<;>simp_all
  exact .pure hH (y:= .iface t (a.eval x)) (by simp[execOp,ho,run_makeInterface w t _ hc]) (.iface t (bV hR hv))
 ·simp at aX
theorem Bt(hR:cK ι rg a.tmps)(hH:dV ι h w){fn:Fn}{first ko:Array Operand}(ho:o.op= .makeFunc fn first ko)(aX:eF E rg h o=some (r,h')):
 jn ι h w r h' ((execOp a.eval o).run E.P w):=by
 cases fn with
 |func f=>
  simp only[eF,dK,dM,cx,fY,cy,ba,dN,cz,bG,cu,dO,bL,aT,bH,bN,bh,cA,bj,cB,bm,cC,bT,bp,bc,bM,dQ,cD,cF,cJ,dU,ho]at aX;split at aX
  ·rename_i cs hf zn;simp at aX;obtain⟨rfl,rfl⟩:=aX;have KV:first= #[]:=by cases first;simp_all
   subst KV;have hr:=uF hR zn;refine .pure hH (y:= .func (.func f) #[] (ko.map a.eval)) (by simp[execOp,ho,Instr.makeFunc]) (.func f ?_ ?_)
   ·simpa using hr.1
   ·simpa using hr.2
  ·simp at aX
 |_=>simp[eF,dK,dM,cx,fY,cy,ba,dN,cz,bG,cu,dO,bL,aT,bH,bN,bh,cA,bj,cB,bm,cC,bT,bp,bc,bM,dQ,cD,cF,cJ,dU,ho]at aX
theorem KW(hH:dV ι h w){t:TypeId}{x:Option Operand}(ho:o.op= .makeMap t x)(aX:eF E rg h o=some (r,h')):
 ku ι h w r h' ((execOp a.eval o).run E.P w):=by
 cases x with
 |none=>
  simp only[eF,dK,dM,cx,fY,cy,ba,dN,cz,bG,cu,dO,bL,aT,bH,bN,bh,cA,bj,cB,bm,cC,bT,bp,bc,bM,dQ,cD,cF,cJ,dU,ho]at aX;simp at aX;obtain⟨rfl,rfl⟩:=aX;refine .val (y:= .map (some w.heap.size)) (w':=w.alloc (.map #[] 0)) (dS:=ι.add h.next ⟨w.heap.size,0,0,0,true⟩) (by simp[execOp,ho,Instr.makeMap]) (.map (L:=⟨w.heap.size,0,0,0,true⟩) (cS.add_same _ _ _)) ?_;exact hH.alloc rfl rfl rfl rfl _ _ _ rfl ⟨#[],0,heap_alloc_new w _,rfl,sp⟩
 |some x=>simp[eF,dK,dM,cx,fY,cy,ba,dN,cz,bG,cu,dO,bL,aT,bH,bN,bh,cA,bj,cB,bm,cC,bT,bp,bc,bM,dQ,cD,cF,cJ,dU,ho]at aX
theorem KY(hE:E.Ok)(hR:cK ι rg a.tmps)(hH:dV ι h w){s d:TypeId}{x:Operand}(ho:o.op= .convert s d x)(aX:eF E rg h o=some (r,h')):
 ku ι h w r h' ((execOp a.eval o).run E.P w):=by
 simp only[eF,dK,dM,cx,fY,cy,ba,dN,cz,bG,cu,dO,bL,aT,bH,bN,bh,cA,bj,cB,bm,cC,bT,bp,bc,bM,dQ,cD,cF,cJ,dU,ho]at aX;split at aX
 ·rename_i sd k q n hs hd hx;split at aX
  ·rename_i v hv;simp at aX;obtain⟨rfl,rfl⟩:=aX;obtain⟨y,hy,hr⟩:=sJ hv ι E.P w;refine .pure hH (y:=y) ?_ hr;have pJ:=(bV hR hx).il;simp[execOp,ho,pJ,convert,cG hE hs,cG hE hd,hy]
  ·simp at aX
 ·rename_i l hs hd hx;simp at aX;obtain⟨rfl,rfl⟩:=aX;have pJ:=(bV hR hx).nO;refine .pure hH (y:=a.eval x) ?_ (bV hR hx);simp[execOp,ho,pJ,convert,cG hE hs,cG hE hd]
 ·rename_i e l hs hd hx;split at aX
  ·rename_i he;split at aX
   ·simp at aX
   ·simp at aX;obtain⟨rfl,rfl⟩:=aX;have pJ:=(bV hR hx).nO;have ng:({data:=l.toArray}:ByteArray).size=l.length:=(by simp[ByteArray.size]);obtain⟨cap,jv,Qx⟩:∃cap,l.length<=cap/\(choose (.appendCap ({data:=l.toArray}:ByteArray).size 0 e)).run E.P w= .ok cap w.drew:=
     ⟨grownCap w ({data:=l.toArray}:ByteArray).size 0 e,by have:=grownCap_ge w ({data:=l.toArray}:ByteArray).size 0 e;omega,by simp[Question.forced,grownCap]⟩
    obtain⟨c,hc⟩:∃c:Array Value,c=(l.toArray.map fun b=>Value.int .u8 b.toNat)++Array.replicate (cap-l.length) (.int .u8 0):=⟨_,rfl⟩
    have zn:c.size=cap:=(by rw[hc];simp;omega);have CK:(w.drew.alloc (.cells c e)).heap[w.heap.size]?=some (.cells c e):=heap_alloc_new w.drew _;have XB:(w.drew.alloc (.cells c e)).shape? w.heap.size=some (e,c.size):=(by simp only[World.shape?,CK]);have mI:(execOp a.eval o).run E.P w= .ok (.value (.slice (some ⟨w.heap.size,0,none⟩) l.length cap)) ((w.drew.alloc (.cells c e)).freeze ⟨w.heap.size,c.size,none⟩ 1):=by
     have aey:({w.drew with heap:=w.drew.heap.push (.cells c e)}:World).shape? w.heap.size=some (e,c.size):=XB;have hm:(markStringish ⟨w.heap.size,0,none⟩).run E.P (w.drew.alloc (.cells c e))= .ok () ((w.drew.alloc (.cells c e)).freeze ⟨w.heap.size,c.size,none⟩ 1):=by
      simp only[markStringish,Sem.run_bind,run_shape,XB,Result.andThen_ok,run_freeze]
     have hn:(newRow e c).run E.P w.drew= .ok ⟨w.heap.size,0,none⟩ (w.drew.alloc (.cells c e)):=rfl;have uG:(Conv.stringToBytes e ⟨l.toArray⟩).run E.P w= .ok (.slice (some ⟨w.heap.size,0,none⟩) l.length cap) ((w.drew.alloc (.cells c e)).freeze ⟨w.heap.size,c.size,none⟩ 1):=by
      simp only[Conv.stringToBytes,Sem.run_bind,Qx,Result.andThen_ok];rw[ng,<-hc];simp only[hn,Result.andThen_ok,hm,Sem.run_pure]
     simp[execOp,ho,pJ,convert,cG hE hs,cG hE hd,cG hE he,uG]
    have yG:((w.drew.alloc (.cells c e)).freeze ⟨w.heap.size,c.size,none⟩ 1).heap[w.heap.size]?=some (.cells c e (c.size,c.size+1)):=by
     simp only[World.freeze];rw[az om];simp only[iI];rw[aW trivial,CK];rfl
    have hold:∀b,b<w.heap.size->((w.drew.alloc (.cells c e)).freeze ⟨w.heap.size,c.size,none⟩ 1).heap[b]?=w.heap[b]?:=by
     intro b hb;have:w.heap.size≠b:=om;simp[World.freeze,iI,this];exact heap_alloc_old w.drew _ b hb
    have hle:ι.le (ι.add h.next ⟨w.heap.size,0,c.size,1,false⟩):=fun i Li hi=>by
     rw[cS.cm];exact hi;have:=hH.lt i Li hi;omega
    refine .val mI (dS:=ι.add h.next ⟨w.heap.size,0,c.size,1,false⟩) (.slice (off:=0) (L:=⟨w.heap.size,0,c.size,1,false⟩) (cS.add_same _ _ _) jv sp) ?_;refine hH.grow (by simp only[World.freeze];rw[az om];simp only[Array.size_modify];exact Nat.le_of_lt (bP.1 CK).1) hold (by rfl) (by rfl) (by rfl) _ _ (ao _) (bP.1 yG).1 ⟨rfl,rfl,by simp[zn,jv],c,e,_,yG,sp,?_⟩;intro i x hx;simp at hx;obtain⟨b,hb,rfl⟩:=hx;have hi:i<l.length:=(aU.1 hb).1;refine⟨.int .u8 b.toNat,?_,.int _ _⟩;obtain⟨_,rfl⟩:=aU.1 hb;rw[hc];simp[hi,Array.getElem?_append]
  ·simp at aX
 ·simp at aX
theorem yH{v:AV}{u:Value}{y n:Nat}(P:Program)(hv:bS ι v u)(hb:CJ v y=some n)(m:Nat)(hm:y<=m)(code:BoundsCode)(w:World):
 (Instr.sliceBound u m code).run P w= .ok n w/\n<=y:=by
 unfold CJ at hb;split at hb
 ·rename_i k i;split at hb
  ·rename_i hc;simp at hb;subst hb;rw[hv.il];refine⟨?_,om⟩;have:0<=i/\i<=(m:Int):=⟨hc.1,om⟩
   simp[Instr.sliceBound,asIntOf,this]
  ·simp at hb
 ·simp at hb
theorem qH(hR:cK ι rg a.tmps)(P:Program){len cap:Nat}{lo hi:Option Operand}{l r:Nat}(hb:kh rg len len lo hi=some (l,r))(hc:len<=cap)(isSlice:Bool)(w:World):
 (Instr.sliceBounds isSlice len cap (lo.map a.eval) (hi.map a.eval) none).run P w= .ok (l,r,cap) w/\l<=r/\r<=len:=by
 unfold kh at hb;cases hi with
 |none=>
  simp only at hb;cases lo with
  |none=>
   simp at hb;obtain⟨rfl,rfl⟩:=hb;exact⟨by simp[Instr.sliceBounds],om,om⟩
  |some y=>
   simp only at hb;split at hb
   ·rename_i v hv;split at hb
    ·rename_i l' hl;simp at hb;obtain⟨rfl,rfl⟩:=hb;obtain⟨h2,h3⟩:=yH P (bV hR hv) hl len (ao _) .sliceB w;exact⟨by simp[Instr.sliceBounds,h2],h3,om⟩
    ·simp at hb
   ·simp at hb
 |some x=>
  simp only at hb;split at hb
  ·simp at hb
  ·rename_i r' hr;split at hr
   ·rename_i v hv;obtain⟨h1,zB⟩:=yH P (bV hR hv) hr cap hc (if isSlice then .sliceAcap else .sliceAlen) w;cases lo with
    |none=>
     simp at hb;obtain⟨rfl,rfl⟩:=hb;exact⟨by simp[Instr.sliceBounds,h1],om,om⟩
    |some y=>
     simp only at hb;split at hb
     ·rename_i v hv;split at hb
      ·rename_i l' hl;simp at hb;obtain⟨rfl,rfl⟩:=hb;obtain⟨h2,h3⟩:=yH P (bV hR hv) hl r' (ao _) .sliceB w;exact⟨by simp[Instr.sliceBounds,h1,h2],h3,om⟩
      ·simp at hb
     ·simp at hb
   ·simp at hr
end
section
variable [iY]
variable{E:Env}{ι:cS}{h h':ah}{w:World}{rg:T AV}{a:Act}{o:Oper}{r:dZ}
theorem Gc(hE:E.Ok)(hR:cK ι rg a.tmps)(hH:dV ι h w){t:TypeId}{x y:Operand}(ho:o.op= .makeSlice t x y)(aX:eF E rg h o=some (r,h')):
 ku ι h w r h' ((execOp a.eval o).run E.P w):=by
 simp only[eF,dK,dM,cx,fY,cy,ba,dN,cz,bG,cu,dO,bL,aT,bH,bN,bh,cA,bj,cB,bm,cC,bT,bp,bc,bM,dQ,cD,cF,cJ,dU,ho]at aX;split at aX
 ·rename_i e n n' hu hx hy;split at aX
  ·rename_i s b z hs hb hz;split at aX
   ·rename_i hc;obtain⟨rfl,h0,vK,wB⟩:=hc;simp at aX;obtain⟨rfl,rfl⟩:=aX;obtain⟨zv,Il,UN,_,_⟩:=oV hE hz w;obtain⟨i,hi,hib⟩:=hE.byt e b hb;obtain⟨i',Eb,UO⟩:=hE.siz e _ hs;rw[hi]at Eb;cases Eb;have CM:=jN ι UN;have KZ:=nP (len:=n.toNat) CM wB;obtain⟨OB,zo⟩:=oB KZ;have pJ:=(bV hR hx).il;have hy':=(bV hR hy).il;have Zo:n.toNat<=roomy:=bk (Nat.le_mul_of_pos_right _ om) vK;have hr:roomy=1073741824:=rfl;have hw:IntKind.i64.wrap n=n:=by
     have h1:n=(n.toNat:Int):=om;rw[IntKind.wrap_i64];omega
    have XC:(i.bytes:Int)*n<=1073741824:=by
     have h1:i.bytes*n.toNat<=(b+1)*n.toNat:=iV _ hib;rw[Nat.mul_comm (b+1)]at h1;have h2:i.bytes*n.toNat<=1073741824:=om;have h3:(n.toNat:Int)=n:=om;have h4:((i.bytes*n.toNat:Nat):Int)<=((1073741824:Nat):Int):=Int.ofNat_le.2 h2;rw[Int.natCast_mul,h3]at h4;exact h4
    have ng:((Array.range (n.toNat*(s+1))).map (fun i=>zv.cells[i%zv.cells.size]!)).size=n.toNat*(s+1):=sp;refine .val (y:= .slice (some ⟨w.heap.size,0,none⟩) n.toNat n.toNat) (w':=w.alloc (.cells ((Array.range (n.toNat*(s+1))).map (fun i=>zv.cells[i%zv.cells.size]!)) e))
     (dS:=ι.add h.next ⟨w.heap.size,0,_,s+1,true⟩) ?_ ?_ (uH hH rfl rfl rfl rfl true (s+1) e OB zo)
    ·have Kl:¬(n<0):=om;have zp:¬(281474976710656<(i.bytes:Int)*n):=om;simp only[execOp,ho,pJ,hy',Instr.makeSlice,Sem.run_bind,cG hE hu,Result.andThen_ok,asInt,asIntOf,Sem.run_pure,typeInfo,run_program,hi,hw];by_cases B5:n.toNat*(s+1)=0
     ·have hn:n.toNat=0:=by
       rcases Nat.mul_eq_zero.1 B5 with h|h<;>omega
      have e2:∀f:Nat->Value,Array.map f (Array.range 0)= #[]:=fun f=>by apply jf;simp[zk]
      simp[Kl,zp,sizeOf,typeInfo,hi,hn,newRow,e2]
     ·simp[Kl,zp,sizeOf,typeInfo,hi,UO,B5,Il,newRow]
    ·refine .slice (off:=0) (L:=⟨w.heap.size,0,_,s+1,true⟩) (cS.add_same _ _ _) (ao _) (fun _ _=>?_);simp
   ·simp at aX
  ·simp at aX
 ·simp at aX
theorem bS.rV{i off len:Nat}{v:Value}(h:bS ι (.slice (some (i,off)) len) v):
 (∃L cap,ι i=some L/\len<=cap/\(L.rw=true->0<L.es->L.base+off+cap*L.es=L.top)/\v= .slice (some ⟨L.b,L.base+off,none⟩) len cap)\/
 (∃L a,ι i=some L/\(L.rw=true->0<L.es->L.base+off=L.top)/\len=0/\v= .slice (some a) 0 0):=by
 cases h with
 |slice h hc ht=>exact .inl ⟨_,_,h,hc,ht,rfl⟩
 |qI h ht=>exact .inr ⟨_,_,h,ht,rfl,rfl⟩
theorem bS.qE{len:Nat}{v:Value}(h:bS ι (.slice none len) v):len=0/\v= .slice none 0 0:=by
 cases h;exact⟨rfl,rfl⟩
theorem Im(hE:E.Ok)(hR:cK ι rg a.tmps)(hH:dV ι h w){t:TypeId}{x:Operand}{lo hi mx:Option Operand}(ho:o.op= .slice t x lo hi mx)(aX:eF E rg h o=some (r,h')):
 jn ι h w r h' ((execOp a.eval o).run E.P w):=by
 cases mx with
 |some m=>simp[eF,dK,dM,cx,fY,cy,ba,dN,cz,bG,cu,dO,bL,aT,bH,bN,bh,cA,bj,cB,bm,cC,bT,bp,bc,bM,dQ,cD,cF,cJ,dU,ho]at aX
 |none=>
  simp only[eF,dK,dM,cx,fY,cy,ba,dN,cz,bG,cu,dO,bL,aT,bH,bN,bh,cA,bj,cB,bm,cC,bT,bp,bc,bM,dQ,cD,cF,cJ,dU,ho]at aX;split at aX
  ·rename_i s hu hx;split at aX
   ·rename_i l r' hb;simp at aX;obtain⟨rfl,rfl⟩:=aX;have pJ:=(bV hR hx).nO;have ng:({data:=s.toArray}:ByteArray).size=s.length:=(by simp[ByteArray.size]);obtain⟨h1,h2,h3⟩:=qH hR E.P hb (ao _) false w;refine .pure hH (y:= .string ⟨((s.take r').drop l).toArray⟩) ?_ (.str _);have eD:({data:=s.toArray}:ByteArray).extract l r'=⟨((s.take r').drop l).toArray⟩:=by
     apply ByteArray.ext;rw[ByteArray.data_extract];apply jf;simp[List.extract_eq_take_drop,List.drop_take]
    simp[execOp,ho,pJ,Instr.sliceAt,Instr.slice,cG hE hu,ng,h1,eD]
   ·simp at aX
  ·rename_i e p len hu hx;split at aX
   ·rename_i s l r' hs hb;split at aX
    ·rename_i i off;split at aX
     ·rename_i rw es cs Ge;split at aX
      ·rename_i CN;simp at aX;obtain⟨rfl,rfl⟩:=aX;rcases(bV hR hx).rV with⟨L,cap,hL,hc,ht,x9⟩|⟨L,ad,hL,ht,rfl,x9⟩
       ·obtain⟨h1,h2,h3⟩:=qH hR E.P hb hc true w;obtain⟨Io,wC,_,_⟩:=hH.cells hL Ge;refine .pure hH (y:= .slice (some (if cap=l then⟨L.b,L.base+off,none⟩else(⟨L.b,L.base+off,none⟩:Addr).add (l*(s+1)))) (r'-l) (cap-l)) ?_ ?_
        ·simp only[execOp,ho,x9,Instr.sliceAt,Sem.run_bind,cG hE hu,Result.andThen_ok,Option.map_none,Instr.slice,h1,eI hE hs,Sem.run_pure];split<;>simp_all
        ·by_cases zo:cap=l
         ·rw[aW zo];have e1:r'-l=0:=om;have e2:cap-l=0:=om;rw[e1,e2];refine .qI hL fun h1 h2=>?_;have OC:L.es=s+1:=by
           rw[Io]at h1;subst h1;rw[wC]at h2⊢;simp at CN;omega
          have:=ht h1 h2;rw[OC,zo]at this;omega
         ·rw[az zo,addr_add,aI];refine .slice hL om fun h1 h2=>?_;have OC:L.es=s+1:=by
           rw[Io]at h1;subst h1;rw[wC]at h2⊢;simp at CN;omega
          have:=ht h1 h2;rw[OC]at this⊢;have hm:cap*(s+1)=l*(s+1)+(cap-l)*(s+1):=(by rw[<-Nat.add_mul];congr 1;omega);omega
       ·obtain⟨h1,h2,h3⟩:=qH hR E.P hb (ao 0) true w;have e1:l=0:=om;have e2:r'=0:=om;subst e1;subst e2;refine .pure hH (y:= .slice (some ad) 0 0) ?_ (by simpa using bS.qI (a:=ad) hL ht);simp[execOp,ho,x9,Instr.sliceAt,cG hE hu,Instr.slice,h1,eI hE hs]
      ·simp at aX
     ·simp at aX
    ·simp at aX;obtain⟨rfl,rfl⟩:=aX;obtain⟨rfl,x9⟩:=(bV hR hx).qE;obtain⟨h1,h2,h3⟩:=qH hR E.P hb (ao 0) true w;have e1:l=0:=om;have e2:r'=0:=om;subst e1;subst e2;refine .pure hH (y:= .slice none 0 0) ?_ .uI;simp[execOp,ho,x9,Instr.sliceAt,cG hE hu,Instr.slice,h1,eI hE hs]
   ·simp at aX
  ·rename_i n e i off hu hx;split at aX
   ·rename_i s l r' rw es cs hs hb Ge;split at aX
    ·rename_i CN;simp at aX;obtain⟨rfl,rfl⟩:=aX;obtain⟨L,hL,x9⟩:=(bV hR hx).kR;obtain⟨Io,wC,_,_⟩:=hH.cells hL Ge;obtain⟨h1,h2,h3⟩:=qH hR E.P hb (ao n) false w;have tf:L.rw=true->0<L.es->False:=by
      rw[Io,wC];intro h1 h2;simp[h1]at CN;omega
     refine .pure hH (y:= .slice (some (if n=l then⟨L.b,L.base+off,none⟩else(⟨L.b,L.base+off,none⟩:Addr).add (l*(s+1)))) (r'-l) (n-l)) ?_ ?_
     ·simp only[execOp,ho,x9,Instr.sliceAt,Instr.sureAddr,Sem.run_bind,cG hE hu,Result.andThen_ok,Option.map_none,h1,eI hE hs,Sem.run_pure]
     ·by_cases zo:n=l
      ·rw[aW zo];have e1:r'-l=0:=om;have e2:n-l=0:=om;rw[e1,e2];exact .qI hL fun h1 h2=>(tf h1 h2).elim
      ·rw[az zo,addr_add,aI];exact .slice hL om fun h1 h2=>(tf h1 h2).elim
    ·simp at aX
   ·simp at aX
  ·simp at aX
theorem zC(hE:E.Ok)(hR:cK ι rg a.tmps)(hH:dV ι h w){t:TypeId}{x:Operand}{f:Nat}(ho:o.op= .fieldAddr t x f)(aX:eF E rg h o=some (r,h')):
 jn ι h w r h' ((execOp a.eval o).run E.P w):=by
 simp only[eF,dK,dM,cx,fY,cy,ba,dN,cz,bG,cu,dO,bL,aT,bH,bN,bh,cA,bj,cB,bm,cC,bT,bp,bc,bM,dQ,cD,cF,cJ,dU,ho]at aX;split at aX
 ·rename_i fs i off hu hx;split at aX
  ·rename_i fd hf;split at aX
   ·rename_i n hs;simp at aX;obtain⟨rfl,rfl⟩:=aX;obtain⟨L,hL,x9⟩:=(bV hR hx).kR;have hfp:(fieldPlace ⟨L.b,L.base+off,none⟩ fd).run E.P w= .ok ⟨L.b,L.base+(off+fd.offset),none⟩ w:=by
     simp[fieldPlace,eI hE hs,addr_add,aI]
    refine .pure hH (y:= .pointer (some ⟨L.b,L.base+(off+fd.offset),none⟩)) ?_ (.ptr hL);simp[execOp,ho,x9,Instr.fieldAt,cG hE hu,hf,Instr.sureAddr,hfp]
   ·simp at aX
  ·simp at aX
 ·simp at aX
theorem E3(hE:E.Ok){t:TypeId}{cs:List AV}{off:Nat}{v:AV}{c:Array Value}(hc:bF ι cs c.toList)(hp:Bs E t cs off=some v)(w:World):
 ∃y,(part t c off).run E.P w= .ok y w/\bS ι v y:=by
 unfold Bs at hp;split at hp
 ·rename_i n K9 hs;split at hp
  ·rename_i hlen;simp at hp;subst hp;refine⟨.agg (c.extract off (off+n)),by simp[part,rW hE K9,eI hE hs],.La ?_⟩;have:(c.extract off (off+n)).toList=(c.toList.drop off).take n:=by
    simp[List.extract_eq_take_drop]
   rw[this];exact(hc.drop off).take n
  ·simp at hp
 ·rename_i n K9 hs;obtain⟨y,hy,hr⟩:=hc.get hp;rw[Array.getElem?_toList]at hy;exact⟨y,by simp[part,rW hE K9,hy],hr⟩
 ·simp at hp
theorem Ip(hE:E.Ok)(hR:cK ι rg a.tmps)(hH:dV ι h w){t:TypeId}{x:Operand}{f:Nat}(ho:o.op= .field t x f)(aX:eF E rg h o=some (r,h')):
 jn ι h w r h' ((execOp a.eval o).run E.P w):=by
 simp only[eF,dK,dM,cx,fY,cy,ba,dN,cz,bG,cu,dO,bL,aT,bH,bN,bh,cA,bj,cB,bm,cC,bT,bp,bc,bM,dQ,cD,cF,cJ,dU,ho]at aX;split at aX
 ·rename_i fs cs hu hx;split at aX
  ·rename_i fd hf;split at aX
   ·rename_i v hv;simp at aX;obtain⟨rfl,rfl⟩:=aX;obtain⟨c,x9,hc⟩:=(bV hR hx).xK;obtain⟨y,hy,hr⟩:=E3 hE hc hv w;exact .pure hH (y:=y) (by simp[execOp,ho,x9,Instr.field,cG hE hu,hf,asAgg,hy]) hr
   ·simp at aX
  ·simp at aX
 ·simp at aX
theorem zD(hE:E.Ok)(hR:cK ι rg a.tmps)(hH:dV ι h w){t:TypeId}{x ix:Operand}(ho:o.op= .indexAddr t x ix)(aX:eF E rg h o=some (r,h')):
 jn ι h w r h' ((execOp a.eval o).run E.P w):=by
 simp only[eF,dK,dM,cx,fY,cy,ba,dN,cz,bG,cu,dO,bL,aT,bH,bN,bh,cA,bj,cB,bm,cC,bT,bp,bc,bM,dQ,cD,cF,cJ,dU,ho]at aX;split at aX
 ·rename_i e i off len k n hu hx hi;split at aX
  ·rename_i s hs;split at aX
   ·rename_i hc;simp at aX;obtain⟨rfl,rfl⟩:=aX;have UP:=(bV hR hi).il;rcases(bV hR hx).rV with⟨L,cap,hL,jv,ht,x9⟩|⟨L,ad,hL,ht,rfl,x9⟩
    ·refine .pure hH (y:= .pointer (some ⟨L.b,L.base+(off+n.toNat*s),none⟩)) ?_ (.ptr hL);simp[execOp,ho,x9,UP,Instr.indexAt,cG hE hu,asIntOf,hc,eI hE hs,addr_add,aI]
    ·omega
   ·simp at aX
  ·simp at aX
 ·rename_i len e i off k n hu hx hi;split at aX
  ·rename_i s hs;split at aX
   ·rename_i hc;simp at aX;obtain⟨rfl,rfl⟩:=aX;have UP:=(bV hR hi).il;obtain⟨L,hL,x9⟩:=(bV hR hx).kR;refine .pure hH (y:= .pointer (some ⟨L.b,L.base+(off+n.toNat*s),none⟩)) ?_ (.ptr hL);simp[execOp,ho,x9,UP,Instr.indexAt,Instr.sureAddr,cG hE hu,asIntOf,hc,eI hE hs,addr_add,aI]
   ·simp at aX
  ·simp at aX
 ·simp at aX
theorem Iq(hE:E.Ok)(hR:cK ι rg a.tmps)(hH:dV ι h w){t:TypeId}{x ix:Operand}(ho:o.op= .index t x ix)(aX:eF E rg h o=some (r,h')):
 jn ι h w r h' ((execOp a.eval o).run E.P w):=by
 simp only[eF,dK,dM,cx,fY,cy,ba,dN,cz,bG,cu,dO,bL,aT,bH,bN,bh,cA,bj,cB,bm,cC,bT,bp,bc,bM,dQ,cD,cF,cJ,dU,ho]at aX;split at aX
 ·rename_i s k n hu hx hi;split at aX
  ·rename_i hn;split at aX
   ·rename_i b hb;simp at aX;obtain⟨rfl,rfl⟩:=aX;have UP:=(bV hR hi).il;have x9:=(bV hR hx).nO;have Ep:(⟨s.toArray⟩:ByteArray)[n.toNat]?=some b:=by
     have cX:n.toNat<s.length:=(aU.1 hb).1;have h2:=(aU.1 hb).2;have ng:n.toNat<(⟨s.toArray⟩:ByteArray).size:=(by simpa[ByteArray.size]using cX);rw[getElem?_pos (⟨s.toArray⟩:ByteArray) n.toNat ng];simp[ByteArray.getElem_eq_getElem_data,h2]
    exact .pure hH (y:= .int .u8 b.toNat) (by simp[execOp,ho,x9,UP,Instr.index,cG hE hu,asIntOf,hn,Ep]) (.int _ _)
   ·simp at aX
  ·simp at aX
 ·rename_i len e cs k n hu hx hi;split at aX
  ·rename_i s hs;split at aX
   ·rename_i hc;split at aX
    ·rename_i v hv;simp at aX;obtain⟨rfl,rfl⟩:=aX;have UP:=(bV hR hi).il;obtain⟨c,x9,Gf⟩:=(bV hR hx).xK;obtain⟨y,hy,hr⟩:=E3 hE Gf hv w;exact .pure hH (y:=y) (by simp[execOp,ho,x9,UP,Instr.index,cG hE hu,asIntOf,hc,eI hE hs,hy]) hr
    ·simp at aX
   ·simp at aX
  ·simp at aX
 ·simp at aX
theorem CO(hR:cK ι rg a.tmps)(hH:dV ι h w){x:Operand}{i:Nat}(ho:o.op= .extract x i)(aX:eF E rg h o=some (r,h')):
 jn ι h w r h' ((execOp a.eval o).run E.P w):=by
 simp only[eF,dK,dM,cx,fY,cy,ba,dN,cz,bG,cu,dO,bL,aT,bH,bN,bh,cA,bj,cB,bm,cC,bT,bp,bc,bM,dQ,cD,cF,cJ,dU,ho]at aX;split at aX
 ·rename_i vs hx;split at aX
  ·rename_i v hv;simp at aX;obtain⟨rfl,rfl⟩:=aX;obtain⟨c,x9,hc⟩:=(bV hR hx).MQ;obtain⟨y,hy,hr⟩:=hc.get hv;rw[Array.getElem?_toList]at hy;exact .pure hH (y:=y) (by simp[execOp,ho,x9,Instr.extract,hy]) hr
  ·simp at aX
 ·simp at aX
end
section
variable [iY]
variable{E:Env}{ι:cS}{h h':ah}{w:World}{rg:T AV}{a:Act}{o:Oper}{r:dZ}
theorem Bu(hE:E.Ok){t:TypeId}{z:List AV}{ag:Bool}{v:AV}(hz:E.zer t=some z)(ha:E.isAgg t=some ag)(hv:(if ag then some (.agg z)else z[0]?)=some v)(ι:cS)(w:World):
 ∃y,(zeroValue t).run E.P w= .ok y w/\bS ι v y:=by
 obtain⟨zv,Il,wB,h1,h2⟩:=oV hE hz w;refine⟨zv,Il,?_⟩;have gz:=jN ι wB;cases ag with
 |true=>
  obtain⟨cs,rfl⟩:=h1 ha;simp at hv;subst hv;exact .La gz
 |false=>
  have hs:=h2 ha;simp at hv;have hc:zv.cells.toList=[zv]:=by cases zv<;>simp_all[Value.cells,Value.oneCell']
  rw[hc]at gz;obtain⟨y,hy,hr⟩:=gz.get hv;simp at hy;subst hy;exact hr
theorem zE(hE:E.Ok){t:TypeId}{k:AV}{v:Value}(hk:bS ι k v)(ho:zA E t k=true)(b:Bool)(n:Nat)(w:World):(Instr.checkKey b (n+1) t v).run E.P w= .ok () w:=by
 unfold zA at ho;split at ho<;>first|(simp at ho;done)|skip
 all_goals
  rename_i hu;rw[Instr.checkKey];cases hk<;>simp[cG hE hu]
theorem Qy(hE:E.Ok)(hH:dV ι h w){t e:TypeId}{n:Nat}(hu:E.P.underlying t=some (.pointer e))(hs:E.siz e=some (n+1)){p q:Nat×Nat}{Lp Lq:Loc}{b:Bool}(hp:ι p.1=some Lp)(hq:ι q.1=some Lq)
 (he:vI h p q=some b) (d:Nat):(Op.equalIn (d+1) t (.pointer (some ⟨Lp.b,Lp.base+p.2,none⟩)) (.pointer (some ⟨Lq.b,Lq.base+q.2,none⟩))).run E.P w= .ok b w:=by
 rw[Op.equalIn];have qU:=eI hE hs w;simp[run_underlying hu,qU,E4 E.P hH hp hq he]
theorem tQ(hE:E.Ok)(hH:dV ι h w){t:TypeId}{k:AV}{kv:Value}(hk:bS ι k kv)(Ir:zA E t k=true):
 ∀{iG:List (AV×AV)}{es:List MapEntry}{res:Option (Nat×AV)},iG.length=es.length->(∀(i:Nat)(x:AV×AV)(y:MapEntry),iG[i]?=some x->es[i]?=some y->bS ι x.1 y.key/\bS ι x.2 y.val)->
  fq h k iG 0=some res->∃pM,(Instr.findKey t kv es).run E.P w= .ok pM w/\
   (
    match res,pM with
    |none,none=>True
    |some (i,v),some (j,u)=>i=j/\bS ι v u/\i<es.length
    |_,_=>False):=by
 intro iG es res hl gz hf;have Zp:(∃d,E.P.underlying t=some d/\((∃q n,k= .int q n/\d= .int q)\/(∃s,k= .str s/\d= .string)\/(∃b,k= .bool b/\d= .bool)))\/
  (∃e p n,E.P.underlying t=some (.pointer e)/\k= .ptr (some p)/\E.siz e=some (n+1)):=by
  unfold zA at Ir;split at Ir<;>first|(simp at Ir;done)|skip
  ·rename_i q k' n hu;simp at Ir;subst Ir;exact .inl ⟨_,hE.kQ t _ hu,.inl ⟨_,_,rfl,rfl⟩⟩
  ·rename_i s hu;exact .inl ⟨_,hE.kQ t _ hu,.inr (.inl ⟨_,rfl,rfl⟩)⟩
  ·rename_i s hu;exact .inl ⟨_,hE.kQ t _ hu,.inr (.inr ⟨_,rfl,rfl⟩)⟩
  ·rename_i e p hu;split at Ir
   ·rename_i n hs;exact .inr ⟨e,p,n,hE.kQ t _ hu,rfl,hs⟩
   ·simp at Ir
 rcases Zp with⟨d,hu,hd⟩|⟨e,p,n,hu,rfl,hs⟩
 ·have gen:∀(iG:List (AV×AV))(es:List MapEntry)(res:Option (Nat×AV))(n:Nat),iG.length=es.length->
   (∀(i:Nat)(x:AV×AV)(y:MapEntry),iG[i]?=some x->es[i]?=some y->bS ι x.1 y.key/\bS ι x.2 y.val)->fq h k iG n=some res->
   ∃pM,Instr.findNow d kv es n=some pM/\(match res,pM with
    |none,none=>True
    |some (i,v),some (j,u)=>i=j/\bS ι v u/\n<=i/\i<n+es.length
    |_,_=>False):=by
   intro iG;induction iG with
   |nil=>
    intro es res n hl gz hf;simp[fq]at hf;subst hf;cases es with
    |nil=>exact⟨none,rfl,trivial⟩
    |cons _ _=>simp at hl
   |cons x iG ih=>
    intro es res n hl gz hf;cases es with
    |nil=>simp at hl
    |cons y es=>
     obtain⟨Bv,MR⟩:=gz 0 x y rfl rfl;have Is:∀b,oA h k x.1=some b->Instr.sameNow d kv y.key=some b:=by
      intro b hb;rcases hd with⟨q,n,rfl,rfl⟩|⟨s,rfl,rfl⟩|⟨c,rfl,rfl⟩
      ·rw[hk.il];cases Qa:x.1<;>rw[Qa]at hb Bv<;>simp[oA]at hb;obtain⟨rfl,rfl⟩:=hb;rw[Bv.il];simp[Instr.sameNow]
      ·rw[hk.nO];cases Qa:x.1<;>rw[Qa]at hb Bv<;>simp[oA]at hb;subst hb;rw[Bv.nO];simp only[Instr.sameNow,beq_toListBytes,rK]
      ·rw[hk.nD];cases Qa:x.1<;>rw[Qa]at hb Bv<;>simp[oA]at hb;subst hb;rw[Bv.nD];simp[Instr.sameNow]
     simp only[fq]at hf;split at hf
     ·rename_i hb;simp at hf;subst hf;exact⟨some (n,y.val),by simp[Instr.findNow,Is _ hb],rfl,MR,ao _,sp⟩
     ·rename_i hb;obtain⟨pM,h1,h2⟩:=ih es res (n+1) (by simpa using hl) (fun i a b ha hb=>gz (i+1) a b (by simpa using ha) (by simpa using hb)) hf;refine⟨pM,by simp[Instr.findNow,Is _ hb,h1],?_⟩;cases res<;>cases pM<;>simp_all;omega
     ·simp at hf
  obtain⟨pM,h1,h2⟩:=gen iG es res 0 hl gz hf;refine⟨pM,by simp[Instr.findKey,run_underlying hu,h1],?_⟩;cases res<;>cases pM<;>simp at h2⊢;exact⟨h2.1,h2.2.1,h2.2.2⟩
 ·obtain⟨Lp,hLp,rfl⟩:=hk.kR;have gen:∀(iG:List (AV×AV))(es:List MapEntry)(res:Option (Nat×AV))(m:Nat),iG.length=es.length->
   (∀(i:Nat)(x:AV×AV)(y:MapEntry),iG[i]?=some x->es[i]?=some y->bS ι x.1 y.key/\bS ι x.2 y.val)->fq h (.ptr (some p)) iG m=some res->
   ∃pM,(Instr.findAsking t (.pointer (some ⟨Lp.b,Lp.base+p.2,none⟩)) es m).run E.P w= .ok pM w/\(match res,pM with
    |none,none=>True
    |some (i,v),some (j,u)=>i=j/\bS ι v u/\m<=i/\i<m+es.length
    |_,_=>False):=by
   intro iG;induction iG with
   |nil=>
    intro es res m hl gz hf;simp[fq]at hf;subst hf;cases es with
    |nil=>exact⟨none,rfl,trivial⟩
    |cons _ _=>simp at hl
   |cons x iG ih=>
    intro es res m hl gz hf;cases es with
    |nil=>simp at hl
    |cons y es=>
     obtain⟨Bv,MR⟩:=gz 0 x y rfl rfl;have Is:∀b,oA h (.ptr (some p)) x.1=some b->(Op.equal t (.pointer (some ⟨Lp.b,Lp.base+p.2,none⟩)) y.key).run E.P w= .ok b w:=by
      intro b hb;cases Qa:x.1<;>rw[Qa]at hb Bv<;>try (simp[oA]at hb;done)
      rename_i q;cases q with
      |none=>simp[oA]at hb
      |some q=>
       simp only[oA]at hb;obtain⟨Lq,hLq,hye⟩:=Bv.kR;rw[hye];exact Qy hE hH hu hs hLp hLq hb 9999
     simp only[fq]at hf;split at hf
     ·rename_i hb;simp at hf;subst hf;exact⟨some (m,y.val),by simp[Instr.findAsking,Is _ hb],rfl,MR,ao _,sp⟩
     ·rename_i hb;obtain⟨pM,h1,h2⟩:=ih es res (m+1) (by simpa using hl) (fun i a b ha hb=>gz (i+1) a b (by simpa using ha) (by simpa using hb)) hf;refine⟨pM,by simp[Instr.findAsking,Is _ hb,h1],?_⟩;cases res<;>cases pM<;>simp_all;omega
     ·simp at hf
  cases es with
  |nil=>
   cases iG with
   |nil=>
    simp[fq]at hf;subst hf;exact⟨none,by simp[Instr.findKey,run_underlying hu,Instr.findNow],trivial⟩
   |cons _ _=>simp at hl
  |cons y es=>
   obtain⟨pM,h1,h2⟩:=gen iG (y::es) res 0 hl gz hf;have aez:Instr.findNow (.pointer e) (.pointer (some ⟨Lp.b,Lp.base+p.2,none⟩)) (y::es) 0=none:=by
    simp[Instr.findNow,Instr.sameNow]
   refine⟨pM,by simp[Instr.findKey,run_underlying hu,aez,h1],?_⟩;cases res<;>cases pM<;>simp at h2⊢;exact⟨h2.1,h2.2.1,h2.2.2⟩
theorem Iu(hH:dV ι h w){m:Option Nat}{v:Value}{iG:List (AV×AV)}(hx:bS ι (.map m) v)
 (zF:h.iG m=some iG):
 ∃es:Array MapEntry,(v= .map none/\es= #[]\/∃L ck,v= .map (some L)/\w.heap[L]?=some (.map es ck))/\iG.length=es.toList.length/\
  (∀(i:Nat)(x:AV×AV)(y:MapEntry),iG[i]?=some x->es.toList[i]?=some y->bS ι x.1 y.key/\bS ι x.2 y.val):=by
 cases hx with
 |CP=>
  simp[ah.iG]at zF;subst zF;exact⟨#[],.inl ⟨rfl,rfl⟩,rfl,sp⟩
 |@map id L hL=>
  simp only[ah.iG]at zF;split at zF
  ·rename_i Kk Km;simp at zF;subst zF;obtain⟨o1,h1,h2⟩:=hH.obj id L hL;rw[Km]at h1;cases h1;obtain⟨es,ck,hb,ng,gz⟩:=h2;exact⟨es,.inr ⟨L.b,ck,rfl,hb⟩,by simpa using ng.symm,fun i x y hx hy=>gz i x y hx (by simpa using hy)⟩
  ·simp at zF
theorem sK{P:Program}{L:Nat}{es:Array MapEntry}{ck:Nat}(hb:w.heap[L]?=some (.map es ck)):(getObj L).run P w= .ok (.map es ck) w:=by
 simp[getObj,Sem.run,hb]
theorem Bw(hE:E.Ok){t kt vt:TypeId}{ok:Bool}{x k:Value}{es:Array MapEntry}(hu:E.kQ t=some (.map kt vt))
 (hx:x= .map none/\es= #[]\/∃L ck,x= .map (some L)/\w.heap[L]?=some (.map es ck)) (Gg:(Instr.checkKey es.isEmpty 10000 kt k).run E.P w= .ok () w)
 {res:Option (Nat×Value)} (hf:(Instr.findKey kt k es.toList).run E.P w= .ok res w) {v:Value} {b:Bool}
 (hv:(∃i,res=some (i,v)/\b=true)\/(res=none/\(zeroValue vt).run E.P w= .ok v w/\b=false)):
 (Instr.lookup t x k ok).run E.P w= .ok (if ok then .tuple #[v,.bool b]else v) w:=by
 rcases hx with⟨rfl,rfl⟩|⟨L,ck,rfl,hb⟩
 ·rcases hv with⟨i,rfl,rfl⟩|⟨rfl,hz,rfl⟩
  ·simp only[Instr.lookup,Sem.run_bind,cG hE hu,Result.andThen_ok,Sem.run_pure,Gg,hf]
  ·simp only[Instr.lookup,Sem.run_bind,cG hE hu,Result.andThen_ok,Sem.run_pure,Gg,hf,hz]
 ·rcases hv with⟨i,rfl,rfl⟩|⟨rfl,hz,rfl⟩
  ·simp only[Instr.lookup,Sem.run_bind,cG hE hu,Result.andThen_ok,Sem.run_pure,sK hb,Gg,hf]
  ·simp only[Instr.lookup,Sem.run_bind,cG hE hu,Result.andThen_ok,Sem.run_pure,sK hb,Gg,hf,hz]
theorem bS.Gh{v:AV}{u:Value}(hv:bS ι v u)(b:Bool):bS ι (.iX [v,.bool b]) (.tuple #[u,.bool b]):=
 .Er (bF.cons hv (bF.cons (.bool b) (bF.nil _)))
theorem E5(hE:E.Ok)(hR:cK ι rg a.tmps)(hH:dV ι h w){t:TypeId}{x ix:Operand}{ok:Bool}(ho:o.op= .lookup t x ix ok)(aX:eF E rg h o=some (r,h')):
 jn ι h w r h' ((execOp a.eval o).run E.P w):=by
 simp only[eF,dK,dM,cx,fY,cy,ba,dN,cz,bG,cu,dO,bL,aT,bH,bN,bh,cA,bj,cB,bm,cC,bT,bp,bc,bM,dQ,cD,cF,cJ,dU,ho]at aX;split at aX
 ·rename_i kt vt m k hu hx hk;split at aX
  ·rename_i Ir;have Ud:=bV hR hk;have Ue:=bV hR hx;split at aX
   ·rename_i iG zF;obtain⟨es,wC,hl,gz⟩:=Iu hH Ue zF;have Gg:=zE hE Ud Ir es.isEmpty 9999 w;have sL:(execOp a.eval o).run E.P w=((Instr.lookup t (a.eval x) (a.eval ix) ok).run E.P w).andThen fun v w'=> .ok (.value v) w':=by
     simp only[execOp,ho,Sem.run_bind];rfl
    split at aX
    ·rename_i i v hf;simp at aX;obtain⟨rfl,rfl⟩:=aX;obtain⟨pM,KV,jA⟩:=tQ hE hH Ud Ir hl gz hf;cases pM with
     |none=>exact jA.elim
     |some iu=>
      obtain⟨j,u⟩:=iu;obtain⟨rfl,hvu,_⟩:=jA;have mI:=Bw hE (ok:=ok) hu wC Gg KV (v:=u) (b:=true) (.inl ⟨_,rfl,rfl⟩);rw[mI]at sL;cases ok
      ·exact .pure hH sL hvu
      ·exact .pure hH sL (hvu.Gh true)
    ·rename_i z ag hf hz K9;split at aX
     ·rename_i v hv;simp at aX;obtain⟨rfl,rfl⟩:=aX;obtain⟨pM,KV,jA⟩:=tQ hE hH Ud Ir hl gz hf;cases pM with
      |some iu=>exact jA.elim
      |none=>
       obtain⟨y,hy,hvy⟩:=Bu hE hz K9 hv ι w;have mI:=Bw hE (ok:=ok) hu wC Gg KV (v:=y) (b:=false) (.inr ⟨rfl,hy,rfl⟩);rw[mI]at sL;cases ok
       ·exact .pure hH sL hvy
       ·exact .pure hH sL (hvy.Gh false)
     ·simp at aX
    ·simp at aX
   ·simp at aX
  ·simp at aX
 ·simp at aX
theorem CQ(h:ah)(k:AV):∀(iG:List (AV×AV))(n i:Nat)(v:AV),fq h k iG n=some (some (i,v))->∃x,n<=i/\iG[i-n]?=some x/\oA h k x.1=some true
 |[],n,i,v,hf=>by simp[fq]at hf
 |x::iG,n,i,v,hf=>by
  simp only[fq]at hf;split at hf
  ·rename_i hb;simp at hf;obtain⟨rfl,_⟩:=hf;exact⟨x,ao _,sp,hb⟩
  ·obtain⟨y,h1,h2,h3⟩:=CQ h k iG (n+1) i v hf;refine⟨y,om,?_,h3⟩;rw[show i-n=(i-(n+1))+1 from om,List.getElem?_cons_succ];exact h2
  ·simp at hf
theorem zG{k x:AV}{u v:Value}(hk:bS ι k u)(hx:bS ι x v)(he:oA h k x=some true)(n:Nat):Instr.sameBits n v u=true:=by
 unfold oA at he;split at he
 ·rw[hk.il,hx.il];split at he
  ·rename_i e;subst e;simp at he;subst he;simp[Instr.sameBits]
  ·simp at he
 ·simp at he;subst he;rw[hk.nO,hx.nO];simp only[Instr.sameBits,beq_toListBytes,rK];simp
 ·simp at he;subst he;rw[hk.nD,hx.nD];simp[Instr.sameBits]
 ·rename_i p q;unfold vI at he;split at he
  ·split at he
   ·rename_i e;simp at he;obtain⟨L,hL,rfl⟩:=hk.kR;obtain⟨L',MS,rfl⟩:=hx.kR;rw[e]at hL;rw[hL]at MS;cases MS;simp[Instr.sameBits,he]
   ·split at he<;>simp at he
  ·simp at he
 ·simp at he
theorem Gi(hE:E.Ok)(hR:cK ι rg a.tmps)(hH:dV ι h w){t:TypeId}{x ix y:Operand}(ho:o.op= .mapUpdate t x ix y)(aX:eF E rg h o=some (r,h')):
 ku ι h w r h' ((execOp a.eval o).run E.P w):=by
 simp only[eF,dK,dM,cx,fY,cy,ba,dN,cz,bG,cu,dO,bL,aT,bH,bN,bh,cA,bj,cB,bm,cC,bT,bp,bc,bM,dQ,cD,cF,cJ,dU,ho]at aX;split at aX
 ·rename_i kt vt id k v hu hx hk hv;split at aX
  ·rename_i Ir;have Ud:=bV hR hk;have Uf:=bV hR hv;split at aX
   ·rename_i iG Km;have Ue:=bV hR hx;cases x9:a.eval x<;>rw[x9]at Ue<;>cases Ue;rename_i L hL;obtain⟨o1,h1,h2⟩:=hH.obj id L hL;rw[Km]at h1;cases h1;obtain⟨es,ck,hb,ng,gz⟩:=h2;have cX:L.b<w.heap.size:=(bP.1 hb).1;have Gg:=zE hE Ud Ir false 9999 w;have hl:iG.length=es.toList.length:=(by simpa using ng.symm);have XD:∀(i:Nat)(x:AV×AV)(y:MapEntry),iG[i]?=some x->es.toList[i]?=some y->bS ι x.1 y.key/\bS ι x.2 y.val:=fun i x y hx hy=>gz i x y hx (by simpa using hy);have UQ:∀(o':Obj),(setObj L.b o').run E.P w= .ok () {w with heap:=w.heap.setIfInBounds L.b o'}:=fun o'=>by simp[setObj,Sem.run,hb]
    have wH:∀(MT:List (AV×AV))(Kk:Array MapEntry)(ck':Nat),Kk.size=MT.length->(∀(i:Nat)(x:AV×AV)(y:MapEntry),MT[i]?=some x->Kk[i]?=some y->bS ι x.1 y.key/\bS ι x.2 y.val)->
     Ext ι h w ι (h.set id (.map MT)) {w with heap:=w.heap.setIfInBounds L.b (.map Kk ck')}:=fun MT Kk ck' h1 h2=>
     hH.OD hL Km rfl ⟨Kk,ck',by simp[cX],h1,h2⟩ sp (fun b jX=>by simp[Array.getElem?_setIfInBounds,jX.symm]) rfl rfl rfl
    split at aX
    ·rename_i i v' hf;simp at aX;obtain⟨rfl,rfl⟩:=aX;obtain⟨pM,KV,jA⟩:=tQ hE hH Ud Ir hl XD hf;cases pM with
     |none=>exact jA.elim
     |some iu=>
      obtain⟨j,u⟩:=iu;obtain⟨rfl,hvu,Iv⟩:=jA;obtain⟨x0,_,UR,aeA⟩:=CQ h k iG 0 i v' hf;simp only[Nat.sub_zero]at UR;have Zq:i<es.size:=(by simpa using Iv);have US:=(gz i x0 es[i] UR (by simp[Zq])).1;have abS:(Instr.keyThatStays (((es[i]?).map (·.key)).getD (a.eval ix)) (a.eval ix)).run E.P w= .ok (a.eval ix) w:=by
       have hsb:=zG Ud US aeA 10000;simp[Instr.keyThatStays,Zq,hsb]
      have mI:(execOp a.eval o).run E.P w= .ok .skip {w with heap:=w.heap.setIfInBounds L.b (.map (es.modify i fun e=>{e with key:=a.eval ix,val:=a.eval y}) ck)}:=by
       simp only[execOp,ho,Sem.run_bind,x9,Instr.mapUpdate,cG hE hu,Result.andThen_ok,sK hb,Gg,KV,abS,UQ,Sem.run_pure]
      rw[mI];refine⟨ι,rfl,wH _ _ _ (by simp[ng]) ?_⟩;intro j x y' hx hy;rw[List.getElem?_modify]at hx;rw[iI]at hy;by_cases e:i=j
      ·subst e;rw[UR]at hx;simp[Zq]at hx hy;subst hx;subst hy;exact⟨Ud,Uf⟩
      ·simp[e]at hx hy;exact gz j x y' hx hy
    ·rename_i hf;simp at aX;obtain⟨rfl,rfl⟩:=aX;obtain⟨pM,KV,jA⟩:=tQ hE hH Ud Ir hl XD hf;cases pM with
     |some iu=>exact jA.elim
     |none=>
      have mI:(execOp a.eval o).run E.P w= .ok .skip {w with heap:=w.heap.setIfInBounds L.b (.map (es.push {key:=a.eval ix,val:=a.eval y,born:=ck}) (ck+1))}:=by
       simp only[execOp,ho,Sem.run_bind,x9,Instr.mapUpdate,cG hE hu,Result.andThen_ok,sK hb,Gg,KV,UQ,Sem.run_pure]
      rw[mI];refine⟨ι,rfl,wH _ _ _ (by simp[ng]) ?_⟩;intro i x y hx hy;rw[fR]at hx;split at hx
      ·rename_i hi;rw[Array.getElem?_push,az om]at hy;exact gz i x y hx hy
      ·rename_i hi;have UT:i=iG.length:=by
        have:=(aU.1 hx).1;simp at this;omega
       subst UT;simp at hx;subst hx;rw[<-ng,Array.getElem?_push,aW rfl]at hy;simp at hy;subst hy;exact⟨Ud,Uf⟩
    ·simp at aX
   ·simp at aX
  ·simp at aX
 ·simp at aX
end
section
variable [iY]
variable{E:Env}{ι:cS}{h h':ah}{w:World}{rg:T AV}{a:Act}{o:Oper}{r:dZ}
theorem dV.move{w':World}(hH:dV ι h w){i:Nat}{L L':Loc}{o o':ej}(hi:ι i=some L)(ho:h.get i=some o)(Bx:o.owned=true)(hb:L'.b=L.b)(hg:o'.gone=false)
 (hO:wJ (ι.add h.next L') o' L' w') (ng:w'.heap.size=w.heap.size) (yI:∀b,b≠L.b->w'.heap[b]?=w.heap[b]?) (Es:w'.os=w.os) (ht:w'.tape=w.tape) (tz:w'.output=w.output):
 Ext ι h w (ι.add h.next L') ((h.set i .dead).alloc o').2 w':=by
 have tA:i<h.next:=hH.lt i L hi;have hle:ι.le (ι.add h.next L'):=fun k Lk hk=>by
  rw[cS.cm];exact hk;have:=hH.lt k Lk hk;omega
 have Ep:∀k,((h.set i .dead).alloc o').2.get k=if k=h.next then some o' else if k=i then some .dead else h.get k:=fun k=>by
  rw[ah.dz,ah.aM];simp only[ah.qJ];by_cases h1:k=h.next
  ·simp[h1]
  ·by_cases h2:k=i<;>simp[h1,h2]
 refine⟨⟨?_,?_,?_,?_,fun k Lk hk=>by
  by_cases e:k=h.next
  ·subst e;rw[cS.add_same]at hk;cases hk;rw[hb,ng];exact hH.MU i L hi
  ·rw[cS.cm _ _ e]at hk;rw[ng];exact hH.MU k Lk hk,⟨by rw[ng];exact hH.base.size,fun b ub=>(yI b (by have:=hH.base.own i L o hi ho Bx;omega)).trans (hH.base.old b ub),Es.trans hH.base.os,fun k Lk ok hk gJ Qz=>by
  by_cases e:k=h.next
  ·subst e;rw[cS.add_same]at hk;cases hk;rw[hb];exact hH.base.own i L o hi ho Bx
  ·rw[cS.cm _ _ e]at hk;rw[Ep,az e]at gJ;by_cases e2:k=i
   ·rw[aW e2]at gJ;cases gJ;simp[ej.owned]at Qz
   ·rw[az e2]at gJ;exact hH.base.own k Lk ok hk gJ Qz⟩⟩,?_,?_,sp,om,?_,Es,ht,tz,fun k Lk hk=>by
  by_cases e:k=h.next
  ·subst e;rw[cS.add_same]at hk;cases hk;exact .inr (.inr ⟨i,L,o,hi,ho,Bx,hb.symm⟩)
  ·rw[cS.cm _ _ e]at hk;exact .inl hk⟩
 ·intro k Lk hk;by_cases e:k=h.next
  ·subst e;rw[cS.add_same]at hk;cases hk;exact⟨o',by simp[Ep],hO⟩
  ·rw[cS.cm _ _ e]at hk;by_cases e2:k=i
   ·subst e2;exact⟨.dead,by simp[Ep,e],True.intro⟩
   ·obtain⟨ok,h1,h2⟩:=hH.obj k Lk hk;refine⟨ok,by simp[Ep,e,e2,h1],?_⟩;by_cases hd:ok.gone=true
    ·cases ok<;>simp[ej.gone]at hd;exact True.intro
    ·exact(h2.mono hle).block (yI _ fun eb=>hH.MV i k L Lk o ok (fun e'=>e2 e'.symm) hi hk ho h1 Bx (by simpa using hd) eb.symm)
 ·intro k j Lk Lj ok oj Gj hk hj gJ AJ UU Kn;rw[Ep]at gJ AJ;by_cases e:k=h.next
  ·subst e;rw[cS.add_same]at hk;cases hk;have e':j≠h.next:=fun e=>Gj e.symm;rw[cS.cm _ _ e']at hj;rw[az e']at AJ;by_cases e2:j=i
   ·rw[aW e2]at AJ;cases AJ;simp[ej.gone]at Kn
   ·rw[az e2]at AJ;rw[hb];exact hH.MV i j L Lj o oj (fun e'=>e2 e'.symm) hi hj ho AJ Bx Kn
  ·rw[cS.cm _ _ e]at hk;rw[az e]at gJ;by_cases e2:k=i
   ·rw[aW e2]at gJ;cases gJ;simp[ej.owned]at UU
   ·rw[az e2]at gJ;by_cases e':j=h.next
    ·subst e';rw[cS.add_same]at hj;cases hj;rw[hb];exact fun eb=>hH.MV i k L Lk o ok (fun e'=>e2 e'.symm) hi hk ho gJ Bx (by cases ok<;>simp_all[ej.owned,ej.gone]) eb.symm
    ·rw[cS.cm _ _ e']at hj;rw[az e']at AJ;by_cases e3:j=i
     ·rw[aW e3]at AJ;cases AJ;simp[ej.gone]at Kn
     ·rw[az e3]at AJ;exact hH.MV k j Lk Lj ok oj Gj hk hj gJ AJ UU Kn
 ·intro k Lk hk;by_cases e:k=h.next
  ·subst e;simp
  ·rw[cS.cm _ _ e]at hk;have:=hH.lt k Lk hk;simp;omega
 ·intro k hk;simp at hk;rw[Ep,az om,az om];exact hH.fresh k om
 ·intro k hk;rw[cS.cm];omega
 ·intro k hk hn;have:k≠i:=fun e=>by subst e;rw[hi]at hn;cases hn
  rw[Ep,az om,az this]
 ·intro b hbs hn;have HQ:b≠L.b:=fun e=>hn ⟨i,L,o,hi,ho,Bx,e.symm⟩;refine⟨yI b HQ,?_⟩
  rintro⟨k,Lk,ok,hk,gJ,Qz,XE⟩
  rw[Ep]at gJ;by_cases e:k=h.next
  ·subst e;rw[cS.add_same]at hk;cases hk;exact HQ (by rw[<-XE,hb])
  ·rw[cS.cm _ _ e]at hk;rw[az e]at gJ;by_cases e2:k=i
   ·rw[aW e2]at gJ;cases gJ;simp[ej.owned]at Qz
   ·rw[az e2]at gJ;exact hn ⟨k,Lk,ok,hk,gJ,Qz,XE⟩
theorem UW(hH:dV ι h w){es n:Nat}{x:AV}{v:Value}{new:List AV}(hx:bS ι x v)(hs:OA h es x=some (n,new)){tx:TypeId}{P:Program}
 (hk:(∃e',P.underlying tx=some (.slice e'))\/P.underlying tx=some .string):
 ∃ys:List Value,bF ι new ys/\new.length=n*es/\Src P es tx v n ys w:=by
 unfold OA at hs;split at hs
 ·simp at hs;obtain⟨rfl,rfl⟩:=hs;cases hx;exact⟨[],bF.nil _,sp,hk,fun _=>rfl,rfl,rfl,sp,sp⟩
 ·rename_i i off n';split at hs
  ·rename_i cs hl;split at hs
   ·rename_i xL;simp at hs;obtain⟨rfl,rfl⟩:=hs;have one:∀ys:List Value,bF ι cs ys->∀u∈ys,u.oneCell'=true:=fun ys hv u hu=>by
     obtain⟨j,hj,rfl⟩:=kg hu;have Qb:j<cs.length:=(by rw[hv.1];exact hj);rw[(hv.2 j cs[j] ys[j] (by simp[Qb]) (by simp[hj])).scalar];exact(dw.1 xL) _ (bK Qb)
    rcases hx.rV with⟨L,cap,hL,jv,ht,rfl⟩|⟨L,ad,hL,ht,rfl,rfl⟩
    ·obtain⟨hn,ys,gz,zH⟩:=jO hH hL hl;have XF:ys.length=n'*es:=(by rw[<-gz.1];exact hn);exact⟨ys,gz,hn,hk,fun _=>rfl,run_firstCells_some w es n' _ n' cap ys XF zH,
      run_firstCells_some w.drew es n' _ n' cap ys XF (by simpa using zH),XF,one ys gz⟩
    ·have:cs=[]:=by
      obtain⟨hn,_⟩:=jO hH hL hl;simp at hn;exact hn
     subst this;refine⟨[],bF.nil _,sp,hk,fun _=>rfl,?_,?_,sp,sp⟩
     ·exact run_firstCells_some w es 0 _ 0 0 [] sp sp
     ·exact run_firstCells_some w.drew es 0 _ 0 0 [] sp sp
   ·simp at hs
  ·simp at hs
 ·rename_i l;split at hs
  ·rename_i wC;subst wC;simp at hs;obtain⟨rfl,rfl⟩:=hs;rw[hx.nO];have ng:(⟨l.toArray⟩:ByteArray).size=l.length:=(by simp[ByteArray.size]);have CR:∀w1:World,(Builtin.firstCells 1 l.length (.string ⟨l.toArray⟩)).run P w1= .ok (byteCells ⟨l.toArray⟩).toArray w1:=fun w1=>by
    have:=firstCells_string (P:=P) ⟨l.toArray⟩ w1;rw[ng]at this;exact this
   refine⟨byteCells ⟨l.toArray⟩,⟨by simp[byteCells],fun i x y hx hy=>?_⟩,sp,hk,fun _=>by simp[Builtin.lenOf,ByteArray.size],CR _,CR _,?_,?_⟩
   ·simp[byteCells]at hx hy;obtain⟨b,hb,rfl⟩:=hx;obtain⟨b',ub,rfl⟩:=hy;rw[hb]at ub;cases ub;exact .int _ _
   ·simp[byteCells]
   ·intro u hu;obtain⟨_,_,rfl⟩:=ow.1 hu;rfl
  ·simp at hs
 ·simp at hs
theorem Gk(hE:E.Ok)(hH:dV ι h w){t tx ty:TypeId}{s x z:AV}{u v:Value}(hs:bS ι s u)(hx:bS ι x v)
 (hk:(∃e',E.P.underlying tx=some (.slice e'))\/E.P.underlying tx=some .string) (ha:aO E h t s x=some (z,h')):
 ∃y w' dS,(Builtin.append_ #[t,tx] ty #[u,v]).run E.P w= .ok y w'/\bS dS z y/\Ext ι h w dS h' w':=by
 unfold aO at ha;split at ha
 ·rename_i e hu;have HR:=hE.kQ t _ hu;split at ha
  ·rename_i es uB zl ng MW hz;obtain⟨i,hi,UO⟩:=hE.siz e _ ng;obtain⟨i2,UT,hib⟩:=hE.byt e _ MW;obtain⟨i3,zv,hi3,UN,_⟩:=hE.zer e _ hz;rw[hi]at UT hi3;cases UT;cases hi3;have aeB:roomy=1073741824:=rfl;split at ha
   ·simp at ha
   rename_i wB;simp at wB;obtain⟨Zr,_⟩:= ‹_/\(_/\_)›;have hzs:zv.cells.size=es+1:=by
    have:=Gm Zr;simp at this;omega
   split at ha
   ·simp at ha
   ·rename_i n new B6;obtain⟨news,CS,By,hS⟩:=UW hH hx B6 hk;have UX:i.size=es+1:=UO;rw[<-UX]at hS;have fits:∀Gn old:Nat,old<Gn->¬(roomy<Gn*(uB+1))->((Gn:Nat):Int)<=9223372036854775807/\Builtin.nextslicecap Gn old*i.bytes<=281474976710656:=fun Gn old h1 h2=>by
     have h3:Gn<=Gn*(uB+1):=Nat.le_mul_of_pos_right _ om;have h4:Gn*i.bytes<=Gn*(uB+1):=Nat.mul_le_mul_left _ hib;exact⟨om,growslice_fits h1 om⟩
    have QA:∀(h0:ah)(base:Option Addr)(len cap:Nat)(olds:List AV)(ya:List Value),Ext ι h w ι h0 w->h0.next=h.next->bF ι olds ya->
     (Builtin.firstCells i.size len (.slice base len cap)).run E.P w.drew= .ok ya.toArray w.drew->cap<len+n->¬(roomy<(len+n)*(uB+1))->olds.length=len*(es+1)->
     ∃y w' dS,(Builtin.append_ #[t,tx] ty #[.slice base len cap,v]).run E.P w= .ok y w'/\bS dS (.slice (some (h.next,0)) (len+n)) y/\
      Ext ι h w dS (h0.alloc (.cells true (es+1) (olds++new))).2 w':=fun h0 base len cap olds ya eD wa gz hold jv vK wK=>by
     obtain⟨h63,Lb⟩:=fits _ cap jv vK;have mI:=run_append_grow_src (P:=E.P) w t tx ty e i zv HR hi UN base len cap ya hold v n news hS jv h63 Lb;have XG:=grownCap_ge w (len+n) cap e;have uJ:=gz.append CS;have zo:((ya++news).toArray++Builtin.zeroCells zv.cells (grownCap w (len+n) cap e-(len+n))).size=grownCap w (len+n) cap e*(es+1):=by
      have h1:=uJ.1;simp[Builtin.zeroCells,hzs]at h1⊢;rw[<-h1,wK,By,<-Nat.add_mul,<-Nat.add_mul];congr 1;omega
     refine⟨_,_,ι.add h0.next _,mI,?_,eD.trans (uH (w0:=w.drew) eD.rel rfl rfl rfl rfl true (es+1) e ?_ ?_)⟩
     ·rw[<-wa];refine .slice (off:=0) (cS.add_same _ _ _) XG fun _ _=>?_;simp only[zo];omega
     ·intro j y hy;obtain⟨q,hq,hr⟩:=uJ.get hy;refine⟨q,?_,hr⟩;have hj:j<(ya++news).length:=(aU.1 hq).1;rw[zm (by simpa using hj)];simpa using hq
     ·have h1:=uJ.1;rw[zo];simp[wK,By,<-Nat.add_mul];exact iV _ XG
    split at ha
    ·
      obtain⟨-,rfl⟩:=hs.qE;split at ha
      ·simp at ha
      rename_i vK;split at ha
      ·rename_i hn;subst hn;simp at ha;obtain⟨rfl,rfl⟩:=ha;have:news=[]:=cw (by rw[<-CS.1,By];simp);subst this;exact⟨_,_,_,run_append_nothing w t tx ty e i HR hi none 0 0 om v hS,.uI,Ext.refl hH⟩
      ·rename_i hn;simp at ha;obtain⟨rfl,rfl⟩:=ha;have:=QA h none 0 0 [] [] (Ext.refl hH) rfl (bF.nil _) (run_firstCells_none w.drew _ _ _ _) om (by simpa using vK) sp;simpa using this
    ·rename_i k off len;split at ha
     ·simp at ha
     rename_i vK;split at ha
     ·rename_i Kk cs ho;split at ha
      ·simp at ha
      rename_i OC;simp at OC;subst OC;have Ug:∃L base cap,ι k=some L/\u= .slice (some base) len cap/\len<=cap/\L.base+off+cap*(es+1)=L.top/\L.es=es+1/\L.rw=true/\
       (0<cap->base=⟨L.b,L.base+off,none⟩):=by
       rcases hs.rV with⟨L,cap,hL,jv,ht,rfl⟩|⟨L,ad,hL,ht,rfl,rfl⟩
       ·obtain⟨Io,wC,_⟩:=hH.cells hL ho;have:=ht Io om;exact⟨L,_,cap,hL,rfl,jv,by rw[wC]at this;exact this,wC,Io,fun _=>rfl⟩
       ·obtain⟨Io,wC,_⟩:=hH.cells hL ho;have:=ht Io om;exact⟨L,ad,0,hL,rfl,om,by simpa using this,wC,Io,fun h=>om⟩
      obtain⟨L,base,cap,hL,rfl,jv,QB,aeC,ah1,zI⟩:=Ug;obtain⟨_,_,Lb,c,ce,fz,hb,hfz,zn⟩:=hH.cells hL ho;obtain⟨rfl,hct⟩:=hfz rfl;split at ha
      ·rename_i hn;subst hn;simp at ha;obtain⟨rfl,rfl⟩:=ha;have:news=[]:=cw (by rw[<-CS.1,By];simp);subst this;exact⟨_,_,_,run_append_nothing w t tx ty e i HR hi (some base) len cap jv v hS,hs,Ext.refl hH⟩
      rename_i hn;have XH:news.length=n*(es+1):=(by rw[<-CS.1,By]);have MX:∀w',len+n<=cap->(storeCells ⟨L.b,L.base+(off+len*(es+1)),none⟩ news).run E.P w= .ok () w'->(Builtin.append_ #[t,tx] ty #[.slice (some base) len cap,v]).run E.P w=
       .ok (.slice (some ⟨L.b,L.base+off,none⟩) (len+n) cap) w':=fun w' uX fI=>by
       rw[zI om];have tA:∀j,j<news.length->L.base+off+len*i.size+j<c.size:=fun j hj=>by
        rw[<-hct,<-QB,UX];have h1:(len+n)*(es+1)<=cap*(es+1):=iV _ uX;rw[Nat.add_mul]at h1;omega
       have Kl:∀j,j<news.length->(w.cell? ⟨L.b,L.base+off+len*i.size+j,none⟩).isSome=true:=fun j hj=>by
        simp[World.cell?,hb,tA j hj]
       have zp:∀j,j<news.length->w.frozen? ⟨L.b,L.base+off+len*i.size+j,none⟩=false:=fun j hj=>by
        simp[World.frozen?,hb]
       have h1:=run_append_room_src w t tx ty e i HR hi L.b (L.base+off) len cap v n news hS uX Kl zp;have h2:=run_storeCells_cells (P:=E.P) L.b (L.base+off+len*i.size) news 0 w (by simpa using Kl) (by simpa using zp) hS.one;rw[UX]at h1 h2;simp only[qR,aI]at h1 h2 fI;rw[h2]at fI;cases fI;rw[<-h1]
      split at ha
      ·
        rename_i tA;have uX:len+n<=cap:=by
         have h1:(len+n)*(es+1)<=cap*(es+1):=om;exact Nat.le_of_mul_le_mul_right h1 om
        split at ha
        ·rename_i h2 fI;simp at ha;obtain⟨rfl,rfl⟩:=ha;obtain⟨w',mI,eD⟩:=mJ hH hL fI CS E.P;exact⟨_,w',ι,MX w' uX mI,.slice hL uX fun _ _=>by rw[aeC];exact QB,eD⟩
        ·simp at ha
      ·split at ha
       ·rename_i ah2 hlen;simp at ha;obtain⟨rfl,rfl⟩:=ha;have Ec:k<h.next:=hH.lt k L hL;have holds:∃ya:List Value,bF ι ((cs.drop off).take (len*(es+1))) ya/\ya.length=len*(es+1)/\
         ∀j y,ya[j]?=some y->c[L.base+off+j]?=some y:=by
         have ah3:∀j,j<cs.length->L.base+j<c.size:=fun j hj=>by omega
         refine⟨(c.toList.drop (L.base+off)).take (len*(es+1)),⟨?_,fun j x y hx hy=>?_⟩,?_,fun j y hy=>?_⟩
         ·simp;omega
         ·rw[gO]at hx hy;split at hx
          ·rw[gQ]at hx;rename_i hj;rw[aW hj,gQ]at hy;obtain⟨q,hq,hr⟩:=zn _ x hx;rw[<-Array.getElem?_toList,<-Nat.add_assoc,hy]at hq;cases hq;exact hr
          ·simp at hx
         ·simp;omega
         ·rw[gO]at hy;split at hy
          ·rw[gQ]at hy;simpa using hy
          ·simp at hy
        obtain⟨ya,gz,wK,QC⟩:=holds;by_cases uX:len+n<=cap
        ·
          have hbound:L.base+(off+len*(es+1))+0+news.length<=c.size:=by
           rw[<-hct,<-QB,XH];have h1:(len+n)*(es+1)<=cap*(es+1):=iV _ uX;rw[Nat.add_mul]at h1;omega
          have fI:=run_storeCells_at E.P L.b (L.base+(off+len*(es+1))) ce news 0 c w hb hbound hS.one;simp only[qR]at fI hbound;refine⟨_,_,ι.add h.next ⟨L.b,L.base+off,L.top,es+1,true⟩,MX _ uX fI,?_,?_⟩
          ·exact .slice (off:=0) (cS.add_same _ _ _) uX fun _ _=>by simpa using QB
          ·refine hH.move hL ho rfl rfl rfl ?_ (by simp[World.setRow]) (fun b jX=>?_) rfl rfl rfl
           ·have hle:ι.le (ι.add h.next ⟨L.b,L.base+off,L.top,es+1,true⟩):=fun i Li hi=>by
             rw[cS.cm];exact hi;have:=hH.lt i Li hi;omega
            refine⟨rfl,rfl,?_,_,ce,(0,0),setRow_heap w L.b c _ ce _ hb,fun _=>⟨rfl,?_⟩,fun j x hx=>?_⟩
            ·have h1:=gz.1;have h2:=CS.1;simp only[bO,h1,h2,wK,XH];omega
            ·simp;omega
            ·rw[fR,gz.1]at hx;simp only[List.getElem?_toArray];rw[cj,fR];have QD:(List.take (L.base+(off+len*(es+1))) c.toList).length=L.base+(off+len*(es+1)):=(by simp;omega);rw[QD];split at hx
             ·rename_i hj;rw[wK]at hj;obtain⟨y,hy,hr⟩:=gz.get hx;rw[aW om,gO,aW om];have:=QC j y hy;exact⟨y,by simpa using this,hr.mono hle⟩
             ·rename_i hj;rw[wK]at hx hj;obtain⟨y,hy,hr⟩:=CS.get hx;have Qc:=(aU.1 hy).1;rw[az om,fR,aW om];exact⟨y,by rw[<-hy];congr 1;omega,hr.mono hle⟩
           ·simp only[World.setRow,iI];rw[az (fun e=>jX e.symm)]
        ·
          have abT:Ext ι h w ι (h.set k .dead) w:=hH.OD hL ho rfl True.intro rfl (fun _ _=>rfl) rfl rfl rfl;have Zs:(Builtin.firstCells i.size len (.slice (some base) len cap)).run E.P w.drew= .ok ya.toArray w.drew:=by
           rw[UX];refine run_firstCells_some w.drew (es+1) len base len cap ya wK fun j y hy=>?_;have hj:=(aU.1 hy).1;have:0<cap:=by
            rcases Nat.eq_zero_or_pos len with h0|h0
            ·rw[h0]at wK;simp at wK;simp[wK]at hy
            ·omega
           rw[zI this,addr_add];have h1:=QC j y hy;have ub:w.drew.heap[L.b]?=some (Obj.cells c ce):=hb;simp only[World.cell?,ub,h1];simp
          exact QA (h.set k .dead) (some base) len cap _ ya abT rfl gz Zs om vK (by rw[gz.1,wK])
       ·simp at ha
     ·simp at ha
    ·simp at ha
  ·simp at ha
 ·simp at ha
end
end Go.Am
