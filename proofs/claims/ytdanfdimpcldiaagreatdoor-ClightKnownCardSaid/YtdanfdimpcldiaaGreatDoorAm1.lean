/-
  Defines the values, the heap and one operation of an abstract machine; proves that its equality test decides equality. Each theorem states its own conditions; there are no others.
-/
import Derived.RecoverIn
import Derived.RangeFuncIn
import Derived.OrdersIn
set_option linter.unusedSimpArgs false
set_option linter.unusedVariables false
namespace Go.Am

/-! ### A finite map by the bits of its keys -/
inductive T (α : Type) where
  | nil
  | node (v : Option α) (l r : T α)

noncomputable section
namespace T
variable {α : Type}
def get (t : T α) : Nat → Option α :=
  T.rec (motive := fun _ => Nat → Option α) (fun _ => none)
    (fun v _ _ gl gr n => Nat.rec (motive := fun _ => Option α) v (fun m _ => Bool.rec (motive := fun _ => Nat → Option α) gr gl (Nat.beq (Nat.mod m 2) 0) (Nat.div m 2)) n) t
def mk (a : α) : Nat → Nat → T α
  | 0, _ => nil
  | f + 1, n => match n with
    | 0 => node (some a) nil nil
    | m + 1 => bif Nat.beq (m % 2) 0 then node none (mk a f (m / 2)) nil else node none nil (mk a f (m / 2))
def set (a : α) (t : T α) : Nat → T α :=
  T.rec (motive := fun _ => Nat → T α) (fun n => mk a (n + 1) n)
    (fun v l r sl sr n => Nat.rec (motive := fun _ => T α) (node (some a) l r) (fun m _ => Bool.rec (motive := fun _ => T α) (node v l (sr (Nat.div m 2))) (node v (sl (Nat.div m 2)) r) (Nat.beq (Nat.mod m 2) 0)) n) t
def del : T α → Nat → T α
  | nil, _ => nil
  | node v l r, n => match n with
    | 0 => node none l r
    | m + 1 => bif Nat.beq (m % 2) 0 then node v (del l (m / 2)) r else node v l (del r (m / 2))
end T

/-! ### Values, objects, heaps -/
inductive AV where
  | bool (b : Bool)
  | int (k : IntKind) (n : Int)
  | str (s : List UInt8)
  | ptr (a : Option (Nat × Nat))
  | slice (a : Option (Nat × Nat)) (len : Nat)
  | map (r : Option Nat)
  | func (f : FuncId) (caps : List AV)
  | yld (l : Nat)
  | nilFunc
  | iface (t : TypeId) (v : AV)
  | nilIface
  | agg (cs : List AV)
  | tup (vs : List AV)
  deriving Inhabited

def AV.scalar : AV → Bool
  | .agg _ | .tup _ => false
  | _ => true

def AV.cells : AV → List AV
  | .agg cs => cs
  | v => [v]

def ptrBeq : Option (Nat × Nat) → Option (Nat × Nat) → Bool
  | none, none => true
  | some a, some b => Nat.beq a.1 b.1 && Nat.beq a.2 b.2
  | _, _ => false
def optBeq : Option Nat → Option Nat → Bool
  | none, none => true
  | some a, some b => Nat.beq a b
  | _, _ => false
mutual
def AV.beq : AV → AV → Bool
  | .bool a, .bool b => a == b
  | .int k a, .int k' b => k == k' && a == b
  | .str a, .str b => a == b
  | .ptr a, .ptr b => ptrBeq a b
  | .slice a n, .slice b m => ptrBeq a b && Nat.beq n m
  | .map a, .map b => optBeq a b
  | .func f cs, .func g ds => Nat.beq f g && AV.beqs cs ds
  | .yld a, .yld b => Nat.beq a b
  | .nilFunc, .nilFunc => true
  | .iface t v, .iface u w => Nat.beq t u && AV.beq v w
  | .nilIface, .nilIface => true
  | .agg cs, .agg ds => AV.beqs cs ds
  | .tup cs, .tup ds => AV.beqs cs ds
  | _, _ => false
def AV.beqs : List AV → List AV → Bool
  | [], [] => true
  | a :: r, b :: s => AV.beq a b && AV.beqs r s
  | _, _ => false
end
theorem ptrBeq_iff (a b : Option (Nat × Nat)) : ptrBeq a b = true ↔ a = b := by
  rcases a with _ | ⟨a1, a2⟩ <;> rcases b with _ | ⟨b1, b2⟩ <;> simp [ptrBeq]
theorem optBeq_iff (a b : Option Nat) : optBeq a b = true ↔ a = b := by
  cases a <;> cases b <;> simp [optBeq]
mutual
theorem AV.beq_iff : ∀ (a b : AV), AV.beq a b = true ↔ a = b
  | .bool a, b => by cases b <;> simp [AV.beq]
  | .int k a, b => by cases b <;> simp [AV.beq]
  | .str a, b => by cases b <;> simp [AV.beq]
  | .ptr a, b => by cases b <;> simp [AV.beq, ptrBeq_iff]
  | .slice a n, b => by cases b <;> simp [AV.beq, ptrBeq_iff]
  | .map a, b => by cases b <;> simp [AV.beq, optBeq_iff]
  | .func f cs, b => by cases b <;> simp [AV.beq, AV.beqs_iff cs]
  | .yld a, b => by cases b <;> simp [AV.beq]
  | .nilFunc, b => by cases b <;> simp [AV.beq]
  | .iface t v, b => by cases b <;> simp [AV.beq, AV.beq_iff v]
  | .nilIface, b => by cases b <;> simp [AV.beq]
  | .agg cs, b => by cases b <;> simp [AV.beq, AV.beqs_iff cs]
  | .tup cs, b => by cases b <;> simp [AV.beq, AV.beqs_iff cs]
theorem AV.beqs_iff : ∀ (a b : List AV), AV.beqs a b = true ↔ a = b
  | [], b => by cases b <;> simp [AV.beqs]
  | x :: r, b => by cases b <;> simp [AV.beqs, AV.beq_iff x, AV.beqs_iff r]
end
inductive AObj where
  | cells (rw : Bool) (es : Nat) (cs : List AV)
  | map (ents : List (AV × AV))
  | loop (state : LoopState) (pending : Option Code) (n : Nat) (rg : T AV) (params : Array Tmp) (assign body : Code)
  | siter (s : List UInt8) (pos : Nat)
  | miter (m : Nat)
  | dblk
  | dead

structure AHeap where
  next : Nat
  ob : T AObj

def AHeap.get (h : AHeap) (i : Nat) : Option AObj := h.ob.get i
def AHeap.set (h : AHeap) (i : Nat) (o : AObj) : AHeap := { h with ob := h.ob.set o i }
def AHeap.alloc (h : AHeap) (o : AObj) : Nat × AHeap := (h.next, { next := h.next + 1, ob := h.ob.set o h.next })

def AHeap.loadCells (h : AHeap) (i off n : Nat) : Option (List AV) :=
  match h.get i with
  | some (.cells _ _ cs) => if off + n ≤ cs.length then some ((cs.drop off).take n) else none
  | _ => none
def AHeap.load1 (h : AHeap) (i off : Nat) : Option AV :=
  match h.get i with
  | some (.cells _ _ cs) => cs[off]?
  | _ => none
def AHeap.storeCells (h : AHeap) (i off : Nat) (vs : List AV) : Option AHeap :=
  match h.get i with
  | some (.cells true es cs) =>
    if off + vs.length ≤ cs.length ∧ vs.all AV.scalar then some (h.set i (.cells true es (cs.take off ++ vs ++ cs.drop (off + vs.length)))) else none
  | _ => none

inductive Out where
  | ret (v : AV)
  | pan (v : AV)

/-! ### What is known of the program -/
structure Env where
  P : Program
  fn : FuncId → Option Func
  und : TypeId → Option TypeDesc
  siz : TypeId → Option Nat
  byt : TypeId → Option Nat
  zer : TypeId → Option (List AV)
  flat : TypeId → Option (List (Nat × Nat))
  ext : FuncId → Option (List AV → Option AV)
  prim : FuncId → Option (List AV → AHeap → Option (Out × AHeap))

def Env.isAgg (E : Env) (t : TypeId) : Option Bool :=
  match E.und t with
  | some (.struct _) | some (.array _ _) => some true
  | some _ => some false
  | none => none

/-! ### Operands and pure operations -/
def toAV0 : Value → Option AV
  | .bool b => some (.bool b)
  | .int k n => some (.int k n)
  | .string s => some (.str s.data.toList)
  | .pointer none => some (.ptr none)
  | .slice none 0 0 => some (.slice none 0)
  | .map none => some (.map none)
  | .nilFunc => some .nilFunc
  | .nilIface => some .nilIface
  | _ => none
def toAVs : List Value → Option (List AV)
  | [] => some []
  | v :: r => match toAV0 v, toAVs r with
    | some a, some b => some (a :: b)
    | _, _ => none
def toAV : Value → Option AV
  | .agg cs => (toAVs cs.toList).map .agg
  | .iface t v => (toAV0 v).map (.iface t)
  | v => toAV0 v

def evA (rg : T AV) : Operand → Option AV
  | .tmp t => rg.get t
  | .const v => toAV v
  | .global _ => none
  | .func f => some (.func f [])
def evAs (rg : T AV) : List Operand → Option (List AV)
  | [] => some []
  | x :: r => match evA rg x, evAs rg r with
    | some a, some b => some (a :: b)
    | _, _ => none

def putA (rg : T AV) (d : Option Tmp) (v : AV) : T AV :=
  match d with
  | some d => rg.set v d
  | none => rg

def pureAV (s : Sem Value) : Option AV :=
  match s with
  | .pure v => toAV0 v
  | _ => none

/-- Scalars of a kind (0 bool, 1 string, else integers) held against each other. -/
def eqKind (k : Nat) (x y : AV) : Option Bool :=
  match k, x, y with
  | 0, .bool a, .bool b => some (a == b)
  | 1, .str a, .str b => some (a == b)
  | 2, .int k a, .int k' b => if k = k' then some (a == b) else none
  | _, _, _ => none
def eqFlat (xs ys : List AV) : List (Nat × Nat) → Option Bool
  | [] => some true
  | (o, k) :: r => match xs[o]?, ys[o]? with
    | some x, some y => match eqKind k x y with
      | some true => eqFlat xs ys r
      | some false => some false
      | none => none
    | _, _ => none

/-- Are two addresses of live cells one? -/
def eqPtr (h : AHeap) (p q : Nat × Nat) : Option Bool :=
  match h.get p.1, h.get q.1 with
  | some (.cells r _ _), some (.cells r' _ _) => if p.1 = q.1 then some (p.2 == q.2) else if r && r' then some false else none
  | _, _ => none

def isConstO : Operand → Bool
  | .const _ => true
  | _ => false

/-- '==' at a type. -/
def eqA (E : Env) (h : AHeap) (t : TypeId) (c : Bool) (x y : AV) : Option Bool :=
  match x, y with
  | .bool a, .bool b => match E.und t with | some .bool => some (a == b) | _ => none
  | .ptr a, .ptr b => match E.und t with
    | some (.pointer e) => match a, b with
      | none, none => some true
      | none, some _ => some false
      | some _, none => some false
      | some p, some q => match E.siz e with
        | some (_ + 1) => eqPtr h p q
        | _ => none
    | _ => none
  | .nilIface, .nilIface => match E.und t with | some (.interface _) => if c then some true else none | _ => none
  | .nilIface, .iface _ _ => match E.und t with | some (.interface _) => some false | _ => none
  | .iface _ _, .nilIface => match E.und t with | some (.interface _) => some false | _ => none
  | .slice a _, .slice none _ => match E.und t with | some (.slice _) => some a.isNone | _ => none
  | .map a, .map none => match E.und t with | some (.map _ _) => some a.isNone | _ => none
  | .agg xs, .agg ys => match E.flat t with
    | some offs => eqFlat xs ys offs
    | none => none
  | _, _ => none

def binA (E : Env) (h : AHeap) (op : BinOp) (t : TypeId) (c : Bool) (x y : AV) : Option AV :=
  match x, y with
  | .int k a, .int k' b => pureAV (Go.binOp op t (.int k a) (.int k' b))
  | .str a, .str b => match op with
    | .add => if a.length + b.length ≤ 4611686018427387904 then some (.str (a ++ b)) else none
    | .eql => some (.bool (a == b))
    | .neq => some (.bool (!(a == b)))
    | .lss => some (.bool (Op.bytesLess a b))
    | .leq => some (.bool (Op.bytesLess a b || a == b))
    | .gtr => some (.bool (!(Op.bytesLess a b || a == b)))
    | .geq => some (.bool (!Op.bytesLess a b))
    | _ => none
  | x, y => match op with
    | .eql => (eqA E h t c x y).map .bool
    | .neq => (eqA E h t c x y).map fun b => .bool (!b)
    | _ => none

def unA (op : UnOp) (x : AV) : Option AV :=
  match x with
  | .int k n => pureAV (Op.unary op (.int k n))
  | .bool b => pureAV (Op.unary op (.bool b))
  | _ => none

/-- Parts laid into cells. -/
def fillA (place : Nat → Option (Nat × Nat)) (cells : List AV) : List (Nat × AV) → Option (List AV)
  | [] => some cells
  | (i, v) :: rest => match place i with
    | none => none
    | some (off, size) =>
      if v.cells.length = size ∧ off + size ≤ cells.length ∧ v.cells.all AV.scalar then
        fillA place (cells.take off ++ v.cells ++ cells.drop (off + size)) rest
      else none

def evParts (rg : T AV) : List (Nat × Operand) → Option (List (Nat × AV))
  | [] => some []
  | (i, x) :: r => match evA rg x, evParts rg r with
    | some a, some b => some ((i, a) :: b)
    | _, _ => none

def placesA (E : Env) : List Field → Option (List (Nat × Nat))
  | [] => some []
  | f :: r => match E.siz f.type, placesA E r with
    | some s, some l => some ((f.offset, s) :: l)
    | _, _ => none

def partA (E : Env) (t : TypeId) (cs : List AV) (off : Nat) : Option AV :=
  match E.isAgg t, E.siz t with
  | some true, some n => if off + n ≤ cs.length then some (.agg ((cs.drop off).take n)) else none
  | some false, some _ => cs[off]?
  | _, _ => none

def boundA (v : AV) (y : Nat) : Option Nat :=
  match v with
  | .int _ i => if 0 ≤ i ∧ i ≤ y then some i.toNat else none
  | _ => none
def boundsA (rg : T AV) (len cap : Nat) (low high : Option Operand) : Option (Nat × Nat) :=
  match (match high with
    | none => some len
    | some x => match evA rg x with
      | some v => boundA v cap
      | none => none) with
  | none => none
  | some hi => match low with
    | none => some (0, hi)
    | some x => match evA rg x with
      | some v => match boundA v hi with
        | some l => some (l, hi)
        | none => none
      | none => none

/-! ### Maps -/
def keyEq (h : AHeap) : AV → AV → Option Bool
  | .int k a, .int k' b => if k = k' then some (a == b) else none
  | .str a, .str b => some (a == b)
  | .bool a, .bool b => some (a == b)
  | .ptr (some p), .ptr (some q) => eqPtr h p q
  | _, _ => none
/-- Where a key stands. -/
def findA (h : AHeap) (k : AV) : List (AV × AV) → Nat → Option (Option (Nat × AV))
  | [], _ => some none
  | e :: es, i => match keyEq h k e.1 with
    | some true => some (some (i, e.2))
    | some false => findA h k es (i + 1)
    | none => none
/-- A map value's entries. -/
def AHeap.ents (h : AHeap) : Option Nat → Option (List (AV × AV))
  | none => some []
  | some r => match h.get r with
    | some (.map es) => some es
    | _ => none
def keyOk (E : Env) (t : TypeId) (k : AV) : Bool :=
  match E.und t, k with
  | some (.int q), .int k' _ => q == k'
  | some .string, .str _ => true
  | some .bool, .bool _ => true
  | some (.pointer e), .ptr (some _) => match E.siz e with | some (_ + 1) => true | _ => false
  | _, _ => false

/-! ### append, copy -/
def roomy : Nat := 1073741824
/-- What an append's source hands over. -/
def srcA (h : AHeap) (es : Nat) : AV → Option (Nat × List AV)
  | .slice none 0 => some (0, [])
  | .slice (some (i, off)) n => match h.loadCells i off (n * es) with
    | some cs => if cs.all AV.scalar then some (n, cs) else none
    | none => none
  | .str l => if es = 1 then some (l.length, l.map fun b => .int .u8 b.toNat) else none
  | _ => none

def appendA (E : Env) (h : AHeap) (st : TypeId) (s x : AV) : Option (AV × AHeap) :=
  match E.und st with
  | some (.slice e) => match E.siz e, E.byt e, E.zer e with
    | some (es + 1), some by_, some zl =>
      if zl.length ≠ es + 1 then none else
      match srcA h (es + 1) x with
      | none => none
      | some (n, new) =>
        match s with
        | .slice none 0 =>
          if roomy < n * (by_ + 1) then none else
          if n = 0 then some (.slice none 0, h) else
          some (.slice (some (h.next, 0)) n, (h.alloc (.cells true (es + 1) new)).2)
        | .slice (some (i, off)) len =>
          if roomy < (len + n) * (by_ + 1) then none else
          match h.get i with
          | some (.cells true es' cs) =>
            if es' ≠ es + 1 then none
            else if n = 0 then some (.slice (some (i, off)) len, h)
            else if off + (len + n) * (es + 1) ≤ cs.length then
              match h.storeCells i (off + len * (es + 1)) new with
              | some h' => some (.slice (some (i, off)) (len + n), h')
              | none => none
            else if off + len * (es + 1) ≤ cs.length then
              some (.slice (some (h.next, 0)) (len + n), ((h.set i .dead).alloc (.cells true (es + 1) ((cs.drop off).take (len * (es + 1)) ++ new))).2)
            else none
          | _ => none
        | _ => none
    | _, _, _ => none
  | _ => none

def copyA (E : Env) (h : AHeap) (dt : TypeId) (d x : AV) : Option (AV × AHeap) :=
  match E.und dt with
  | some (.slice e) => match E.siz e, d, x with
    | some es, .slice (some (i, off)) dl, .slice (some (j, off')) sl =>
      let n := Nat.min sl dl
      match h.loadCells j off' (n * es) with
      | some cs => (h.storeCells i off cs).map fun h' => (.int .i64 n, h')
      | none => none
    | some _, .slice none 0, .slice _ _ => some (.int .i64 0, h)
    | some _, .slice (some _) _, .slice none 0 => some (.int .i64 0, h)
    | _, _, _ => none
  | _ => none

def lenA (E : Env) (h : AHeap) (t : TypeId) (x : AV) : Option AV :=
  match E.und t, x with
  | some .string, .str s => some (.int .i64 s.length)
  | some (.array n _), _ => some (.int .i64 n)
  | some (.slice _), .slice _ n => some (.int .i64 n)
  | some (.map _ _), .map none => some (.int .i64 0)
  | some (.map _ _), .map (some r) => match h.get r with
    | some (.map es) => some (.int .i64 es.length)
    | _ => none
  | _, _ => none

/-! ### One operation -/
inductive ORes where
  | val (v : AV)
  | skip
  | enter (f : FuncId) (args : List AV)
  | yield (l : Nat) (args : List AV)
  | defer (f : FuncId) (args : List AV)
  | recover
  | panic (v : AV)

def opA (E : Env) (rg : T AV) (h : AHeap) (o : Oper) : Option (ORes × AHeap) :=
  match o.op with
  | .move x | .assign x => match evA rg x with
    | some v => some (.val v, h)
    | none => none
  | .pick c a b => match evA rg c with
    | some (.bool true) => match evA rg a with
      | some v => some (.val v, h)
      | none => none
    | some (.bool false) => match evA rg b with
      | some v => some (.val v, h)
      | none => none
    | _ => none
  | .alloc t => match E.zer t with
    | some cs => some (.val (.ptr (some (h.next, 0))), (h.alloc (.cells true 0 cs)).2)
    | _ => none
  | .box _ x => match evA rg x with
    | some v => if v.cells.all AV.scalar then some (.val (.ptr (some (h.next, 0))), (h.alloc (.cells true 0 v.cells)).2) else none
    | _ => none
  | .build t parts => match E.zer t, E.und t, evParts rg parts.toList with
    | some z, some (.struct fs), some ps => match placesA E fs.toList with
      | some pl => match fillA (pl[·]?) z ps with
        | some cs => some (.val (.agg cs), h)
        | none => none
      | none => none
    | some z, some (.array _ e), some ps => match E.siz e with
      | some s => match fillA (fun i => some (i * s, s)) z ps with
        | some cs => some (.val (.agg cs), h)
        | none => none
      | none => none
    | _, _, _ => none
  | .buildSlice t len parts => match E.und t, evParts rg parts.toList with
    | some (.slice e), some ps => match E.siz e, E.zer e with
      | some (s + 1), some z =>
        if len ≤ 1000 ∧ s ≤ 1000 ∧ z.length = s + 1 then
          match fillA (fun i => some (i * (s + 1), s + 1)) (List.replicate len z).flatten ps with
          | some cs => some (.val (.slice (some (h.next, 0)) len), (h.alloc (.cells true (s + 1) cs)).2)
          | none => none
        else none
      | _, _ => none
    | _, _ => none
  | .load t a => match evA rg a with
    | some (.ptr (some (i, off))) => match E.isAgg t, E.siz t with
      | some true, some n => match h.loadCells i off n with
        | some cs => some (.val (.agg cs), h)
        | none => none
      | some false, some _ => match h.load1 i off with
        | some v => some (.val v, h)
        | none => none
      | _, _ => none
    | _ => none
  | .store t a x => match evA rg a, evA rg x with
    | some (.ptr (some (i, off))), some v =>
      if some v.cells.length = E.siz t then match h.storeCells i off v.cells with
        | some h' => some (.skip, h')
        | none => none
      else none
    | _, _ => none
  | .nilCheck x => match evA rg x with
    | some (.ptr (some p)) => some (.val (.ptr (some p)), h)
    | some (.func f cs) => some (.val (.func f cs), h)
    | some (.yld l) => some (.val (.yld l), h)
    | _ => none
  | .binOp op t x y _ => match evA rg x, evA rg y with
    | some a, some b => match binA E h op t (isConstO x || isConstO y) a b with
      | some v => some (.val v, h)
      | none => none
    | _, _ => none
  | .unOp op _ x => match evA rg x with
    | some a => match unA op a with
      | some v => some (.val v, h)
      | none => none
    | none => none
  | .convert s d x => match E.und s, E.und d, evA rg x with
    | some _, some (.int k), some (.int _ n) => match pureAV (Conv.intToInt k n) with
      | some v => some (.val v, h)
      | none => none
    | some .string, some .string, some (.str l) => some (.val (.str l), h)
    | some .string, some (.slice e), some (.str l) => match E.und e with
      | some (.int .u8) => if roomy < l.length then none else
        some (.val (.slice (some (h.next, 0)) l.length), (h.alloc (.cells false 1 (l.map fun b => .int .u8 b.toNat))).2)
      | _ => none
    | _, _, _ => none
  | .makeInterface t x => match E.und t, evA rg x with
    | some (.interface _), _ => none
    | some _, some v => some (.val (.iface t v), h)
    | _, _ => none
  | .makeFunc (.func f) first caps => match first.toList, evAs rg caps.toList with
    | [], some cs => some (.val (.func f cs), h)
    | _, _ => none
  | .makeMap _ none => some (.val (.map (some h.next)), (h.alloc (.map [])).2)
  | .makeSlice t l c => match E.und t, evA rg l, evA rg c with
    | some (.slice e), some (.int .i64 n), some (.int .i64 n') => match E.siz e, E.byt e, E.zer e with
      | some (s + 1), some b, some z =>
        if n = n' ∧ 0 ≤ n ∧ n.toNat * (b + 1) ≤ roomy ∧ z.length = s + 1 then
          some (.val (.slice (some (h.next, 0)) n.toNat), (h.alloc (.cells true (s + 1) (List.replicate n.toNat z).flatten)).2)
        else none
      | _, _, _ => none
    | _, _, _ => none
  | .slice t x lo hi none => match E.und t, evA rg x with
    | some .string, some (.str s) => match boundsA rg s.length s.length lo hi with
      | some (l, r) => some (.val (.str ((s.take r).drop l)), h)
      | none => none
    | some (.slice e), some (.slice a len) => match E.siz e, boundsA rg len len lo hi with
      | some (s + 1), some (l, r) => match a with
        | some (i, off) => match h.get i with
          | some (.cells rw es _) => if rw = false ∨ es = 0 ∨ es = s + 1 then some (.val (.slice (some (i, off + l * (s + 1))) (r - l)), h) else none
          | _ => none
        | none => some (.val (.slice none 0), h)
      | _, _ => none
    | some (.array n e), some (.ptr (some (i, off))) => match E.siz e, boundsA rg n n lo hi, h.get i with
      | some (s + 1), some (l, r), some (.cells rw es _) =>
        if rw = false ∨ es = 0 then some (.val (.slice (some (i, off + l * (s + 1))) (r - l)), h) else none
      | _, _, _ => none
    | _, _ => none
  | .fieldAddr t x f => match E.und t, evA rg x with
    | some (.struct fs), some (.ptr (some (i, off))) => match fs[f]? with
      | some fd => match E.siz fd.type with
        | some (_ + 1) => some (.val (.ptr (some (i, off + fd.offset))), h)
        | _ => none
      | none => none
    | _, _ => none
  | .field t x f => match E.und t, evA rg x with
    | some (.struct fs), some (.agg cs) => match fs[f]? with
      | some fd => match partA E fd.type cs fd.offset with
        | some v => some (.val v, h)
        | none => none
      | none => none
    | _, _ => none
  | .indexAddr t x ix => match E.und t, evA rg x, evA rg ix with
    | some (.slice e), some (.slice (some (i, off)) len), some (.int _ n) => match E.siz e with
      | some s => if 0 ≤ n ∧ n < len then some (.val (.ptr (some (i, off + n.toNat * s))), h) else none
      | none => none
    | some (.array len e), some (.ptr (some (i, off))), some (.int _ n) => match E.siz e with
      | some s => if 0 ≤ n ∧ n < len then some (.val (.ptr (some (i, off + n.toNat * s))), h) else none
      | none => none
    | _, _, _ => none
  | .index t x ix => match E.und t, evA rg x, evA rg ix with
    | some .string, some (.str s), some (.int _ n) => if 0 ≤ n then match s[n.toNat]? with
        | some b => some (.val (.int .u8 b.toNat), h)
        | none => none
      else none
    | some (.array len e), some (.agg cs), some (.int _ n) => match E.siz e with
      | some s => if 0 ≤ n ∧ n < len then match partA E e cs (n.toNat * s) with
          | some v => some (.val v, h)
          | none => none
        else none
      | none => none
    | _, _, _ => none
  | .lookup t x ix ok => match E.und t, evA rg x, evA rg ix with
    | some (.map kt vt), some (.map m), some k =>
      if keyOk E kt k then
        match h.ents m with
        | some es => match findA h k es 0, E.zer vt, E.isAgg vt with
          | some (some (_, v)), _, _ => some (.val (if ok then .tup [v, .bool true] else v), h)
          | some none, some z, some ag =>
            match (if ag then some (.agg z) else z[0]?) with
            | some v => some (.val (if ok then .tup [v, .bool false] else v), h)
            | none => none
          | _, _, _ => none
        | none => none
      else none
    | _, _, _ => none
  | .mapUpdate t m k x => match E.und t, evA rg m, evA rg k, evA rg x with
    | some (.map kt _), some (.map (some r)), some k, some v =>
      if keyOk E kt k then match h.get r with
        | some (.map es) => match findA h k es 0 with
          | some (some (i, _)) => some (.skip, h.set r (.map (es.modify i fun _ => (k, v))))
          | some none => some (.skip, h.set r (.map (es ++ [(k, v)])))
          | none => none
        | _ => none
      else none
    | _, _, _, _ => none
  | .typeAssert x _ t ok => match E.und t, evA rg x with
    | some (.interface _), _ => none
    | some _, some (.iface u v) =>
      if u = t then some (.val (if ok then .tup [v, .bool true] else v), h)
      else if ok then match E.zer t, E.isAgg t with
        | some z, some ag => match (if ag then some (.agg z) else z[0]?) with
          | some v => some (.val (.tup [v, .bool false]), h)
          | none => none
        | _, _ => none
      else none
    | _, _ => none
  | .extract x i => match evA rg x with
    | some (.tup vs) => match vs[i]? with
      | some v => some (.val v, h)
      | none => none
    | _ => none
  | .call c => match evAs rg c.args.toList with
    | none => none
    | some args => match c.callee with
      | .value f => match evA rg f with
        | some (.func k caps) => match E.fn k with
          | some fn => if fn.body.isSome then some (.enter k (args ++ caps), h) else match E.ext k with
            | some f => match f (args ++ caps) with
              | some v => some (.val v, h)
              | none => none
            | none => none
          | none => none
        | some (.yld l) => match h.get l with
          | some (.loop _ _ _ _ ps _ _) => if args.length = ps.size then some (.yield l args, h) else none
          | _ => none
        | _ => none
      | .invoke _ _ => none
      | .builtin b => match b, args with
        | .len, [x] => match c.argTypes[0]? with
          | some t => match lenA E h t x with
            | some v => some (.val v, h)
            | none => none
          | none => none
        | .append, [s, x] => match c.argTypes[0]?, c.argTypes[1]? with
          | some t, some u => match E.und u with
            | some (.slice _) | some .string => match appendA E h t s x with
              | some (v, h') => some (.val v, h')
              | none => none
            | _ => none
          | _, _ => none
        | .copy, [d, x] => match c.argTypes[0]? with
          | some t => match copyA E h t d x with
            | some (v, h') => some (.val v, h')
            | none => none
          | none => none
        | .max, [.int k a, .int _ b] => some (.val (.int k (if b > a then b else a)), h)
        | .min, [.int k a, .int _ b] => some (.val (.int k (if b < a then b else a)), h)
        | .recover, [] => some (.recover, h)
        | _, _ => none
  | .defer c => match evAs rg c.args.toList, c.callee with
    | some args, .value f => match evA rg f with
      | some (.func k caps) => some (.defer k (args ++ caps), h)
      | _ => none
    | _, _ => none
  | .panic x => match evA rg x with
    | some (.iface t v) => some (.panic (.iface t v), h)
    | _ => none
  | .range t x => match E.und t, evA rg x with
    | some (.map _ _), some (.map (some m)) => match h.get m with
      | some (.map []) => some (.val (.ptr (some (h.next, 0))), (h.alloc (.miter m)).2)
      | _ => none
    | _, _ => none
  | .next x false => match evA rg x with
    | some (.ptr (some (i, 0))) => match h.get i with
      | some (.miter m) => match h.get m with
        | some (.map []) => some (.val (.tup [.bool false]), h)
        | _ => none
      | _ => none
    | _ => none
  | _ => none

end
end Go.Am
