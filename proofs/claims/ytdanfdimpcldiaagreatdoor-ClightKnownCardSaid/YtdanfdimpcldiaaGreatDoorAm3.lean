/-
  Defines when an abstract state stands for a state of the model and proves that allocating and writing keep this relation. Each theorem states its own conditions; there are no others.
-/
import Derived.Test.YtdanfdimpcldiaaGreatDoorAm2
import Derived.Laws.AppendOwn
import Derived.Laws.CopyRow
import Derived.Laws.StructEq
import Derived.Laws.Rows
set_option linter.unusedSimpArgs false
set_option linter.unusedVariables false
set_option linter.unusedSectionVars false
namespace Go.Am

/-! ### The finite map's laws -/
theorem beq0 (x : Nat) : x.beq 0 = decide (x = 0) := by
  cases x <;> simp [Nat.beq]
namespace T
variable {α : Type}
theorem get_nil (k : Nat) : (nil : T α).get k = none := rfl
theorem get_node0 (v : Option α) (l r : T α) : (node v l r).get 0 = v := rfl
theorem get_nodeS (v : Option α) (l r : T α) (k : Nat) : (node v l r).get (k + 1) = if k % 2 = 0 then l.get (k / 2) else r.get (k / 2) := by
  show Bool.rec (motive := fun _ => Nat → Option α) r.get l.get (Nat.beq (k % 2) 0) (k / 2) = _
  rw [beq0]; by_cases h : k % 2 = 0 <;> simp [h]
theorem mk_S (a : α) (f m : Nat) : mk a (f + 1) (m + 1) = if m % 2 = 0 then node none (mk a f (m / 2)) nil else node none nil (mk a f (m / 2)) := by
  simp only [mk, beq0]; by_cases h : m % 2 = 0 <;> simp [h]
theorem set_S (a : α) (v : Option α) (l r : T α) (m : Nat) : (node v l r).set a (m + 1) = if m % 2 = 0 then node v (set a l (m / 2)) r else node v l (set a r (m / 2)) := by
  show Bool.rec (motive := fun _ => T α) (node v l (set a r (m / 2))) (node v (set a l (m / 2)) r) (Nat.beq (m % 2) 0) = _
  rw [beq0]; by_cases h : m % 2 = 0 <;> simp [h]
theorem set_0 (a : α) (v : Option α) (l r : T α) : (node v l r).set a 0 = node (some a) l r := rfl
theorem get_mk (a : α) : ∀ (f n k : Nat), n < f → (mk a f n).get k = if k = n then some a else none := by
  intro f
  induction f with
  | zero => intro n k h; omega
  | succ f ih =>
    intro n k h
    cases n with
    | zero =>
      cases k with
      | zero => simp [mk, get_node0]
      | succ k => simp [mk, get_nodeS, get_nil]
    | succ m =>
      have hf : m / 2 < f := by omega
      rw [mk_S]
      cases k with
      | zero => split <;> simp [get_node0]
      | succ k =>
        split <;> rw [get_nodeS] <;> split <;> simp only [ih _ _ hf, get_nil]
        · have : (k / 2 = m / 2) ↔ (k + 1 = m + 1) := by omega
          simp only [this]
        · rw [if_neg (by omega)]
        · rw [if_neg (by omega)]
        · have : (k / 2 = m / 2) ↔ (k + 1 = m + 1) := by omega
          simp only [this]

theorem get_set (a : α) : ∀ (t : T α) (n k : Nat), (t.set a n).get k = if k = n then some a else t.get k := by
  intro t
  induction t with
  | nil => intro n k; exact get_mk a (n + 1) n k (by omega)
  | node v l r ihl ihr =>
    intro n k
    cases n with
    | zero => cases k <;> simp [set_0, get_node0, get_nodeS]
    | succ m =>
      rw [set_S]
      cases k with
      | zero => split <;> simp [get_node0]
      | succ k =>
        split <;> rw [get_nodeS, get_nodeS] <;> split <;> (try simp only [ihl, ihr])
        · have : (k / 2 = m / 2) ↔ (k + 1 = m + 1) := by omega
          simp only [this]
        · rw [if_neg (by omega)]
        · rw [if_neg (by omega)]
        · have : (k / 2 = m / 2) ↔ (k + 1 = m + 1) := by omega
          simp only [this]
end T

theorem AHeap.get_set (h : AHeap) (i k : Nat) (o : AObj) : (h.set i o).get k = if k = i then some o else h.get k := by
  simp [AHeap.get, AHeap.set, T.get_set]
theorem AHeap.get_alloc (h : AHeap) (k : Nat) (o : AObj) : (h.alloc o).2.get k = if k = h.next then some o else h.get k := by
  simp [AHeap.get, AHeap.alloc, T.get_set]
@[simp] theorem AHeap.next_set (h : AHeap) (i : Nat) (o : AObj) : (h.set i o).next = h.next := rfl
@[simp] theorem AHeap.next_alloc (h : AHeap) (o : AObj) : (h.alloc o).2.next = h.next + 1 := rfl

/-! ### Values -/
structure Loc where
  b : Nat
  base : Nat
  top : Nat
  es : Nat
  rw : Bool

abbrev Inj := Nat → Option Loc

inductive VRel (ι : Inj) : AV → Value → Prop
  | bool (b : Bool) : VRel ι (.bool b) (.bool b)
  | int (k : IntKind) (n : Int) : VRel ι (.int k n) (.int k n)
  | str (l : List UInt8) : VRel ι (.str l) (.string ⟨l.toArray⟩)
  | ptrNil : VRel ι (.ptr none) (.pointer none)
  | ptr {id off : Nat} {L : Loc} (h : ι id = some L) : VRel ι (.ptr (some (id, off))) (.pointer (some ⟨L.b, L.base + off, none⟩))
  | sliceNil : VRel ι (.slice none 0) (.slice none 0 0)
  | slice {id off len cap : Nat} {L : Loc} (h : ι id = some L) (hc : len ≤ cap) (ht : L.rw = true → 0 < L.es → L.base + off + cap * L.es = L.top) :
      VRel ι (.slice (some (id, off)) len) (.slice (some ⟨L.b, L.base + off, none⟩) len cap)
  | sliceEnd {id off : Nat} {a : Addr} {L : Loc} (h : ι id = some L) (ht : L.rw = true → 0 < L.es → L.base + off = L.top) :
      VRel ι (.slice (some (id, off)) 0) (.slice (some a) 0 0)
  | mapNil : VRel ι (.map none) (.map none)
  | map {id : Nat} {L : Loc} (h : ι id = some L) : VRel ι (.map (some id)) (.map (some L.b))
  | func (f : FuncId) {caps : List AV} {cs : Array Value} (hl : caps.length = cs.toList.length) (h : ∀ (i : Nat) (x : AV) (y : Value), caps[i]? = some x → cs.toList[i]? = some y → VRel ι x y) :
      VRel ι (.func f caps) (.func (.func f) #[] cs)
  | yld {l : Nat} {L : Loc} (h : ι l = some L) : VRel ι (.yld l) (.func (.yield L.b) #[] #[])
  | nilFunc : VRel ι .nilFunc .nilFunc
  | iface (t : TypeId) {v : AV} {v' : Value} (h : VRel ι v v') : VRel ι (.iface t v) (.iface t v')
  | nilIface : VRel ι .nilIface .nilIface
  | agg {xs : List AV} {cs : Array Value} (hl : xs.length = cs.toList.length) (h : ∀ (i : Nat) (x : AV) (y : Value), xs[i]? = some x → cs.toList[i]? = some y → VRel ι x y) :
      VRel ι (.agg xs) (.agg cs)
  | tup {xs : List AV} {cs : Array Value} (hl : xs.length = cs.toList.length) (h : ∀ (i : Nat) (x : AV) (y : Value), xs[i]? = some x → cs.toList[i]? = some y → VRel ι x y) :
      VRel ι (.tup xs) (.tuple cs)

/-- Lists of values, place by place. -/
def VsRel (ι : Inj) (xs : List AV) (ys : List Value) : Prop :=
  xs.length = ys.length ∧ ∀ (i : Nat) (x : AV) (y : Value), xs[i]? = some x → ys[i]? = some y → VRel ι x y

theorem VsRel.nil (ι : Inj) : VsRel ι [] [] := ⟨rfl, by simp⟩
theorem VsRel.cons {ι : Inj} {x : AV} {y : Value} {xs : List AV} {ys : List Value} (h : VRel ι x y) (hs : VsRel ι xs ys) : VsRel ι (x :: xs) (y :: ys) := by
  refine ⟨by simp [hs.1], fun i a b ha hb => ?_⟩
  cases i with
  | zero => simp at ha hb; subst ha hb; exact h
  | succ i => simp at ha hb; exact hs.2 i a b ha hb
theorem VsRel.inv {ι : Inj} {x : AV} {xs : List AV} {ys : List Value} (h : VsRel ι (x :: xs) ys) : ∃ y ys', ys = y :: ys' ∧ VRel ι x y ∧ VsRel ι xs ys' := by
  cases ys with
  | nil => have := h.1; simp at this
  | cons y ys => exact ⟨y, ys, rfl, h.2 0 x y rfl rfl, by have := h.1; simpa using this, fun i a b ha hb => h.2 (i + 1) a b (by simpa using ha) (by simpa using hb)⟩
theorem VsRel.inv_nil {ι : Inj} {ys : List Value} (h : VsRel ι [] ys) : ys = [] := by
  have := h.1; cases ys <;> simp_all
theorem VsRel.append {ι : Inj} {xs xs' : List AV} {ys ys' : List Value} (h : VsRel ι xs ys) (h' : VsRel ι xs' ys') : VsRel ι (xs ++ xs') (ys ++ ys') := by
  refine ⟨by simp [h.1, h'.1], fun i a b ha hb => ?_⟩
  rw [List.getElem?_append] at ha hb
  rw [← h.1] at hb
  split at ha
  · rename_i hlt; simp [hlt] at hb; exact h.2 i a b ha hb
  · rename_i hlt; simp [hlt] at hb; exact h'.2 _ a b ha hb
theorem VsRel.get {ι : Inj} {xs : List AV} {ys : List Value} (h : VsRel ι xs ys) {i : Nat} {x : AV} (hx : xs[i]? = some x) : ∃ y, ys[i]? = some y ∧ VRel ι x y := by
  have hi : i < xs.length := (List.getElem?_eq_some_iff.1 hx).1
  have hi' : i < ys.length := h.1 ▸ hi
  exact ⟨ys[i], by simp [hi'], h.2 i x _ hx (by simp [hi'])⟩
theorem VsRel.take {ι : Inj} {xs : List AV} {ys : List Value} (h : VsRel ι xs ys) (n : Nat) : VsRel ι (xs.take n) (ys.take n) := by
  refine ⟨by simp [h.1], fun i a b ha hb => ?_⟩
  rw [List.getElem?_take] at ha hb
  split at ha
  · rename_i hlt; simp [hlt] at hb; exact h.2 i a b ha hb
  · simp at ha
theorem VsRel.drop {ι : Inj} {xs : List AV} {ys : List Value} (h : VsRel ι xs ys) (n : Nat) : VsRel ι (xs.drop n) (ys.drop n) := by
  refine ⟨by simp [h.1], fun i a b ha hb => ?_⟩
  rw [List.getElem?_drop] at ha hb
  exact h.2 _ a b ha hb

/-- The injection of a later state keeps what the earlier one maps. -/
def Inj.le (ι ι' : Inj) : Prop := ∀ i L, ι i = some L → ι' i = some L
theorem Inj.le.refl (ι : Inj) : ι.le ι := fun _ _ h => h
theorem Inj.le.trans {a b c : Inj} (h : a.le b) (h' : b.le c) : a.le c := fun i L hi => h' i L (h i L hi)

theorem VRel.mono {ι ι' : Inj} (hle : ι.le ι') {v : AV} {v' : Value} (h : VRel ι v v') : VRel ι' v v' := by
  induction h with
  | bool b => exact .bool b
  | int k n => exact .int k n
  | str l => exact .str l
  | ptrNil => exact .ptrNil
  | ptr h => exact .ptr (hle _ _ h)
  | sliceNil => exact .sliceNil
  | slice h hc ht => exact .slice (hle _ _ h) hc ht
  | sliceEnd h ht => exact .sliceEnd (hle _ _ h) ht
  | mapNil => exact .mapNil
  | map h => exact .map (hle _ _ h)
  | func f hl _ ih => exact .func f hl ih
  | yld h => exact .yld (hle _ _ h)
  | nilFunc => exact .nilFunc
  | iface t _ ih => exact .iface t ih
  | nilIface => exact .nilIface
  | agg hl _ ih => exact .agg hl ih
  | tup hl _ ih => exact .tup hl ih
theorem VsRel.mono {ι ι' : Inj} (hle : ι.le ι') {xs : List AV} {ys : List Value} (h : VsRel ι xs ys) : VsRel ι' xs ys :=
  ⟨h.1, fun i x y hx hy => (h.2 i x y hx hy).mono hle⟩
theorem VRel.agg' {ι : Inj} {xs : List AV} {cs : Array Value} (h : VsRel ι xs cs.toList) : VRel ι (.agg xs) (.agg cs) := .agg h.1 h.2
theorem VRel.agg_inv {ι : Inj} {xs : List AV} {v : Value} (h : VRel ι (.agg xs) v) : ∃ cs, v = .agg cs ∧ VsRel ι xs cs.toList := by
  cases h with | agg hl h => exact ⟨_, rfl, hl, h⟩
theorem VRel.tup' {ι : Inj} {xs : List AV} {cs : Array Value} (h : VsRel ι xs cs.toList) : VRel ι (.tup xs) (.tuple cs) := .tup h.1 h.2
theorem VRel.tup_inv {ι : Inj} {xs : List AV} {v : Value} (h : VRel ι (.tup xs) v) : ∃ cs, v = .tuple cs ∧ VsRel ι xs cs.toList := by
  cases h with | tup hl h => exact ⟨_, rfl, hl, h⟩
theorem VRel.undef (ι : Inj) : VRel ι nil' Go.undef := .tup rfl (by simp)
theorem VRel.scalar {ι : Inj} {v : AV} {v' : Value} (h : VRel ι v v') : v'.oneCell' = v.scalar := by
  cases h <;> rfl
theorem VRel.cells {ι : Inj} {v : AV} {v' : Value} (h : VRel ι v v') : VsRel ι v.cells v'.cells.toList := by
  cases h with
  | agg hl h => exact ⟨hl, h⟩
  | bool b => exact VsRel.cons (.bool b) (VsRel.nil _)
  | int k n => exact VsRel.cons (.int k n) (VsRel.nil _)
  | str l => exact VsRel.cons (.str l) (VsRel.nil _)
  | ptrNil => exact VsRel.cons .ptrNil (VsRel.nil _)
  | ptr h => exact VsRel.cons (.ptr h) (VsRel.nil _)
  | sliceNil => exact VsRel.cons .sliceNil (VsRel.nil _)
  | slice h hc ht => exact VsRel.cons (.slice h hc ht) (VsRel.nil _)
  | sliceEnd h ht => exact VsRel.cons (.sliceEnd h ht) (VsRel.nil _)
  | mapNil => exact VsRel.cons .mapNil (VsRel.nil _)
  | map h => exact VsRel.cons (.map h) (VsRel.nil _)
  | func f hl h => exact VsRel.cons (.func f hl h) (VsRel.nil _)
  | yld h => exact VsRel.cons (.yld h) (VsRel.nil _)
  | nilFunc => exact VsRel.cons .nilFunc (VsRel.nil _)
  | iface t h => exact VsRel.cons (.iface t h) (VsRel.nil _)
  | nilIface => exact VsRel.cons .nilIface (VsRel.nil _)
  | tup hl h => exact VsRel.cons (.tup hl h) (VsRel.nil _)

/-! ### Constants -/
theorem toAV0_rel (ι : Inj) {v : Value} {a : AV} (h : toAV0 v = some a) : VRel ι a v := by
  unfold toAV0 at h
  split at h <;> simp at h <;> subst h <;> constructor
theorem toAVs_rel (ι : Inj) : ∀ {vs : List Value} {l : List AV}, toAVs vs = some l → VsRel ι l vs
  | [], l, h => by simp [toAVs] at h; subst h; exact VsRel.nil _
  | v :: r, l, h => by
    simp only [toAVs] at h
    split at h
    · rename_i a b ha hb
      simp at h; subst h
      exact VsRel.cons (toAV0_rel ι ha) (toAVs_rel ι hb)
    · simp at h
theorem toAV_rel (ι : Inj) {v : Value} {a : AV} (h : toAV v = some a) : VRel ι a v := by
  unfold toAV at h
  split at h
  · simp at h; obtain ⟨l, hl, rfl⟩ := h; exact .agg' (toAVs_rel ι hl)
  · simp at h; obtain ⟨l, hl, rfl⟩ := h; exact .iface _ (toAV0_rel ι hl)
  · exact toAV0_rel ι h

/-! ### Heaps -/
def AObj.gone : AObj → Bool
  | .dead => true
  | _ => false
def AObj.owned : AObj → Bool
  | .cells rw _ _ => rw
  | .dead => false
  | _ => true

/-- The registers of a frame. -/
def RegRel (ι : Inj) (rg : T AV) (tm : Array Value) : Prop := ∀ i x, rg.get i = some x → ∃ y, tm[i]? = some y ∧ VRel ι x y

def ORel (ι : Inj) (o : AObj) (L : Loc) (w : World) : Prop :=
  match o with
  | .dead => True
  | .cells rw es cs => L.rw = rw ∧ L.es = es ∧ L.base + cs.length ≤ L.top ∧ ∃ c e fz, w.heap[L.b]? = some (.cells c e fz) ∧ (rw = true → fz = (0, 0) ∧ L.top = c.size) ∧
      (∀ (i : Nat) (x : AV), cs[i]? = some x → ∃ y : Value, c[L.base + i]? = some y ∧ VRel ι x y)
  | .map ents => ∃ es ck, w.heap[L.b]? = some (.map es ck) ∧ es.size = ents.length ∧ ∀ (i : Nat) (x : AV × AV) (y : MapEntry), ents[i]? = some x → es[i]? = some y → VRel ι x.1 y.key ∧ VRel ι x.2 y.val
  | .loop st pend n rg ps as b => ∃ tm df fn, w.heap[L.b]? = some (.loop { state := st, pending := pend, fn := fn, tmps := tm, params := ps, assign := as, body := b, defers := df }) ∧ RegRel ι rg tm ∧ tm.size = n
  | .siter s pos => w.heap[L.b]? = some (.stringIter ⟨s.toArray⟩ pos)
  | .miter m => ∃ Lm since last, L.base = 0 ∧ ι m = some Lm ∧ w.heap[L.b]? = some (.mapIter (some Lm.b) since #[] last)
  | .dblk => w.heap[L.b]? = some (.deferred (some []))

/-- The world in which the whole run begins: what lies in it stays, but for what is owned. -/
class Base where
  w : World
variable [Base]
structure BaseOk (ι : Inj) (h : AHeap) (w : World) : Prop where
  size : Base.w.heap.size ≤ w.heap.size
  old : ∀ b, b < Base.w.heap.size → w.heap[b]? = Base.w.heap[b]?
  os : w.os = Base.w.os
  own : ∀ i L o, ι i = some L → h.get i = some o → o.owned = true → Base.w.heap.size ≤ L.b

structure HRel (ι : Inj) (h : AHeap) (w : World) : Prop where
  obj : ∀ i L, ι i = some L → ∃ o, h.get i = some o ∧ ORel ι o L w
  dis : ∀ i j Li Lj oi oj, i ≠ j → ι i = some Li → ι j = some Lj → h.get i = some oi → h.get j = some oj → oi.owned = true → oj.gone = false → Li.b ≠ Lj.b
  lt : ∀ i L, ι i = some L → i < h.next
  fresh : ∀ i, h.next ≤ i → h.get i = none
  bnd : ∀ i L, ι i = some L → L.b < w.heap.size
  base : BaseOk ι h w

def Owned (ι : Inj) (h : AHeap) (b : Nat) : Prop := ∃ i L o, ι i = some L ∧ h.get i = some o ∧ o.owned = true ∧ L.b = b

structure Ext (ι : Inj) (h : AHeap) (w : World) (ι' : Inj) (h' : AHeap) (w' : World) : Prop where
  rel : HRel ι' h' w'
  keep : ∀ i, i < h.next → ι' i = ι i
  same : ∀ i, i < h.next → ι i = none → h'.get i = h.get i
  next : h.next ≤ h'.next
  size : w.heap.size ≤ w'.heap.size
  frame : ∀ b, b < w.heap.size → ¬ Owned ι h b → w'.heap[b]? = w.heap[b]? ∧ ¬ Owned ι' h' b
  os : w'.os = w.os
  tape : w'.tape = w.tape
  output : w'.output = w.output
  new : ∀ i L, ι' i = some L → ι i = some L ∨ w.heap.size ≤ L.b ∨ Owned ι h L.b

theorem Ext.le {ι ι' : Inj} {h h' : AHeap} {w w' : World} (hH : HRel ι h w) (e : Ext ι h w ι' h' w') : ι.le ι' := fun i L hi => by
  rw [e.keep i (hH.lt i L hi)]; exact hi
theorem Ext.refl {ι : Inj} {h : AHeap} {w : World} (hH : HRel ι h w) : Ext ι h w ι h w :=
  ⟨hH, fun _ _ => rfl, fun _ _ _ => rfl, Nat.le_refl _, Nat.le_refl _, fun _ _ hn => ⟨rfl, hn⟩, rfl, rfl, rfl, fun _ _ hi => .inl hi⟩
theorem Ext.trans {ι ι₁ ι₂ : Inj} {h h₁ h₂ : AHeap} {w w₁ w₂ : World} (e : Ext ι h w ι₁ h₁ w₁) (e' : Ext ι₁ h₁ w₁ ι₂ h₂ w₂) : Ext ι h w ι₂ h₂ w₂ :=
  ⟨e'.rel, fun i hi => (e'.keep i (Nat.lt_of_lt_of_le hi e.next)).trans (e.keep i hi),
   fun i hi hn => (e'.same i (Nat.lt_of_lt_of_le hi e.next) ((e.keep i hi).trans hn)).trans (e.same i hi hn),
   Nat.le_trans e.next e'.next, Nat.le_trans e.size e'.size,
   fun b hb hn => let ⟨h1, h2⟩ := e.frame b hb hn; let ⟨h3, h4⟩ := e'.frame b (Nat.lt_of_lt_of_le hb e.size) h2; ⟨h3.trans h1, h4⟩,
   e'.os.trans e.os, e'.tape.trans e.tape, e'.output.trans e.output,
   fun i L hi => by
    rcases e'.new i L hi with h1 | h1 | h1
    · exact e.new i L h1
    · exact .inr (.inl (Nat.le_trans e.size h1))
    · by_cases hs : w.heap.size ≤ L.b
      · exact .inr (.inl hs)
      · by_cases ho : Owned ι h L.b
        · exact .inr (.inr ho)
        · exact absurd h1 (e.frame L.b (by omega) ho).2⟩

theorem RegRel.mono {ι ι' : Inj} (hle : ι.le ι') {rg : T AV} {tm : Array Value} (h : RegRel ι rg tm) : RegRel ι' rg tm :=
  fun i x hx => let ⟨y, hy, hr⟩ := h i x hx; ⟨y, hy, hr.mono hle⟩
theorem ORel.mono {ι ι' : Inj} (hle : ι.le ι') {o : AObj} {L : Loc} {w : World} (h : ORel ι o L w) : ORel ι' o L w := by
  cases o with
  | dead => trivial
  | cells rw es cs =>
    obtain ⟨h1, h2, h3, c, e, fz, h4, h5, h6⟩ := h
    exact ⟨h1, h2, h3, c, e, fz, h4, h5, fun i x hx => let ⟨y, hy, hr⟩ := h6 i x hx; ⟨y, hy, hr.mono hle⟩⟩
  | map ents =>
    obtain ⟨es, ck, h1, h2, h3⟩ := h
    exact ⟨es, ck, h1, h2, fun i x y hx hy => ⟨(h3 i x y hx hy).1.mono hle, (h3 i x y hx hy).2.mono hle⟩⟩
  | loop st pend fn rg ps as b =>
    obtain ⟨tm, df, fn, h1, h2, h3⟩ := h
    exact ⟨tm, df, fn, h1, h2.mono hle, h3⟩
  | siter s pos => exact h
  | miter m => obtain ⟨Lm, since, last, h0, h1, h2⟩ := h; exact ⟨Lm, since, last, h0, hle _ _ h1, h2⟩
  | dblk => exact h
/-- An object lies as it lay where its block does. -/
theorem ORel.block {ι : Inj} {o : AObj} {L : Loc} {w w' : World} (h : ORel ι o L w) (hb : w'.heap[L.b]? = w.heap[L.b]?) : ORel ι o L w' := by
  cases o with
  | dead => trivial
  | cells rw es cs =>
    obtain ⟨h1, h2, h3, c, e, fz, h4, h5, h6⟩ := h
    exact ⟨h1, h2, h3, c, e, fz, hb.trans h4, h5, h6⟩
  | map ents => obtain ⟨es, ck, h1, h2⟩ := h; exact ⟨es, ck, hb.trans h1, h2⟩
  | loop st pend fn rg ps as b => obtain ⟨tm, df, fn, h1, h2⟩ := h; exact ⟨tm, df, fn, hb.trans h1, h2⟩
  | siter s pos => exact hb.trans h
  | miter m => obtain ⟨Lm, since, last, h0, h1, h2⟩ := h; exact ⟨Lm, since, last, h0, h1, hb.trans h2⟩
  | dblk => exact hb.trans h
theorem ORel.lt {ι : Inj} {o : AObj} {L : Loc} {w : World} (h : ORel ι o L w) (hd : o.gone = false) : L.b < w.heap.size := by
  have key : ∀ {x : Obj}, w.heap[L.b]? = some x → L.b < w.heap.size := fun hx => (Array.getElem?_eq_some_iff.1 hx).1
  cases o with
  | dead => simp [AObj.gone] at hd
  | cells rw es cs => obtain ⟨_, _, _, c, e, fz, h4, _⟩ := h; exact key h4
  | map ents => obtain ⟨es, ck, h1, _⟩ := h; exact key h1
  | loop st pend fn rg ps as b => obtain ⟨tm, df, fn, h1, _⟩ := h; exact key h1
  | siter s pos => exact key h
  | miter m => obtain ⟨_, _, _, _, _, h2⟩ := h; exact key h2
  | dblk => exact key h

/-! ### A new object -/
def Inj.add (ι : Inj) (i : Nat) (L : Loc) : Inj := fun k => if k = i then some L else ι k
theorem Inj.add_same (ι : Inj) (i : Nat) (L : Loc) : ι.add i L i = some L := by simp [Inj.add]
theorem Inj.add_other (ι : Inj) {i k : Nat} (L : Loc) (h : k ≠ i) : ι.add i L k = ι k := by simp [Inj.add, h]

/-- A new abstract object over a new concrete block (draws ahead of it may have been made: W0 is the world then). -/
theorem HRel.grow {ι : Inj} {h : AHeap} {w w' : World} (hH : HRel ι h w) (hsz : w.heap.size ≤ w'.heap.size) (hold : ∀ b, b < w.heap.size → w'.heap[b]? = w.heap[b]?) (hos : w'.os = w.os) (ht : w'.tape = w.tape) (ho : w'.output = w.output)
    (o : AObj) (L : Loc) (hL : w.heap.size ≤ L.b) (hL' : L.b < w'.heap.size) (hO : ORel (ι.add h.next L) o L w') :
    Ext ι h w (ι.add h.next L) (h.alloc o).2 w' := by
  have hle : ι.le (ι.add h.next L) := fun i Li hi => by
    rw [Inj.add_other]; exact hi
    have := hH.lt i Li hi; omega
  refine ⟨⟨?_, ?_, ?_, ?_, fun i Li hi => by
    by_cases e : i = h.next
    · subst e; rw [Inj.add_same] at hi; cases hi; exact hL'
    · rw [Inj.add_other _ _ e] at hi; exact Nat.lt_of_lt_of_le (hH.bnd i Li hi) hsz, ⟨Nat.le_trans hH.base.size hsz, fun b hb => (hold b (Nat.lt_of_lt_of_le hb hH.base.size)).trans (hH.base.old b hb), hos.trans hH.base.os, fun i Li oi hi hoi how => by
    by_cases e : i = h.next
    · subst e; rw [Inj.add_same] at hi; cases hi; exact Nat.le_trans hH.base.size hL
    · rw [Inj.add_other _ _ e] at hi
      simp [AHeap.get_alloc, e] at hoi
      exact hH.base.own i Li oi hi hoi how⟩⟩, ?_, ?_, by simp, hsz, ?_, hos, ht, ho, fun i Li hi => by
    by_cases e : i = h.next
    · subst e; rw [Inj.add_same] at hi; cases hi; exact .inr (.inl hL)
    · rw [Inj.add_other _ _ e] at hi; exact .inl hi⟩
  · intro i Li hi
    by_cases e : i = h.next
    · subst e; rw [Inj.add_same] at hi; cases hi
      exact ⟨o, by simp [AHeap.get_alloc], hO⟩
    · rw [Inj.add_other _ _ e] at hi
      obtain ⟨oi, ho1, ho2⟩ := hH.obj i Li hi
      refine ⟨oi, by simp [AHeap.get_alloc, e, ho1], ?_⟩
      by_cases hd : oi.gone = true
      · cases oi <;> simp [AObj.gone] at hd; exact True.intro
      · exact (ho2.mono hle).block (hold _ (ho2.lt (by simpa using hd)))
  · intro i j Li Lj oi oj hij hi hj hoi hoj how hnd
    by_cases e : i = h.next
    · subst e; rw [Inj.add_same] at hi; cases hi
      have hj' : j ≠ h.next := fun e => hij e.symm
      rw [Inj.add_other _ _ hj'] at hj
      simp [AHeap.get_alloc, hj'] at hoj
      obtain ⟨oj', ho1, ho2⟩ := hH.obj j Lj hj
      rw [hoj] at ho1; cases ho1
      have := ho2.lt hnd
      omega
    · rw [Inj.add_other _ _ e] at hi
      simp [AHeap.get_alloc, e] at hoi
      obtain ⟨oi', ho1, ho2⟩ := hH.obj i Li hi
      rw [hoi] at ho1; cases ho1
      by_cases e' : j = h.next
      · subst e'; rw [Inj.add_same] at hj; cases hj
        have := ho2.lt (by cases oi <;> simp_all [AObj.owned, AObj.gone])
        omega
      · rw [Inj.add_other _ _ e'] at hj
        simp [AHeap.get_alloc, e'] at hoj
        exact hH.dis i j Li Lj oi oj hij hi hj hoi hoj how hnd
  · intro i Li hi
    by_cases e : i = h.next
    · subst e; simp
    · rw [Inj.add_other _ _ e] at hi
      have := hH.lt i Li hi; simp; omega
  · intro i hi
    simp at hi
    have : i ≠ h.next := by omega
    simp [AHeap.get_alloc, this]
    exact hH.fresh i (by omega)
  · intro i hi; rw [Inj.add_other]; omega
  · intro i hi _; rw [AHeap.get_alloc, if_neg (by omega)]
  · intro b hb hn
    refine ⟨hold b hb, ?_⟩
    rintro ⟨i, Li, oi, hi, hoi, how, hbi⟩
    by_cases e : i = h.next
    · subst e; rw [Inj.add_same] at hi; cases hi; omega
    · rw [Inj.add_other _ _ e] at hi
      simp [AHeap.get_alloc, e] at hoi
      exact hn ⟨i, Li, oi, hi, hoi, how, hbi⟩

theorem HRel.alloc {ι : Inj} {h : AHeap} {w w0 : World} (hH : HRel ι h w) (hh : w0.heap = w.heap) (hos : w0.os = w.os) (ht : w0.tape = w.tape) (ho : w0.output = w.output)
    (o : AObj) (x : Obj) (L : Loc) (hL : L.b = w.heap.size) (hO : ORel (ι.add h.next L) o L (w0.alloc x)) :
    Ext ι h w (ι.add h.next L) (h.alloc o).2 (w0.alloc x) :=
  hH.grow (w' := w0.alloc x) (by simp [World.alloc, hh]) (fun b hb => by rw [heap_alloc_old _ _ _ (by rw [hh]; exact hb), hh]) hos ht ho o L (by omega) (by rw [hL]; simp [World.alloc_eq, hh]) hO

/-- An owned object turns, and its block with it; nothing else. -/
theorem HRel.turn {ι : Inj} {h : AHeap} {w w' : World} (hH : HRel ι h w) {i : Nat} {L : Loc} {o o' : AObj} (hi : ι i = some L) (ho : h.get i = some o) (how : o.owned = true)
    (hO : ORel ι o' L w') (hsz : w'.heap.size = w.heap.size) (hother : ∀ b, b ≠ L.b → w'.heap[b]? = w.heap[b]?) (hos : w'.os = w.os) (ht : w'.tape = w.tape) (hout : w'.output = w.output) :
    Ext ι h w ι (h.set i o') w' := by
  have hbL := hH.base.own i L o hi ho how
  refine ⟨⟨?_, ?_, ?_, ?_, fun i Li hi => by rw [hsz]; exact hH.bnd i Li hi, ⟨by rw [hsz]; exact hH.base.size, fun b hb => (hother b (by omega)).trans (hH.base.old b hb), hos.trans hH.base.os, fun k Lk ok hk hok hwk => by
    by_cases e : k = i
    · subst e; rw [hi] at hk; cases hk; exact hbL
    · simp [AHeap.get_set, e] at hok
      exact hH.base.own k Lk ok hk hok hwk⟩⟩, fun _ _ => rfl, ?_, Nat.le_refl _, by omega, ?_, hos, ht, hout, fun _ _ hi => .inl hi⟩
  · intro k Lk hk
    by_cases e : k = i
    · subst e; rw [hi] at hk; cases hk; exact ⟨o', by simp [AHeap.get_set], hO⟩
    · obtain ⟨ok, h1, h2⟩ := hH.obj k Lk hk
      refine ⟨ok, by simp [AHeap.get_set, e, h1], ?_⟩
      by_cases hd : ok.gone = true
      · cases ok <;> simp [AObj.gone] at hd; exact True.intro
      · exact h2.block (hother _ fun eb => hH.dis i k L Lk o ok (fun e' => e e'.symm) hi hk ho h1 how (by simpa using hd) eb.symm)
  · intro k j Lk Lj ok oj hkj hk hj hok hoj hwn hnd
    by_cases e : k = i
    · subst e; rw [hi] at hk; cases hk
      have e' : j ≠ k := fun e => hkj e.symm
      simp [AHeap.get_set, e'] at hoj
      exact hH.dis k j L Lj o oj hkj hi hj ho hoj how hnd
    · simp [AHeap.get_set, e] at hok
      by_cases e' : j = i
      · subst e'; rw [hi] at hj; cases hj
        exact fun eb => hH.dis j k L Lk o ok (fun h => hkj h.symm) hi hk ho hok how (by cases ok <;> simp_all [AObj.owned, AObj.gone]) eb.symm
      · simp [AHeap.get_set, e'] at hoj
        exact hH.dis k j Lk Lj ok oj hkj hk hj hok hoj hwn hnd
  · intro k Lk hk; exact hH.lt k Lk hk
  · intro k hk; rw [AHeap.get_set, if_neg]; exact hH.fresh k hk
    have := hH.lt i L hi; have : h.next ≤ k := hk; omega
  · intro k hk hn; rw [AHeap.get_set, if_neg]; intro e; subst e; rw [hi] at hn; cases hn
  · intro b hb hn
    refine ⟨hother b fun e => hn ⟨i, L, o, hi, ho, how, e.symm⟩, ?_⟩
    rintro ⟨k, Lk, ok, hk, hok, hwk, hbk⟩
    by_cases e : k = i
    · subst e; rw [hi] at hk; cases hk; exact hn ⟨k, L, o, hi, ho, how, hbk⟩
    · simp [AHeap.get_set, e] at hok
      exact hn ⟨k, Lk, ok, hk, hok, hwk, hbk⟩

/-- Draws alone. -/
theorem HRel.heapEq {ι : Inj} {h : AHeap} {w w' : World} (hH : HRel ι h w) (hh : w'.heap = w.heap) (ho : w'.os = w.os) : HRel ι h w' :=
  ⟨fun i L hi => let ⟨o, h1, h2⟩ := hH.obj i L hi; ⟨o, h1, h2.block (by rw [hh])⟩, hH.dis, hH.lt, hH.fresh, fun i L hi => by rw [hh]; exact hH.bnd i L hi,
    ⟨by rw [hh]; exact hH.base.size, fun b hb => by rw [hh]; exact hH.base.old b hb, ho.trans hH.base.os, hH.base.own⟩⟩

end Go.Am
