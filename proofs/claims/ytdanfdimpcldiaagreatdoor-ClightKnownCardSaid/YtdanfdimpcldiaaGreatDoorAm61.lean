/-
  A library-like rule: what a function answers to a text that is told, run from the empty heap, it answers from every heap, the new objects called otherwise. Each theorem states its own conditions; there are no others.
-/
import Derived.Test.YtdanfdimpcldiaaGreatDoorAm60
set_option linter.unusedSimpArgs false
set_option linter.unusedVariables false
set_option linter.unusedVariables false
set_option linter.unusedSectionVars false
namespace Go.Am

/-! ### Names moved -/
mutual
def shV (δ : Nat) : AV → AV
  | .ptr (some p) => .ptr (some (Nat.add δ p.1, p.2))
  | .slice (some p) n => .slice (some (Nat.add δ p.1, p.2)) n
  | .map (some i) => .map (some (Nat.add δ i))
  | .func f cs => .func f (shVs δ cs)
  | .yld l => .yld (Nat.add δ l)
  | .iface t v => .iface t (shV δ v)
  | .agg cs => .agg (shVs δ cs)
  | .tup cs => .tup (shVs δ cs)
  | v => v
def shVs (δ : Nat) : List AV → List AV
  | [] => []
  | v :: r => shV δ v :: shVs δ r
end
def shE (δ : Nat) : List (AV × AV) → List (AV × AV)
  | [] => []
  | e :: r => (shV δ e.1, shV δ e.2) :: shE δ r
def shO (δ : Nat) : AObj → AObj
  | .cells rw es cs => .cells rw es (shVs δ cs)
  | .map ents => .map (shE δ ents)
  | _ => .dead
theorem shVs_map (δ : Nat) : ∀ l, shVs δ l = l.map (shV δ)
  | [] => rfl
  | v :: r => by simp only [shVs, List.map_cons, shVs_map δ r]
theorem shE_map (δ : Nat) : ∀ l, shE δ l = l.map fun e => (shV δ e.1, shV δ e.2)
  | [] => rfl
  | v :: r => by simp only [shE, List.map_cons, shE_map δ r]
section
variable {ι ι' : Inj} {δ : Nat} (hι : ∀ i L, ι i = some L → ι' (δ + i) = some L)
include hι
theorem VRel.sh {v : AV} {y : Value} (h : VRel ι v y) : VRel ι' (shV δ v) y := by
  induction h with
  | bool b => exact .bool b
  | int k n => exact .int k n
  | str l => exact .str l
  | ptrNil => exact .ptrNil
  | ptr h => exact .ptr (hι _ _ h)
  | sliceNil => exact .sliceNil
  | slice h hc ht => exact .slice (hι _ _ h) hc ht
  | sliceEnd h ht => exact .sliceEnd (hι _ _ h) ht
  | mapNil => exact .mapNil
  | map h => exact .map (hι _ _ h)
  | @func f caps cs hl _ ih =>
    simp only [shV, shVs_map]
    refine .func f (by rw [List.length_map]; exact hl) fun i x y hx hy => ?_
    rw [List.getElem?_map, Option.map_eq_some_iff] at hx
    obtain ⟨x', hx', rfl⟩ := hx
    exact ih i x' y hx' hy
  | yld h => exact .yld (hι _ _ h)
  | nilFunc => exact .nilFunc
  | iface t _ ih => exact .iface t ih
  | nilIface => exact .nilIface
  | @agg xs cs hl _ ih =>
    simp only [shV, shVs_map]
    refine .agg (by rw [List.length_map]; exact hl) fun i x y hx hy => ?_
    rw [List.getElem?_map, Option.map_eq_some_iff] at hx
    obtain ⟨x', hx', rfl⟩ := hx
    exact ih i x' y hx' hy
  | @tup xs cs hl _ ih =>
    simp only [shV, shVs_map]
    refine .tup (by rw [List.length_map]; exact hl) fun i x y hx hy => ?_
    rw [List.getElem?_map, Option.map_eq_some_iff] at hx
    obtain ⟨x', hx', rfl⟩ := hx
    exact ih i x' y hx' hy
theorem ORel.sh {o : AObj} {L : Loc} {w : World} (h : ORel ι o L w) : ORel ι' (shO δ o) L w := by
  cases o with
  | cells rw es cs =>
    obtain ⟨h1, h2, h3, c, e, fz, h4, h5, h6⟩ := h
    refine ⟨h1, h2, by rw [shVs_map, List.length_map]; exact h3, c, e, fz, h4, h5, fun i x hx => ?_⟩
    rw [shVs_map, List.getElem?_map, Option.map_eq_some_iff] at hx
    obtain ⟨x', hx', rfl⟩ := hx
    obtain ⟨y, hy, hr⟩ := h6 i x' hx'
    exact ⟨y, hy, hr.sh hι⟩
  | map ents =>
    obtain ⟨es, ck, h1, h2, h3⟩ := h
    refine ⟨es, ck, h1, by rw [shE_map, List.length_map]; exact h2, fun i x y hx hy => ?_⟩
    rw [shE_map, List.getElem?_map, Option.map_eq_some_iff] at hx
    obtain ⟨x', hx', rfl⟩ := hx
    exact ⟨(h3 i x' y hx' hy).1.sh hι, (h3 i x' y hx' hy).2.sh hι⟩
  | _ => trivial
end
theorem shO_owned (δ : Nat) (o : AObj) : (shO δ o).owned = true → o.owned = true := by
  cases o <;> simp [shO, AObj.owned]
theorem shO_gone (δ : Nat) (o : AObj) : (shO δ o).gone = false → o.gone = false := by
  cases o <;> simp [shO, AObj.gone]

/-! ### Objects laid into a heap -/
noncomputable section
def fillD : Nat → AHeap → AHeap
  | 0, h => h
  | n + 1, h => fillD n (h.alloc .dead).2
def setL (δ : Nat) : List (Nat × AObj) → AHeap → AHeap
  | [], h => h
  | x :: r, h => setL δ r (h.set (Nat.add δ x.1) (shO δ x.2))
end
theorem fillD_next : ∀ (n : Nat) (h : AHeap), (fillD n h).next = h.next + n
  | 0, h => rfl
  | n + 1, h => by rw [fillD, fillD_next n, AHeap.next_alloc]; omega
theorem fillD_get : ∀ (n : Nat) (h : AHeap) (i : Nat), (fillD n h).get i = if h.next ≤ i ∧ i < h.next + n then some .dead else h.get i
  | 0, h, i => by rw [if_neg (by omega)]; rfl
  | n + 1, h, i => by
    rw [fillD, fillD_get n, AHeap.next_alloc, AHeap.get_alloc]
    by_cases h1 : i = h.next
    · subst h1; rw [if_neg (by omega), if_pos rfl, if_pos (by omega)]
    · by_cases h2 : h.next + 1 ≤ i ∧ i < h.next + 1 + n
      · rw [if_pos h2, if_pos (by omega)]
      · rw [if_neg h2, if_neg h1, if_neg (by omega)]
theorem setL_next (δ : Nat) : ∀ (l : List (Nat × AObj)) (h : AHeap), (setL δ l h).next = h.next
  | [], h => rfl
  | x :: r, h => by rw [setL, setL_next δ r]; rfl
theorem setL_get (δ : Nat) : ∀ (l : List (Nat × AObj)) (h : AHeap) (j : Nat), (∃ x ∈ l, j = δ + x.1 ∧ (setL δ l h).get j = some (shO δ x.2)) ∨ (setL δ l h).get j = h.get j
  | [], h, j => .inr rfl
  | x :: r, h, j => by
    rcases setL_get δ r (h.set (δ + x.1) (shO δ x.2)) j with ⟨y, h1, h2, h3⟩ | h1
    · exact .inl ⟨y, by simp [h1], h2, h3⟩
    · have h1' : (setL δ (x :: r) h).get j = (h.set (δ + x.1) (shO δ x.2)).get j := h1
      by_cases e : j = δ + x.1
      · refine .inl ⟨x, by simp, e, ?_⟩
        rw [h1', AHeap.get_set, if_pos e]
      · refine .inr ?_
        rw [h1', AHeap.get_set, if_neg e]

/-! ### A told text -/
/-- A text, what is answered, how many objects are made, and those of them that are told. -/
structure ToldT where
  text : List UInt8
  ans : AV
  n : Nat
  objs : List (Nat × AObj)
def findT (t : List UInt8) : List ToldT → Option ToldT
  | [] => none
  | x :: r => bif sBeq x.text t then some x else findT t r
noncomputable def toldPrim (l : List ToldT) : List AV → AHeap → Option (Out × AHeap)
  | [.str t], h => match findT t l with
    | some x => some (.ret (shV h.next x.ans), setL h.next x.objs (fillD x.n h))
    | none => none
  | _, _ => none
def aBeqE : List (AV × AV) → List (AV × AV) → Bool
  | [], [] => true
  | a :: r, b :: s => AV.beq a.1 b.1 && (AV.beq a.2 b.2 && aBeqE r s)
  | _, _ => false
theorem aBeqE_eq : ∀ {a b : List (AV × AV)}, aBeqE a b = true → a = b
  | [], [], _ => rfl
  | a :: r, b :: s, h => by
    simp only [aBeqE, Bool.and_eq_true] at h
    have h1 := (AV.beq_iff _ _).1 h.1
    have h2 := (AV.beq_iff _ _).1 h.2.1
    rw [aBeqE_eq h.2.2]
    obtain ⟨a1, a2⟩ := a
    obtain ⟨b1, b2⟩ := b
    simp only at h1 h2
    rw [h1, h2]
  | [], _ :: _, h => by cases h
  | _ :: _, [], h => by cases h
def oBeq : Option AObj → AObj → Bool
  | some (.cells a b c), .cells a' b' c' => (a == a') && (Nat.beq b b' && AV.beqs c c')
  | some (.map e), .map e' => aBeqE e e'
  | _, _ => false
theorem oBeq_eq {a : Option AObj} {b : AObj} (h : oBeq a b = true) : a = some b := by
  unfold oBeq at h
  split at h
  · simp only [Bool.and_eq_true, beq_iff_eq] at h
    rw [h.1, Nat.eq_of_beq_eq_true h.2.1, (AV.beqs_iff _ _).1 h.2.2]
  · rw [aBeqE_eq h]
  · cases h
noncomputable def allObjs (h : AHeap) : List (Nat × AObj) → Bool
  | [] => true
  | x :: r => oBeq (h.get x.1) x.2 && allObjs h r
theorem allObjs_mem {h : AHeap} : ∀ {l : List (Nat × AObj)}, allObjs h l = true → ∀ x ∈ l, h.get x.1 = some x.2
  | [], _, x, hx => by cases hx
  | y :: r, h1, x, hx => by
    simp only [allObjs, Bool.and_eq_true] at h1
    rcases List.mem_cons.1 hx with rfl | hx
    · exact oBeq_eq h1.1
    · exact allObjs_mem h1.2 x hx
/-- A run answers as told. -/
noncomputable def toldOk (x : ToldT) : Option (Out × AHeap) → Bool
  | some (.ret v, h) => AV.beq v x.ans && (Nat.beq h.next x.n && allObjs h x.objs)
  | _ => false
theorem toldOk_spec {x : ToldT} {r : Option (Out × AHeap)} (h : toldOk x r = true) : ∃ h1, r = some (.ret x.ans, h1) ∧ h1.next = x.n ∧ ∀ y ∈ x.objs, h1.get y.1 = some y.2 := by
  unfold toldOk at h
  split at h
  · rename_i v h1
    simp only [Bool.and_eq_true] at h
    exact ⟨h1, by rw [(AV.beq_iff _ _).1 h.1], Nat.eq_of_beq_eq_true h.2.1, allObjs_mem h.2.2⟩
  · cases h
theorem findT_mem {t : List UInt8} : ∀ {l : List ToldT} {x : ToldT}, findT t l = some x → x ∈ l ∧ x.text = t
  | [], x, h => by cases h
  | y :: r, x, h => by
    simp only [findT] at h
    cases hb : sBeq y.text t with
    | true =>
      rw [hb] at h
      injection h with h
      subst h
      have := sBeq_eq y.text t
      rw [hb] at this
      exact ⟨by simp, by simpa using this.symm⟩
    | false =>
      rw [hb] at h
      have := findT_mem h
      exact ⟨by simp [this.1], this.2⟩
/-- What a run from the empty heap leaves. -/
structure RelB (ι1 : Inj) (h1 : AHeap) (w w' : World) : Prop where
  obj : ∀ i L, ι1 i = some L → ∃ o, h1.get i = some o ∧ ORel ι1 o L w'
  dis : ∀ i j Li Lj oi oj, i ≠ j → ι1 i = some Li → ι1 j = some Lj → h1.get i = some oi → h1.get j = some oj → oi.owned = true → oj.gone = false → Li.b ≠ Lj.b
  lt : ∀ i L, ι1 i = some L → i < h1.next
  fresh : ∀ i, h1.next ≤ i → h1.get i = none
  bnd : ∀ i L, ι1 i = some L → L.b < w'.heap.size
  new : ∀ i L, ι1 i = some L → w.heap.size ≤ L.b
  blk : ∀ b, b < w.heap.size → w'.heap[b]? = w.heap[b]?
  size : w.heap.size ≤ w'.heap.size
  os : w'.os = w.os
  tape : w'.tape = w.tape
  output : w'.output = w.output
theorem told_core {E : Env} {m : Nat} (hE : E.Ok) (hp : ∀ w, @PrimOk ⟨w⟩ E) {k : FuncId} {t : List UInt8} {v : AV} {h1 : AHeap} (hrun : (mach E m).call k [.str t] noHeap = some (.ret v, h1)) (w : World) :
    Calls E.P k #[.string ⟨t.toArray⟩] w fun e w' => ∃ ι1, RelB ι1 h1 w w' ∧ ∃ y, e = .returned y ∧ VRel ι1 v y := by
  letI : Base := ⟨w⟩
  refine (run_calls hE (hp w) hrun noHeap_rel (VsRel.cons (.str _) (VsRel.nil _))).mono fun e w' ⟨ι1, e1, o1⟩ => ?_
  refine ⟨ι1, ⟨e1.rel.obj, e1.rel.dis, e1.rel.lt, e1.rel.fresh, e1.rel.bnd, fun i L hi => ?_, fun b hb => (e1.frame b hb (fun ⟨i, L, o, hi, _⟩ => by cases hi)).1, e1.size, e1.os, e1.tape, e1.output⟩, ?_⟩
  · rcases e1.new i L hi with h | h | ⟨i, L, o, h, _⟩
    · cases h
    · exact h
    · cases h
  · match e, o1 with
    | .returned y, o1 => exact ⟨y, rfl, o1⟩
variable [Base]
theorem toldPrim_ok {E : Env} {m : Nat} (hE : E.Ok) {k : FuncId} {l : List ToldT} (hr : ∀ x ∈ l, toldOk x ((machK E m).call k [.str x.text] noHeap) = true) (hp : ∀ w, @PrimOk ⟨w⟩ E)
    {args : List AV} {h : AHeap} {out : Out} {h' : AHeap} {ι : Inj} {w : World} {args' : Array Value} (hf : toldPrim l args h = some (out, h')) (hH : HRel ι h w) (hv : VsRel ι args args'.toList) :
    CallsIn Fence.wide 0 E.P k args' w fun e w' => ∃ ι', Ext ι h w ι' h' w' ∧ OutRel ι' out e := by
  unfold toldPrim at hf
  split at hf
  · rename_i t
    split at hf
    · rename_i x hx
      simp only [Option.some.injEq, Prod.mk.injEq] at hf
      obtain ⟨rfl, rfl⟩ := hf
      obtain ⟨hm, rfl⟩ := findT_mem hx
      obtain ⟨y, ys, e1, h1, hr1⟩ := hv.inv
      have := hr1.inv_nil
      subst this
      cases h1
      have e : args' = #[.string ⟨x.text.toArray⟩] := by apply Array.ext'; simpa using e1
      have hrun := hr x hm
      rw [machK_eq] at hrun
      obtain ⟨h1, hrun, hn, hob⟩ := toldOk_spec hrun
      rw [e]
      refine callsIn_wide.2 ?_
      refine (told_core hE hp hrun w).mono ?_
      rintro _ w' ⟨ι1, e1, y, rfl, o1⟩
      have hblk := e1.blk
      have hnew := e1.new
      have hlt1 : ∀ i L, ι1 i = some L → i < x.n := fun i L hi => by rw [← hn]; exact e1.lt i L hi
      obtain ⟨ι', hι'⟩ : ∃ ι' : Inj, ∀ i, ι' i = if i < h.next then ι i else if i < h.next + x.n then ι1 (i - h.next) else none := ⟨_, fun _ => rfl⟩
      have hle : ι.le ι' := fun i L hi => by rw [hι', if_pos (hH.lt i L hi)]; exact hi
      have hsh : ∀ i L, ι1 i = some L → ι' (h.next + i) = some L := fun i L hi => by
        rw [hι', if_neg (by omega), if_pos (by have := hlt1 i L hi; omega), show h.next + i - h.next = i by omega]; exact hi
      have hcase : ∀ i L, ι' i = some L → (i < h.next ∧ ι i = some L) ∨ (∃ j, i = h.next + j ∧ j < x.n ∧ ι1 j = some L) := fun i L hi => by
        rw [hι'] at hi
        split at hi
        · rename_i hlt; exact .inl ⟨hlt, hi⟩
        · split at hi
          · exact .inr ⟨i - h.next, by omega, by omega, hi⟩
          · cases hi
      have hold : ∀ i, i < h.next → (setL h.next x.objs (fillD x.n h)).get i = h.get i := fun i hi => by
        rcases setL_get h.next x.objs (fillD x.n h) i with ⟨y, _, h2, _⟩ | h2
        · omega
        · rw [h2, fillD_get, if_neg (by omega)]
      have hnw : ∀ j, j < x.n → ∃ o, (setL h.next x.objs (fillD x.n h)).get (h.next + j) = some o ∧ (o = .dead ∨ ∃ o', h1.get j = some o' ∧ o = shO h.next o') := fun j hj => by
        rcases setL_get h.next x.objs (fillD x.n h) (h.next + j) with ⟨y, g1, g2, g3⟩ | g2
        · refine ⟨_, g3, .inr ⟨y.2, ?_, rfl⟩⟩
          have : j = y.1 := by omega
          rw [this]; exact hob y g1
        · refine ⟨.dead, ?_, .inl rfl⟩
          rw [g2, fillD_get, if_pos (by omega)]
      have hnx : (setL h.next x.objs (fillD x.n h)).next = h.next + x.n := by rw [setL_next, fillD_next]
      refine ⟨ι', ⟨⟨?_, ?_, ?_, ?_, ?_, ?_⟩, ?_, ?_, ?_, e1.size, ?_, e1.os, e1.tape, e1.output, ?_⟩, ?_⟩
      · intro i L hi
        rcases hcase i L hi with ⟨hlt, h2⟩ | ⟨j, rfl, hj, h2⟩
        · obtain ⟨o, h3, h4⟩ := hH.obj i L h2
          exact ⟨o, (hold i hlt).trans h3, (h4.block (hblk _ (hH.bnd i L h2))).mono hle⟩
        · obtain ⟨o, h3, h4⟩ := hnw j hj
          refine ⟨o, h3, ?_⟩
          rcases h4 with rfl | ⟨o', h5, rfl⟩
          · trivial
          · obtain ⟨o2, h6, h7⟩ := e1.obj j L h2
            rw [h5] at h6
            injection h6 with h6
            subst h6
            exact h7.sh hsh
      · intro i j Li Lj oi oj hne hi hj gi gj how hgo
        rcases hcase i Li hi with ⟨hlt, h2⟩ | ⟨i, rfl, hi', h2⟩ <;> rcases hcase j Lj hj with ⟨hlt', h3⟩ | ⟨j, rfl, hj', h3⟩
        · rw [hold i hlt] at gi
          rw [hold j hlt'] at gj
          exact hH.dis i j Li Lj oi oj hne h2 h3 gi gj how hgo
        · have := hH.bnd i Li h2
          have := hnew j Lj h3
          omega
        · have := hH.bnd j Lj h3
          have := hnew i Li h2
          omega
        · obtain ⟨o, g1, g2⟩ := hnw i hi'
          obtain ⟨o', g3, g4⟩ := hnw j hj'
          rw [g1] at gi
          rw [g3] at gj
          injection gi with gi
          injection gj with gj
          subst gi gj
          rcases g2 with rfl | ⟨p, g5, rfl⟩
          · cases how
          · rcases g4 with rfl | ⟨q, g6, rfl⟩
            · cases hgo
            · exact e1.dis i j Li Lj p q (fun e => hne (by rw [e])) h2 h3 g5 g6 (shO_owned _ _ how) (shO_gone _ _ hgo)
      · intro i L hi
        rw [hnx]
        rcases hcase i L hi with ⟨hlt, h2⟩ | ⟨j, rfl, hj, h2⟩ <;> omega
      · intro i hi
        rw [hnx] at hi
        rcases setL_get h.next x.objs (fillD x.n h) i with ⟨y, g1, g2, g3⟩ | g2
        · have g4 := hob y g1
          have : y.1 < h1.next := by
            apply Nat.lt_of_not_le
            intro hge
            rw [e1.fresh _ hge] at g4
            cases g4
          omega
        · rw [g2, fillD_get, if_neg (by omega)]
          exact hH.fresh i (by omega)
      · intro i L hi
        rcases hcase i L hi with ⟨hlt, h2⟩ | ⟨j, rfl, hj, h2⟩
        · exact Nat.lt_of_lt_of_le (hH.bnd i L h2) e1.size
        · exact e1.bnd j L h2
      · refine ⟨Nat.le_trans hH.base.size e1.size, fun b hb => (hblk b (Nat.lt_of_lt_of_le hb hH.base.size)).trans (hH.base.old b hb), e1.os.trans hH.base.os, fun i L o hi hg how => ?_⟩
        rcases hcase i L hi with ⟨hlt, h2⟩ | ⟨j, rfl, hj, h2⟩
        · rw [hold i hlt] at hg
          exact hH.base.own i L o h2 hg how
        · exact Nat.le_trans hH.base.size (hnew j L h2)
      · intro i hi; rw [hι', if_pos hi]
      · intro i hi _; exact hold i hi
      · rw [hnx]; omega
      · intro b hb hnown
        refine ⟨hblk b hb, ?_⟩
        rintro ⟨i, L, o, g1, g2, g3, g4⟩
        rcases hcase i L g1 with ⟨hlt, h2⟩ | ⟨j, rfl, hj, h2⟩
        · rw [hold i hlt] at g2
          exact hnown ⟨i, L, o, h2, g2, g3, g4⟩
        · have := hnew j L h2
          omega
      · intro i L hi
        rcases hcase i L hi with ⟨hlt, h2⟩ | ⟨j, rfl, hj, h2⟩
        · exact .inl h2
        · exact .inr (.inl (hnew j L h2))
      · exact VRel.sh hsh o1
    · cases hf
  · cases hf
end Go.Am
