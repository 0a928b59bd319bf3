/-
  Proves that a region whose order is drawn may be told with its operations in another order. Each theorem states its own conditions; there are no others.
-/
import Derived.Test.YtdanfdimpcldiaaGreatDoorAm16
set_option linter.unusedSimpArgs false
set_option linter.unusedVariables false
set_option linter.unusedVariables false
set_option linter.unusedSimpArgs false
namespace Go.Am

theorem idxIn_le : ∀ (p : List Nat) (i : Nat), idxIn p i ≤ p.length
  | [], _ => by simp [idxIn]
  | x :: r, i => by
    simp only [idxIn]; split
    · simp
    · have := idxIn_le r i; simp; omega
theorem idxIn_get : ∀ {p : List Nat} {i : Nat}, i ∈ p → p[idxIn p i]? = some i
  | x :: r, i, h => by
    simp only [idxIn]
    by_cases e : x = i
    · simp [e]
    · rw [if_neg e]
      have : i ∈ r := by rcases List.mem_cons.1 h with h | h; exact absurd h.symm e; exact h
      simpa using idxIn_get this
theorem idxIn_of_get : ∀ {p : List Nat} (_ : p.Nodup) {k i : Nat}, p[k]? = some i → idxIn p i = k
  | x :: r, hn, 0, i, h => by simp at h; subst h; simp [idxIn]
  | x :: r, hn, k + 1, i, h => by
    simp at h
    have hm := List.mem_of_getElem? h
    have hne : x ≠ i := fun e => by subst e; exact (List.nodup_cons.1 hn).1 hm
    simp only [idxIn, if_neg hne]
    rw [idxIn_of_get (List.nodup_cons.1 hn).2 h]
theorem idxIn_out : ∀ {p : List Nat} {i : Nat}, i ∉ p → idxIn p i = p.length
  | [], i, h => rfl
  | x :: r, i, h => by
    have hne : x ≠ i := fun e => h (by simp [e])
    simp only [idxIn, if_neg hne]
    rw [idxIn_out fun hm => h (by simp [hm])]; rfl

theorem noDup_spec : ∀ {p : List Nat}, noDup p = true → p.Nodup
  | [], _ => by simp
  | x :: r, h => by
    simp [noDup] at h
    exact List.nodup_cons.2 ⟨h.1, noDup_spec h.2⟩

section
variable {ops : Array Oper} {p : List Nat}

theorem permOk_all (h : permOk ops p = true) : p.length = ops.size ∧ p.Nodup ∧ ∀ i ∈ p, i < ops.size := by
  simp [permOk] at h
  exact ⟨h.1.1.1, noDup_spec h.1.1.2, h.1.2⟩
theorem perm_mem (h : permOk ops p = true) {i : Nat} (hi : i < ops.size) : i ∈ p := by
  simp [permOk] at h
  exact h.2 i hi
theorem permOps_get (h : permOk ops p = true) (k : Nat) : (permOps ops p)[k]? = (p[k]?).bind fun i => (ops[i]?).map (renOper p) := by
  obtain ⟨h1, h2, h3⟩ := permOk_all h
  have gen : ∀ (l : List Nat) (k : Nat), (∀ i ∈ l, i < ops.size) → (l.filterMap fun i => (ops[i]?).map (renOper p))[k]? = (l[k]?).bind fun i => (ops[i]?).map (renOper p) := by
    intro l
    induction l with
    | nil => intro k _; simp
    | cons x r ih =>
      intro k hl
      have hx : x < ops.size := hl x (by simp)
      simp only [List.filterMap_cons, Array.getElem?_eq_getElem hx, Option.map_some]
      cases k with
      | zero => simp [Array.getElem?_eq_getElem hx]
      | succ k => simpa using ih k fun i hi => hl i (by simp [hi])
  simpa [permOps] using gen p k h3
theorem permOps_size (h : permOk ops p = true) : (permOps ops p).size = ops.size := by
  obtain ⟨h1, h2, h3⟩ := permOk_all h
  have gen : ∀ (l : List Nat), (∀ i ∈ l, i < ops.size) → (l.filterMap fun i => (ops[i]?).map (renOper p)).length = l.length := by
    intro l
    induction l with
    | nil => intro _; simp
    | cons x r ih =>
      intro hl
      have hx : x < ops.size := hl x (by simp)
      simp only [List.filterMap_cons, Array.getElem?_eq_getElem hx, Option.map_some, List.length_cons, ih fun i hi => hl i (by simp [hi])]
  simp [permOps, gen p h3, h1]
/-- The operation at a new place. -/
theorem permOps_at (h : permOk ops p = true) {i : Nat} (hi : i < ops.size) : (permOps ops p)[idxIn p i]? = (ops[i]?).map (renOper p) := by
  rw [permOps_get h, idxIn_get (perm_mem h hi)]; rfl
theorem permOps_out (h : permOk ops p = true) {i : Nat} (hi : ¬ i < ops.size) : (permOps ops p)[idxIn p i]? = none := by
  obtain ⟨h1, h2, h3⟩ := permOk_all h
  rw [idxIn_out fun hm => hi (h3 i hm)]
  rw [Array.getElem?_eq_none]; rw [permOps_size h, h1]; exact Nat.le_refl _
theorem yielded_perm (h : permOk ops p = true) (tm : Array Value) (i : Nat) : yielded (permOps ops p) tm (idxIn p i) = yielded ops tm i := by
  unfold yielded
  by_cases hi : i < ops.size
  · rw [permOps_at h hi]
    cases ops[i]? <;> rfl
  · rw [permOps_out h hi, Array.getElem?_eq_none (by omega)]

variable {F : Fence} {n : Nat} {P : Program} {Q : Exit → Act → World → Prop}

theorem wpOpIn_perm (h : permOk ops p = true) {i : Nat} {K K' : Act → World → Prop} (hK : ∀ a w, K a w → K' a w) {a : Act} {w : World} (hw : wpOpIn F n P (permOps ops p) Q (idxIn p i) K a w) : wpOpIn F n P ops Q i K' a w := by
  by_cases hi : i < ops.size
  · unfold wpOpIn at hw ⊢
    rw [permOps_at h hi] at hw
    rw [Array.getElem?_eq_getElem hi] at hw ⊢
    simp only [Option.map_some] at hw ⊢
    have e1 : Region.wanted (renOper p ops[i]) (yielded (permOps ops p) a.tmps) = Region.wanted ops[i] (yielded ops a.tmps) := by
      unfold Region.wanted renOper
      cases hg : ops[i].guard with
      | none => simp
      | some g => obtain ⟨j, b⟩ := g; simp [yielded_perm h]
    rw [e1] at hw
    split at hw
    · rename_i hc; rw [if_pos hc]; exact Oper.wpIn_mono (o := ops[i]) hK hw
    · rename_i hc; rw [if_neg hc]; exact ⟨hw.1, hK _ _ hw.2⟩
  · unfold wpOpIn at hw ⊢
    rw [permOps_out h hi] at hw
    rw [Array.getElem?_eq_none (by omega)]
    exact hK _ _ hw

theorem getD_in {l : Array Bool} {i : Nat} (h : i < l.size) (d : Bool) : l.getD i d = l[i] := by simp [Array.getD, h]
theorem getD_tf {l : Array Bool} {i : Nat} (h : i < l.size) : l.getD i true = l.getD i false := by simp [Array.getD, h]
theorem getD_out {l : Array Bool} {i : Nat} (h : ¬ i < l.size) (d : Bool) : l.getD i d = d := by simp [Array.getD, h]

theorem ready_perm (h : permOk ops p = true) {l l' : Array Bool} (hs : l.size = ops.size) (hs' : l'.size = ops.size) (hl : ∀ i, i < ops.size → l'.getD (idxIn p i) false = l.getD i false) {i : Nat} :
    i ∈ Region.ready .any ops l → idxIn p i ∈ Region.ready .any (permOps ops p) l' := by
  obtain ⟨h1, h2, h3⟩ := permOk_all h
  have hlt : ∀ {j}, j < ops.size → idxIn p j < ops.size := fun {j} hj => by
    have := idxIn_get (perm_mem h hj)
    have := (List.getElem?_eq_some_iff.1 this).1; omega
  intro hi
  obtain ⟨g1, o, ho, g2⟩ := mem_ready.1 hi
  have hin := (Array.getElem?_eq_some_iff.1 ho).1
  refine mem_ready.2 ⟨?_, renOper p o, by rw [permOps_at h hin, ho]; rfl, ?_⟩
  · rw [getD_tf (by rw [hs']; exact hlt hin), hl i hin, ← getD_tf (by rw [hs]; exact hin)]; exact g1
  · intro e he hb
    simp only [renOper, Array.mem_map] at he
    obtain ⟨e0, he0, rfl⟩ := he
    have hb0 : Region.binds .any e0 = true := hb
    have := g2 e0 he0 hb0
    by_cases hj : e0.on < ops.size
    · rw [hl _ hj]; exact this
    · rw [getD_out (by omega)] at this; cases this

theorem wpAnyIn_perm (h : permOk ops p = true) : ∀ (fuel : Nat) {l l' : Array Bool} {a : Act} {w : World}, l.size = ops.size → l'.size = ops.size → (∀ i, i < ops.size → l'.getD (idxIn p i) false = l.getD i false) →
    wpAnyIn F n P .any (permOps ops p) Q fuel l' a w → wpAnyIn F n P .any ops Q fuel l a w := by
  obtain ⟨h1, h2, h3⟩ := permOk_all h
  have hlt : ∀ {j}, j < ops.size → idxIn p j < ops.size := fun {j} hj => by
    have := idxIn_get (perm_mem h hj)
    have := (List.getElem?_eq_some_iff.1 this).1; omega
  have back : ∀ {l l' : Array Bool}, l.size = ops.size → l'.size = ops.size → (∀ i, i < ops.size → l'.getD (idxIn p i) false = l.getD i false) → Region.ready .any ops l = [] → Region.ready .any (permOps ops p) l' = [] := by
    intro l l' hs hs' hl hr
    refine List.eq_nil_iff_forall_not_mem.2 fun k hk => ?_
    obtain ⟨g1, o', ho', g2⟩ := mem_ready.1 hk
    have hkn : k < ops.size := by have := (Array.getElem?_eq_some_iff.1 ho').1; rw [permOps_size h] at this; exact this
    obtain ⟨i, hi⟩ : ∃ i, p[k]? = some i := ⟨p[k]'(by omega), by simp [h1, hkn]⟩
    have hin : i < ops.size := h3 i (List.mem_of_getElem? hi)
    have hki : idxIn p i = k := idxIn_of_get h2 hi
    have : i ∈ Region.ready .any ops l := by
      rw [permOps_get h, hi] at ho'
      simp only [Option.bind_some, Array.getElem?_eq_getElem hin, Option.map_some, Option.some.injEq] at ho'
      refine mem_ready.2 ⟨?_, ops[i], by simp [hin], fun e he hb => ?_⟩
      · rw [getD_tf (by rw [hs]; exact hin), ← hl i hin, hki, ← getD_tf (by rw [hs']; exact hkn)]; exact g1
      · have this : l'.getD (idxIn p e.on) false = true := g2 { e with on := idxIn p e.on } (by rw [← ho']; simp only [renOper, Array.mem_map]; exact ⟨e, he, rfl⟩) hb
        by_cases hj : e.on < ops.size
        · rw [hl _ hj] at this; exact this
        · have hno : ¬ idxIn p e.on < l'.size := by rw [hs', idxIn_out fun hm => hj (h3 _ hm), h1]; omega
          rw [getD_out hno] at this; cases this
    rw [hr] at this; cases this
  intro fuel
  induction fuel with
  | zero =>
    intro l l' a w hs hs' hl hw
    simp only [wpAnyIn] at hw ⊢
    refine ⟨?_, hw.2⟩
    refine List.eq_nil_iff_forall_not_mem.2 fun i hi => ?_
    have := ready_perm h hs hs' hl hi
    rw [hw.1] at this; cases this
  | succ fuel ih =>
    intro l l' a w hs hs' hl hw
    simp only [wpAnyIn] at hw ⊢
    refine ⟨fun hr => hw.1 (back hs hs' hl hr), fun i hi => ?_⟩
    have hin : i < ops.size := by obtain ⟨_, o, ho, _⟩ := mem_ready.1 hi; exact (Array.getElem?_eq_some_iff.1 ho).1
    refine wpOpIn_perm h (fun a' w' hk => ih (by simpa using hs) (by simpa using hs') (fun j hj => ?_) hk) (hw.2 _ (ready_perm h hs hs' hl hi))
    by_cases e : j = i
    · subst e
      simp [Array.getD, hs, hs', hin, hlt hin]
    · have hne : idxIn p j ≠ idxIn p i := fun e' => by
        have a1 := idxIn_get (perm_mem h hj)
        have a2 := idxIn_get (perm_mem h hin)
        rw [e', a2] at a1; cases a1; exact e rfl
      have := hl j hj
      simp only [Array.getD_eq_getD_getElem?] at this ⊢
      rw [Array.getElem?_setIfInBounds_ne (fun e' => hne e'.symm), Array.getElem?_setIfInBounds_ne (fun e' => e e'.symm)]
      exact this
end

variable {E : Env}
theorem permA_cases (ops : Array Oper) : permA E ops = ops ∨ ∃ p, permOk ops p = true ∧ permA E ops = permOps ops p := by
  unfold permA
  cases permNeeded E ops with
  | false => exact .inl rfl
  | true =>
    cases h : permOk ops (topo E ops ops.size ops.toList.zipIdx []) with
    | false => exact .inl rfl
    | true => exact .inr ⟨_, h, rfl⟩

theorem wpAnyIn_permA {F : Fence} {n : Nat} {P : Program} {Q : Exit → Act → World → Prop} {ops : Array Oper} {a : Act} {w : World}
    (hw : wpAnyIn F n P .any (permA E ops) Q (permA E ops).size (Array.replicate (permA E ops).size false) a w) : wpAnyIn F n P .any ops Q ops.size (Array.replicate ops.size false) a w := by
  rcases permA_cases (E := E) ops with h | ⟨p, hp, h⟩
  · rw [h] at hw; exact hw
  · rw [h, permOps_size hp] at hw
    refine wpAnyIn_perm hp ops.size (by simp) (by simp) (fun i hi => ?_) hw
    have : ∀ j, (Array.replicate ops.size false).getD j false = false := fun j => by
      by_cases hj : j < ops.size <;> simp [Array.getD, hj]
    rw [this, this]
end Go.Am
