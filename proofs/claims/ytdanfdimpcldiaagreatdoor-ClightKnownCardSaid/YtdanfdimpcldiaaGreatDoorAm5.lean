/-
  Proves that stores and moves of the abstract machine stand for the model's. Each theorem states its own conditions; there are no others.
-/
import Derived.Test.YtdanfdimpcldiaaGreatDoorAm4
set_option linter.unusedSimpArgs false
set_option linter.unusedVariables false
set_option linter.unusedSectionVars false
namespace Go.Am
variable [Base]
variable {E : Env} {ι : Inj} {h : AHeap} {w : World} {rg : T AV} {a : Act}

theorem sizeOf_run (hE : E.Ok) {t : TypeId} {n : Nat} (hs : E.siz t = some n) (w : World) : (sizeOf t).run E.P w = .ok n w := by
  obtain ⟨i, hi, hn⟩ := hE.siz t n hs
  simp [sizeOf, typeInfo, hi, hn]
theorem und_run (hE : E.Ok) {t : TypeId} {d : TypeDesc} (hs : E.und t = some d) (w : World) : (underlying t).run E.P w = .ok d w :=
  run_underlying (hE.und t d hs) w
theorem isAgg_run (hE : E.Ok) {t : TypeId} {b : Bool} (hs : E.isAgg t = some b) (w : World) : (isAgg t).run E.P w = .ok b w := by
  unfold Env.isAgg at hs
  unfold Go.isAgg
  split at hs <;> simp at hs <;> subst hs
  · rename_i fs hd; simp [und_run hE hd]
  · rename_i n e hd; simp [und_run hE hd]
  · rename_i d h1 h2 hd
    rw [Sem.run_bind, und_run hE hd]
    cases d <;> simp_all
theorem zero_run (hE : E.Ok) {t : TypeId} {l : List AV} (hz : E.zer t = some l) (w : World) : ∃ z, (zeroValue t).run E.P w = .ok z w ∧ toAVs z.cells.toList = some l ∧
    (E.isAgg t = some true → ∃ cs, z = .agg cs) ∧ (E.isAgg t = some false → z.oneCell' = true) := by
  obtain ⟨i, z, hi, hz, hl, ha, hb⟩ := hE.zer t l hz
  exact ⟨z, by simp [zeroValue, typeInfo, hi, hz], hl, ha, hb⟩
theorem toAVs_length : ∀ {vs : List Value} {l : List AV}, toAVs vs = some l → l.length = vs.length := fun hl => (toAVs_rel (fun _ => none) hl).1

/-- New cells. -/
theorem new_cells (hH : HRel ι h w) {w0 : World} (hh : w0.heap = w.heap) (hos : w0.os = w.os) (ht : w0.tape = w.tape) (ho : w0.output = w.output)
    (rw : Bool) (es : Nat) {cs : List AV} {c : Array Value} (e : TypeId) (hc : ∀ (i : Nat) (x : AV), cs[i]? = some x → ∃ y : Value, c[i]? = some y ∧ VRel ι x y) (hl : cs.length ≤ c.size) :
    Ext ι h w (ι.add h.next ⟨w.heap.size, 0, c.size, es, rw⟩) (h.alloc (.cells rw es cs)).2 (w0.alloc (.cells c e)) := by
  have hle : ι.le (ι.add h.next ⟨w.heap.size, 0, c.size, es, rw⟩) := fun i Li hi => by
    rw [Inj.add_other]; exact hi
    have := hH.lt i Li hi; omega
  refine hH.alloc hh hos ht ho _ _ _ rfl ⟨rfl, rfl, by simpa using hl, c, e, (0, 0), ?_, fun _ => ⟨rfl, rfl⟩, fun i x hx => ?_⟩
  · rw [← hh]; exact heap_alloc_new w0 _
  · obtain ⟨y, hy, hr⟩ := hc i x hx
    exact ⟨y, by simpa using hy, hr.mono hle⟩
theorem rel_cells {xs : List AV} {c : Array Value} (hv : VsRel ι xs c.toList) : (∀ (i : Nat) (x : AV), xs[i]? = some x → ∃ y : Value, c[i]? = some y ∧ VRel ι x y) ∧ xs.length ≤ c.size :=
  ⟨fun i x hx => let ⟨y, hy, hr⟩ := hv.get hx; ⟨y, by simpa using hy, hr⟩, by have := hv.1; simp at this; omega⟩
theorem VRel.new {ι : Inj} {n : Nat} {L : Loc} : VRel (ι.add n L) (.ptr (some (n, 0))) (.pointer (some ⟨L.b, L.base, none⟩)) :=
  .ptr (off := 0) (Inj.add_same ι n L)

theorem fill_sound {place : Nat → Option (Nat × Nat)} : ∀ {ps : List (Nat × AV)} {qs : List (Nat × Value)} {cs : List AV} {c : Array Value} {cs' : List AV},
    (∀ (i : Nat) x y, ps[i]? = some x → qs[i]? = some y → x.1 = y.1 ∧ VRel ι x.2 y.2) → ps.length = qs.length → VsRel ι cs c.toList → fillA place cs ps = some cs' →
    ∃ c', Instr.fill place c qs = some c' ∧ VsRel ι cs' c'.toList
  | [], [], cs, c, cs', _, _, hv, hf => by simp [fillA] at hf; subst hf; exact ⟨c, rfl, hv⟩
  | (i, v) :: ps, (j, u) :: qs, cs, c, cs', hp, hl, hv, hf => by
    obtain ⟨h1, h2⟩ := hp 0 _ _ rfl rfl
    simp only at h1 h2; subst h1
    simp only [fillA] at hf
    simp only [Instr.fill]
    cases hpl : place i with
    | none => simp [hpl] at hf
    | some os =>
      obtain ⟨off, size⟩ := os
      simp only [hpl] at hf ⊢
      split at hf
      · rename_i hc
        obtain ⟨hlen, hfit, hsc⟩ := hc
        have hcells := h2.cells
        have hul : u.cells.size = size := by have := hcells.1; simp at this; omega
        have hcl : c.size = cs.length := by have := hv.1; simp at this; omega
        rw [if_neg (by simp; omega)]
        refine fill_sound (fun k x y hx hy => hp (k + 1) x y (by simpa using hx) (by simpa using hy)) (by simpa using hl) ?_ hf
        have key : (u.cells.zipIdx.foldl (fun cs x => cs.setIfInBounds (off + x.2) x.1) c).toList = c.toList.take off ++ u.cells.toList ++ c.toList.drop (off + size) := by
          have gen : ∀ (l : List Value) (k : Nat) (c : Array Value), off + k + l.length ≤ c.size →
              ((l.zipIdx k).foldl (fun cs x => cs.setIfInBounds (off + x.2) x.1) c).toList = c.toList.take (off + k) ++ l ++ c.toList.drop (off + k + l.length) := by
            intro l
            induction l with
            | nil => intro k c _; simp
            | cons x l ih =>
              intro k c hk
              simp only [List.zipIdx_cons, List.foldl_cons]
              rw [ih (k + 1) _ (by simp at hk ⊢; omega)]
              have e := list_seg_step c.toList (off + k) x l (by simp at hk ⊢; omega)
              simpa [Array.toList_setIfInBounds, Nat.add_assoc] using e
          have := gen u.cells.toList 0 c (by simp; omega)
          rw [← Array.foldl_toList, Array.toList_zipIdx]
          simpa [hul] using this
        show VsRel ι _ ((u.cells.zipIdx.foldl (fun cs x => cs.setIfInBounds (off + x.2) x.1) c).toList)
        rw [key]
        exact ((hv.take off).append hcells).append (hv.drop _)
      · simp at hf
  | [], _ :: _, _, _, _, _, hl, _, _ => by simp at hl
  | _ :: _, [], _, _, _, _, hl, _, _ => by simp at hl

theorem evParts_rel (hR : RegRel ι rg a.tmps) : ∀ {xs : List (Nat × Operand)} {ps : List (Nat × AV)}, evParts rg xs = some ps →
    ps.length = xs.length ∧ ∀ (i : Nat) x y, ps[i]? = some x → (xs.map fun (p : Nat × Operand) => (p.1, a.eval p.2))[i]? = some y → x.1 = y.1 ∧ VRel ι x.2 y.2
  | [], ps, h => by simp [evParts] at h; subst h; simp
  | (k, x) :: r, ps, h => by
    simp only [evParts] at h
    split at h
    · rename_i u us hu hus
      simp at h; subst h
      obtain ⟨h1, h2⟩ := evParts_rel hR hus
      refine ⟨by simp [h1], fun i x y hx hy => ?_⟩
      cases i with
      | zero => simp at hx hy; subst hx; subst hy; exact ⟨rfl, evA_rel hR hu⟩
      | succ i => exact h2 i x y (by simpa using hx) (by simpa using hy)
    · simp at h

/-- The places of a struct's fields, as the model reckons them. -/
theorem places_run (hE : E.Ok) (w : World) : ∀ {fs : List Field} {pl : List (Nat × Nat)}, placesA E fs = some pl →
    (fs.mapM fun (f : Field) => (do pure (f.offset, ← sizeOf f.type) : Sem (Nat × Nat))).run E.P w = .ok pl w
  | [], pl, h => by simp [placesA] at h; subst h; simp
  | f :: r, pl, h => by
    simp only [placesA] at h
    split at h
    · rename_i s l hs hl
      simp at h; subst h
      have ih := places_run hE w hl
      simp at ih
      simp [sizeOf_run hE hs, ih]
    · simp at h
theorem placesM_run (hE : E.Ok) (w : World) {fs : Array Field} {pl : List (Nat × Nat)} (hp : placesA E fs.toList = some pl) :
    (fs.mapM fun (f : Field) => (do pure (f.offset, ← sizeOf f.type) : Sem (Nat × Nat))).run E.P w = .ok pl.toArray w := by
  rw [Array.mapM_eq_mapM_toList, Sem.run_map, places_run hE w hp]
  rfl
end Go.Am
