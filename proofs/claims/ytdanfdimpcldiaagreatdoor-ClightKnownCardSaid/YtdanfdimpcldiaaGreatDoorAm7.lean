/-
  Proves that equality tests of the abstract machine stand for the model's. Each theorem states its own conditions; there are no others.
-/
import Derived.Test.YtdanfdimpcldiaaGreatDoorAm6
set_option linter.unusedSimpArgs false
set_option linter.unusedVariables false
set_option linter.unusedVariables false
set_option linter.unusedSectionVars false
namespace Go.Am
variable [Base]
variable {E : Env} {ι : Inj} {h h' : AHeap} {w : World} {rg : T AV} {a : Act} {o : Oper} {r : ORes}

theorem VRel.ptr_inv {i off : Nat} {v : Value} (h : VRel ι (.ptr (some (i, off))) v) : ∃ L, ι i = some L ∧ v = .pointer (some ⟨L.b, L.base + off, none⟩) := by
  cases h with | ptr h => exact ⟨_, h, rfl⟩

/-- 'len' copies of the zero cells. -/
theorem replicate_cells {z : Array Value} {zl : List AV} {len s : Nat} (hz : VsRel ι zl z.toList) (hs : zl.length = s + 1) :
    VsRel ι (List.replicate len zl).flatten ((Array.range (len * (s + 1))).map (fun i => z[i % z.size]!)).toList := by
  have hzs : z.size = s + 1 := by have := hz.1; simp at this; omega
  refine ⟨by simp [hs], fun i x y hx hy => ?_⟩
  have key : ∀ (len i : Nat) (x : AV), ((List.replicate len zl).flatten)[i]? = some x → zl[i % (s + 1)]? = some x ∧ i < len * (s + 1) := by
    intro len
    induction len with
    | zero => intro i x h; simp at h
    | succ n ih =>
      intro i x h
      rw [List.replicate_succ, List.flatten_cons, List.getElem?_append] at h
      split at h
      · rename_i hlt
        rw [hs] at hlt
        refine ⟨by rw [Nat.mod_eq_of_lt hlt]; exact h, ?_⟩
        have : s + 1 ≤ (n + 1) * (s + 1) := Nat.le_mul_of_pos_left _ (by omega)
        omega
      · rename_i hlt
        rw [hs] at hlt h
        obtain ⟨h1, h2⟩ := ih _ _ h
        have hmod : i % (s + 1) = (i - (s + 1)) % (s + 1) := by
          conv => lhs; rw [show i = (i - (s + 1)) + (s + 1) from by omega]
          rw [Nat.add_mod_right]
        refine ⟨by rw [hmod]; exact h1, ?_⟩
        rw [Nat.add_mul]; omega
  obtain ⟨h1, h2⟩ := key _ _ _ hx
  rw [Array.toList_map, List.getElem?_map] at hy
  simp [h2] at hy
  have hm : i % (s + 1) < s + 1 := Nat.mod_lt _ (by omega)
  rw [hzs] at hy
  refine hz.2 _ _ _ h1 ?_
  rw [← hy]
  simp [hzs, hm, getElem!_pos]

theorem foldl_size (f : Value × Nat → Nat) (g : Value × Nat → Value) : ∀ (l : List (Value × Nat)) (c : Array Value), (l.foldl (fun cs x => cs.setIfInBounds (f x) (g x)) c).size = c.size
  | [], c => rfl
  | x :: l, c => by simp only [List.foldl_cons]; rw [foldl_size f g l]; simp
theorem fill_size (place : Nat → Option (Nat × Nat)) : ∀ (qs : List (Nat × Value)) {c c' : Array Value}, Instr.fill place c qs = some c' → c'.size = c.size
  | [], c, c', h => by simp [Instr.fill] at h; rw [h]
  | (j, u) :: qs, c, c', h => by
    simp only [Instr.fill] at h
    split at h
    · simp at h
    · split at h
      · simp at h
      · rw [fill_size place qs h, ← Array.foldl_toList]
        exact foldl_size _ _ _ _

theorem op_buildSlice (hE : E.Ok) (hR : RegRel ι rg a.tmps) (hH : HRel ι h w) {t : TypeId} {len : Nat} {parts : Array (Nat × Operand)} (ho : o.op = .buildSlice t len parts) (hop : opA E rg h o = some (r, h')) :
    OpPost ι h w r h' ((execOp a.eval o).run E.P w) := by
  simp only [opA, ho] at hop
  split at hop
  · rename_i e ps hu hps
    split at hop
    · rename_i s z hs hz
      split at hop
      · rename_i hc
        obtain ⟨hlen, hs1, hzl⟩ := hc
        split at hop
        · rename_i cs hf
          simp at hop; obtain ⟨rfl, rfl⟩ := hop
          obtain ⟨zv, hzr, hzv, _, _⟩ := zero_run hE hz w
          obtain ⟨h1, h2⟩ := evParts_rel hR hps
          have hzrel := toAVs_rel ι hzv
          have hrep := replicate_cells (len := len) hzrel hzl
          obtain ⟨c', hc', hv'⟩ := fill_sound (ι := ι) (qs := parts.toList.map fun (p : Nat × Operand) => (p.1, a.eval p.2)) h2 (by simpa using h1) hrep hf
          obtain ⟨hcc, hcl⟩ := rel_cells hv'
          have hcs : c'.size = len * (s + 1) := by
            rw [fill_size _ _ hc']; simp
          have hle : len * (s + 1) ≤ 16777216 := by
            have : len * (s + 1) ≤ 1000 * 1001 := Nat.mul_le_mul hlen (by omega)
            omega
          refine .val (y := .slice (some ⟨w.heap.size, 0, none⟩) len len) (w' := w.alloc (.cells c' e)) (ι' := ι.add h.next ⟨w.heap.size, 0, c'.size, s + 1, true⟩) ?_ ?_ (new_cells hH rfl rfl rfl rfl true (s + 1) e hcc hcl)
          · have hn : ¬ (16777216 < len * (s + 1)) := by omega
            simp only [execOp, ho, Instr.buildSlice, Sem.run_bind, und_run hE hu, Result.andThen_ok, sizeOf_run hE hs]
            by_cases h0 : len * (s + 1) = 0
            · have hl0 : len = 0 := by
                rcases Nat.mul_eq_zero.1 h0 with h | h <;> omega
              subst hl0
              have e1 : (Array.range (0 * (s + 1))).map (fun i => zv.cells[i % zv.cells.size]!) = #[] := by simp
              rw [e1] at hc'
              have hc2 : Instr.fill (fun i => some (i * (s + 1), s + 1)) #[] (parts.toList.map fun (p : Nat × Operand) => (p.1, a.eval p.2)) = some c' := hc'
              have e2 : Array.map (fun _ : Nat => (default : Value)) (Array.range 0) = #[] := by apply Array.ext'; simp [Array.toList_range]
              simp [hc2, newRow, e2]
            · simp [hn, h0, hzr, hc', newRow]
          · refine .slice (off := 0) (L := ⟨w.heap.size, 0, c'.size, s + 1, true⟩) (Inj.add_same _ _ _) (Nat.le_refl _) (fun _ _ => ?_)
            simp [hcs]
        · simp at hop
      · simp at hop
    · simp at hop
  · simp at hop

theorem op_load (hE : E.Ok) (hR : RegRel ι rg a.tmps) (hH : HRel ι h w) {t : TypeId} {x : Operand} (ho : o.op = .load t x) (hop : opA E rg h o = some (r, h')) :
    OpPure ι h w r h' ((execOp a.eval o).run E.P w) := by
  simp only [opA, ho] at hop
  split at hop
  · rename_i i off hv
    obtain ⟨L, hL, hx⟩ := (evA_rel hR hv).ptr_inv
    split at hop
    · rename_i n hag hs
      split at hop
      · rename_i cs hcs
        simp at hop; obtain ⟨rfl, rfl⟩ := hop
        obtain ⟨hn, ys, hrel, hcell⟩ := loadCells_sound hH hL hcs
        have hl := run_loadCells_list (P := E.P) w _ ys hcell
        have hyl : ys.length = n := by rw [← hrel.1]; exact hn
        rw [hyl] at hl
        refine .pure hH (y := .agg ys.toArray) ?_ (.agg' (by simpa using hrel))
        simp [execOp, ho, hx, Instr.loadAt, Instr.sureAddr, loadVar, isAgg_run hE hag, sizeOf_run hE hs, hl]
      · simp at hop
    · rename_i n hag hs
      split at hop
      · rename_i v hv'
        simp at hop; obtain ⟨rfl, rfl⟩ := hop
        obtain ⟨y, hy, hr⟩ := load1_sound hH hL hv'
        refine .pure hH (y := y) ?_ hr
        simp [execOp, ho, hx, Instr.loadAt, Instr.sureAddr, loadVar, isAgg_run hE hag, hy]
      · simp at hop
    · simp at hop
  · simp at hop

theorem op_store (hE : E.Ok) (hR : RegRel ι rg a.tmps) (hH : HRel ι h w) {t : TypeId} {x y : Operand} (ho : o.op = .store t x y) (hop : opA E rg h o = some (r, h')) :
    OpPost ι h w r h' ((execOp a.eval o).run E.P w) := by
  simp only [opA, ho] at hop
  split at hop
  · rename_i i off v hv hv'
    obtain ⟨L, hL, hx⟩ := (evA_rel hR hv).ptr_inv
    split at hop
    · rename_i hs
      split at hop
      · rename_i h1 hst
        simp at hop; obtain ⟨rfl, rfl⟩ := hop
        have hc := (evA_rel hR hv').cells
        obtain ⟨w', hw', he⟩ := storeCells_sound hH hL hst hc E.P
        have hsz : (a.eval y).cells.size = v.cells.length := by have := hc.1; simp at this; omega
        have hrun : (execOp a.eval o).run E.P w = .ok .skip w' := by
          simp [execOp, ho, hx, Instr.storeAt, Instr.sureAddr, storeVar, sizeOf_run hE hs.symm, hsz, hw']
        rw [hrun]
        exact ⟨ι, rfl, he⟩
      · simp at hop
    · simp at hop
  · simp at hop

theorem op_nilCheck (hR : RegRel ι rg a.tmps) (hH : HRel ι h w) {x : Operand} (ho : o.op = .nilCheck x) (hop : opA E rg h o = some (r, h')) :
    OpPure ι h w r h' ((execOp a.eval o).run E.P w) := by
  simp only [opA, ho] at hop
  split at hop
  · rename_i p hv
    simp at hop; obtain ⟨rfl, rfl⟩ := hop
    obtain ⟨L, hL, hx⟩ := (evA_rel hR hv).ptr_inv
    refine .pure hH (y := a.eval x) ?_ (evA_rel hR hv)
    simp [execOp, ho, hx]
  · rename_i f cs hv
    simp at hop; obtain ⟨rfl, rfl⟩ := hop
    have hr := evA_rel hR hv
    refine .pure hH (y := a.eval x) ?_ hr
    cases he : a.eval x <;> rw [he] at hr <;> cases hr
    simp [execOp, ho, he]
  · rename_i l hv
    simp at hop; obtain ⟨rfl, rfl⟩ := hop
    have hr := evA_rel hR hv
    refine .pure hH (y := a.eval x) ?_ hr
    cases he : a.eval x <;> rw [he] at hr <;> cases hr
    simp [execOp, ho, he]
  · simp at hop
end Go.Am
