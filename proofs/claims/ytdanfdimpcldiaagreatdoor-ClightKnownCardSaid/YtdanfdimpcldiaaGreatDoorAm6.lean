/-
  Proves that integer and string operations of the abstract machine stand for the model's. Each theorem states its own conditions; there are no others.
-/
import Derived.Test.YtdanfdimpcldiaaGreatDoorAm5
set_option linter.unusedSimpArgs false
set_option linter.unusedVariables false
set_option linter.unusedSectionVars false
namespace Go.Am
variable [Base]
variable {E : Env} {ι : Inj} {h h' : AHeap} {w : World} {rg : T AV} {a : Act} {o : Oper} {r : ORes}

theorem op_move (hR : RegRel ι rg a.tmps) (hH : HRel ι h w) {x : Operand} (ho : o.op = .move x ∨ o.op = .assign x) (hop : opA E rg h o = some (r, h')) :
    OpPure ι h w r h' ((execOp a.eval o).run E.P w) := by
  have e : (execOp a.eval o).run E.P w = .ok (.value (a.eval x)) w := by rcases ho with ho | ho <;> simp [execOp, ho]
  have : opA E rg h o = match evA rg x with | some v => some (.val v, h) | none => none := by rcases ho with ho | ho <;> simp only [opA, ho] <;> rfl
  rw [this] at hop
  split at hop
  · rename_i v hv
    simp at hop; obtain ⟨rfl, rfl⟩ := hop
    exact .pure hH e (evA_rel hR hv)
  · simp at hop

theorem op_pick (hR : RegRel ι rg a.tmps) (hH : HRel ι h w) {c x y : Operand} (ho : o.op = .pick c x y) (hop : opA E rg h o = some (r, h')) :
    OpPure ι h w r h' ((execOp a.eval o).run E.P w) := by
  simp only [opA, ho] at hop
  split at hop
  · rename_i hc
    have hb := evA_rel hR hc
    cases hce : a.eval c <;> rw [hce] at hb <;> cases hb
    split at hop
    · rename_i v hv
      simp at hop; obtain ⟨rfl, rfl⟩ := hop
      exact .pure hH (by simp [execOp, ho, hce, asBool]) (evA_rel hR hv)
    · simp at hop
  · rename_i hc
    have hb := evA_rel hR hc
    cases hce : a.eval c <;> rw [hce] at hb <;> cases hb
    split at hop
    · rename_i v hv
      simp at hop; obtain ⟨rfl, rfl⟩ := hop
      exact .pure hH (by simp [execOp, ho, hce, asBool]) (evA_rel hR hv)
    · simp at hop
  · simp at hop

theorem op_alloc (hE : E.Ok) (hH : HRel ι h w) {t : TypeId} (ho : o.op = .alloc t) (hop : opA E rg h o = some (r, h')) :
    OpPost ι h w r h' ((execOp a.eval o).run E.P w) := by
  simp only [opA, ho] at hop
  split at hop
  · rename_i cs hz
    simp at hop; obtain ⟨rfl, rfl⟩ := hop
    obtain ⟨z, hzr, hzl, _, _⟩ := zero_run hE hz w
    obtain ⟨hc, hl⟩ := rel_cells (toAVs_rel ι hzl)
    exact .val (by simp [execOp, ho, Instr.alloc, hzr, newVar, newRow]) VRel.new (new_cells hH rfl rfl rfl rfl true 0 t hc hl)
  · simp at hop

theorem op_box (hE : E.Ok) (hR : RegRel ι rg a.tmps) (hH : HRel ι h w) {t : TypeId} {x : Operand} (ho : o.op = .box t x) (hop : opA E rg h o = some (r, h')) :
    OpPost ι h w r h' ((execOp a.eval o).run E.P w) := by
  simp only [opA, ho] at hop
  split at hop
  · rename_i v hv
    split at hop
    · simp at hop; obtain ⟨rfl, rfl⟩ := hop
      obtain ⟨hc, hl⟩ := rel_cells (evA_rel hR hv).cells
      exact .val (by simp [execOp, ho, Instr.box, newVar, newRow]) VRel.new (new_cells hH rfl rfl rfl rfl true 0 t hc hl)
    · simp at hop
  · simp at hop

theorem op_build (hE : E.Ok) (hR : RegRel ι rg a.tmps) (hH : HRel ι h w) {t : TypeId} {parts : Array (Nat × Operand)} (ho : o.op = .build t parts) (hop : opA E rg h o = some (r, h')) :
    OpPure ι h w r h' ((execOp a.eval o).run E.P w) := by
  simp only [opA, ho] at hop
  split at hop
  · rename_i z fs ps hz hu hps
    split at hop
    · rename_i pl hpl
      split at hop
      · rename_i cs hf
        simp at hop; obtain ⟨rfl, rfl⟩ := hop
        obtain ⟨zv, hzr, hzl, _, _⟩ := zero_run hE hz w
        obtain ⟨h1, h2⟩ := evParts_rel hR hps
        obtain ⟨c', hc', hv'⟩ := fill_sound (ι := ι) (qs := parts.toList.map fun (p : Nat × Operand) => (p.1, a.eval p.2)) h2 (by simpa using h1) (toAVs_rel ι hzl) hf
        have hp := placesM_run hE w hpl
        refine .pure hH (y := .agg c') ?_ (.agg' hv')
        simp only [execOp, ho, Instr.build, Sem.run_bind, hzr, Result.andThen_ok, und_run hE hu, hp]
        simp [hc']
      · simp at hop
    · simp at hop
  · rename_i z n e ps hz hu hps
    split at hop
    · rename_i s hs
      split at hop
      · rename_i cs hf
        simp at hop; obtain ⟨rfl, rfl⟩ := hop
        obtain ⟨zv, hzr, hzl, _, _⟩ := zero_run hE hz w
        obtain ⟨h1, h2⟩ := evParts_rel hR hps
        obtain ⟨c', hc', hv'⟩ := fill_sound (ι := ι) (qs := parts.toList.map fun (p : Nat × Operand) => (p.1, a.eval p.2)) h2 (by simpa using h1) (toAVs_rel ι hzl) hf
        refine .pure hH (y := .agg c') ?_ (.agg' hv')
        simp only [execOp, ho, Instr.build, Sem.run_bind, hzr, Result.andThen_ok, und_run hE hu, sizeOf_run hE hs]
        simp [hc']
      · simp at hop
    · simp at hop
  · simp at hop
end Go.Am
