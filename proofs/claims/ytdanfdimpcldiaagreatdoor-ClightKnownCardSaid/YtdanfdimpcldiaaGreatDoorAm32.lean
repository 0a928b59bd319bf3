/-
  Proves that a closed function that the abstract machine carries out to true returns true in the model and leaves memory as it was. Each theorem states its own conditions; there are no others.
-/
import Derived.Test.YtdanfdimpcldiaaGreatDoorAm31
import GoSem.ClaimChange
set_option linter.unusedSimpArgs false
set_option linter.unusedVariables false
set_option linter.unusedVariables false
set_option linter.unusedSectionVars false
namespace Go.Am
/-- A world that only grew. -/
structure Grew (w w' : World) : Prop where
  size : w.heap.size ≤ w'.heap.size
  old : ∀ b, b < w.heap.size → w'.heap[b]? = w.heap[b]?
  os : w'.os = w.os
  tape : w'.tape = w.tape
  output : w'.output = w.output
theorem Grew.refl (w : World) : Grew w w := ⟨Nat.le_refl _, fun _ _ => rfl, rfl, rfl, rfl⟩
theorem Grew.trans {a b c : World} (h : Grew a b) (h' : Grew b c) : Grew a c :=
  ⟨Nat.le_trans h.size h'.size, fun i hi => (h'.old i (Nat.lt_of_lt_of_le hi h.size)).trans (h.old i hi), h'.os.trans h.os, h'.tape.trans h.tape, h'.output.trans h.output⟩
theorem Grew.kept {w w' : World} (h : Grew w w') (may : MemPlace → Prop) : w.keptBut w' may := by
  refine ⟨h.os, h.output, fun i hi => ?_⟩
  rw [h.old i hi]
  split
  · rename_i h1 h2
    rw [h1] at h2; cases h2
    exact ⟨rfl, rfl, rfl, fun _ _ => rfl⟩
  · rename_i h1 h2
    rw [h1] at h2; cases h2
    exact .inr ⟨rfl, rfl⟩
  · rfl

variable [Base]

/-- Nothing of memory is told ahead of the call. -/
def noInj : Inj := fun _ => none
def noHeap : AHeap := ⟨0, .nil⟩
theorem noHeap_rel : HRel noInj noHeap Base.w :=
  ⟨fun i L h => by simp [noInj] at h, fun i j Li Lj oi oj _ h => by simp [noInj] at h, fun i L h => by simp [noInj] at h, fun i _ => by simp [noHeap, AHeap.get, T.get], fun i L h => by simp [noInj] at h, ⟨Nat.le_refl _, fun _ _ => rfl, rfl, fun i L o h => by simp [noInj] at h⟩⟩

theorem Ext.grew {h : AHeap} {w : World} {ι' : Inj} {h' : AHeap} {w' : World} (e : Ext noInj h w ι' h' w') : Grew w w' :=
  ⟨e.size, fun b hb => (e.frame b hb (by rintro ⟨k, L, o, hk, _⟩; simp [noInj] at hk)).1, e.os, e.tape, e.output⟩

/-- The functions told by Lean functions of their own are right, wherever the run begins. -/
def PrimOkAll (E : Env) : Prop := ∀ W : World, @PrimOk ⟨W⟩ E
omit [Base] in
/-- A closed function that answers true. -/
theorem closed_true {E : Env} (hE : E.Ok) {n : Nat} {k : FuncId} (hr : isTrue ((mach E n).call k [] noHeap) = true) (w : World) (hp : @PrimOk ⟨w⟩ E) :
    Calls E.P k #[] w fun e w' => e = .returned (.bool true) ∧ Grew w w' := by
  letI : Base := ⟨w⟩
  obtain ⟨h', hr⟩ := isTrue_spec hr
  refine (run_calls hE hp hr noHeap_rel (VsRel.nil _)).mono fun e w' => ?_
  rintro ⟨ι', hext, hout⟩
  refine ⟨?_, hext.grew⟩
  cases e with
  | returned y =>
    have hy : VRel ι' (.bool true) y := hout
    cases hy
    rfl
  | panicked c => exact hout.elim
  | _ => exact hout.elim
end Go.Am
