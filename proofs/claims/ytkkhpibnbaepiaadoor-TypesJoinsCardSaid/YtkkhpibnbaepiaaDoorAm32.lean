/-
  Proves that a closed function that the abstract machine carries out to true returns true in the model and leaves memory as it was. Each theorem states its own conditions; there are no others.
-/
import Derived.Test.YtkkhpibnbaepiaaDoorAm31
import GoSem.ClaimChange
set_option linter.unusedSimpArgs false
set_option linter.unusedVariables false
set_option linter.unusedVariables false
namespace Go.Am

/-- Nothing of memory is told ahead of the call. -/
def noInj : Inj := fun _ => none
def noHeap : AHeap := ⟨0, .nil⟩
theorem noHeap_rel (w : World) : HRel noInj noHeap w :=
  ⟨fun i L h => by simp [noInj] at h, fun i j Li Lj oi oj _ h => by simp [noInj] at h, fun i L h => by simp [noInj] at h, fun i _ => by simp [noHeap, AHeap.get, T.get], fun i L h => by simp [noInj] at h⟩

/-- What was there stays as it was. -/
theorem Ext.kept {h : AHeap} {w : World} {ι' : Inj} {h' : AHeap} {w' : World} (e : Ext noInj h w ι' h' w') (may : MemPlace → Prop) : w.keptBut w' may := by
  refine ⟨e.os, e.output, fun i hi => ?_⟩
  have := (e.frame i hi (by rintro ⟨k, L, o, hk, _⟩; simp [noInj] at hk)).1
  rw [this]
  split
  · rename_i h1 h2
    rw [h1] at h2; cases h2
    exact ⟨rfl, rfl, rfl, fun _ _ => rfl⟩
  · rename_i h1 h2
    rw [h1] at h2; cases h2
    exact .inr ⟨rfl, rfl⟩
  · rfl

/-- A closed function that answers true. -/
theorem closed_true {E : Env} (hE : E.Ok) (hp : PrimOk E) {n : Nat} {k : FuncId} (hr : isTrue ((mach E n).call k [] noHeap) = true) (w : World) :
    Calls E.P k #[] w fun e w' => e = .returned (.bool true) ∧ ∀ may, w.keptBut w' may := by
  obtain ⟨h', hr⟩ := isTrue_spec hr
  refine (run_calls hE hp hr (noHeap_rel w) (VsRel.nil _)).mono fun e w' => ?_
  rintro ⟨ι', hext, hout⟩
  refine ⟨?_, hext.kept⟩
  cases e with
  | returned y =>
    have hy : VRel ι' (.bool true) y := hout
    cases hy
    rfl
  | panicked c => exact hout.elim
  | _ => exact hout.elim
end Go.Am
