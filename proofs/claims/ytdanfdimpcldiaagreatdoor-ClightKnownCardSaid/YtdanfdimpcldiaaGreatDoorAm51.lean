/-
  Proves that a closed function that the second form of the abstract machine carries out to true returns true in the model and leaves memory as it was. No condition but that the environment is right.
-/
import Derived.Test.YtdanfdimpcldiaaGreatDoorAm50
set_option linter.unusedSimpArgs false
set_option linter.unusedVariables false
namespace Go.Am
theorem closed_trueK {E : Env} (hE : E.Ok) {n : Nat} {k : FuncId} (hr : isTrue ((machK E n).call k [] noHeap) = true) (w : World) (hp : @PrimOk ⟨w⟩ E) :
    Calls E.P k #[] w fun e w' => e = .returned (.bool true) ∧ Grew w w' :=
  closed_true hE (by rw [← machK_eq]; exact hr) w hp
end Go.Am
