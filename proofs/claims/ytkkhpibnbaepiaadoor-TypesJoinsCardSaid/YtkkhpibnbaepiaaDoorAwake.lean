/-
  The closed function 'awake' of law 6 returns true in every world and leaves memory as it was: its run is carried out by the abstract machine in the kernel. No condition.
-/
import Derived.Test.YtkkhpibnbaepiaaDoorEnv
namespace Go.Proofs.YtkkhpibnbaepiaaDoor
open Go.Am
set_option maxRecDepth 100000 in
theorem awake_run : isTrue ((mach env 200).call 6 [] noHeap) = true := by decide +kernel
theorem awake_walk (w : World) : Calls Tryd.prog 6 #[] w fun e w' => e = .returned (.bool true) ∧ ∀ may, w.keptBut w' may :=
  closed_true env_ok env_prims awake_run w
end Go.Proofs.YtkkhpibnbaepiaaDoor
