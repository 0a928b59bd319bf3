/-
  The closed function 'awake' of law 6 returns true in every world and leaves memory as it was: its run is carried out by the abstract machine in the kernel. No condition.
-/
import Derived.Test.YtkkhpibnbaepiaaDoorEnvRun
namespace Go.Proofs.YtkkhpibnbaepiaaDoor
open Go.Am
set_option maxRecDepth 100000 in
set_option maxHeartbeats 0 in
theorem awake_run : isTrue ((machK env0 200).call 6 [] noHeap) = true := by decide +kernel
end Go.Proofs.YtkkhpibnbaepiaaDoor
