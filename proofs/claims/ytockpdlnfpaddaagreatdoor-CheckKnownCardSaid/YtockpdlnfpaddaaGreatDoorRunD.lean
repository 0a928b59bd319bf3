/-
  Proves that law 7's 'awake' is true: a run of the abstract machine, carried out by the kernel. No condition.
-/
import Derived.Test.YtockpdlnfpaddaaGreatDoorEnvRun
namespace Go.Proofs.YtockpdlnfpaddaaGreatDoor
open Go.Am
set_option maxRecDepth 100000
set_option maxHeartbeats 0
theorem awake_run : isTrue ((machK env1 400).call 4 [] noHeap) = true := by decide +kernel
end Go.Proofs.YtockpdlnfpaddaaGreatDoor
