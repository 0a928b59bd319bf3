/-
  Proves that CheckKnown is true, leaning on what is proved of its single texts: a run of the abstract machine, carried out by the kernel. No condition.
-/
import Derived.Test.YtockpdlnfpaddaaGreatDoorEnvRun
namespace Go.Proofs.YtockpdlnfpaddaaGreatDoor
open Go.Am
set_option maxRecDepth 100000
set_option maxHeartbeats 0
theorem checkKnown_run : isTrue ((machK env2 400).call 3 [] noHeap) = true := by decide +kernel
end Go.Proofs.YtockpdlnfpaddaaGreatDoor
