/-
  Proves that single texts of CheckKnown are answered with an error: runs of the abstract machine, carried out by the kernel. No condition.
-/
import Derived.Test.YtockpdlnfpaddaaGreatDoorEnvRun
namespace Go.Proofs.YtockpdlnfpaddaaGreatDoor
open Go.Am
set_option maxRecDepth 100000
set_option maxHeartbeats 0
theorem txt10_run : isErr 5 ((machK env1 400).call 5 [.str txt10] noHeap) = true := by decide +kernel
theorem txt11_run : isErr 5 ((machK env1 400).call 5 [.str txt11] noHeap) = true := by decide +kernel
theorem txt12_run : isErr 5 ((machK env1 400).call 5 [.str txt12] noHeap) = true := by decide +kernel
theorem txt13_run : isErr 2 ((machK env1 400).call 5 [.str txt13] noHeap) = true := by decide +kernel
end Go.Proofs.YtockpdlnfpaddaaGreatDoor
