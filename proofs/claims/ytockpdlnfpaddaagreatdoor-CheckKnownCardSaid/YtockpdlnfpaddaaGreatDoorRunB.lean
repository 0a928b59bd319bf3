/-
  Proves that single texts of CheckKnown are answered with an error: runs of the abstract machine, carried out by the kernel. No condition.
-/
import Derived.Test.YtockpdlnfpaddaaGreatDoorEnvRun
namespace Go.Proofs.YtockpdlnfpaddaaGreatDoor
open Go.Am
set_option maxRecDepth 100000
set_option maxHeartbeats 0
theorem txt6_run : isErr 5 ((machK env1 400).call 5 [.str txt6] noHeap) = true := by decide +kernel
theorem txt7_run : isErr 5 ((machK env1 400).call 5 [.str txt7] noHeap) = true := by decide +kernel
theorem txt8_run : isErr 5 ((machK env1 400).call 5 [.str txt8] noHeap) = true := by decide +kernel
theorem txt9_run : isErr 5 ((machK env1 400).call 5 [.str txt9] noHeap) = true := by decide +kernel
end Go.Proofs.YtockpdlnfpaddaaGreatDoor
