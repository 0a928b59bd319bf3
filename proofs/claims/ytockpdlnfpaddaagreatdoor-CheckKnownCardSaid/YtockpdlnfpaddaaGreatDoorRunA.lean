/-
  Proves that single texts of CheckKnown are answered with an error: runs of the abstract machine, carried out by the kernel. No condition.
-/
import Derived.Test.YtockpdlnfpaddaaGreatDoorEnvRun
namespace Go.Proofs.YtockpdlnfpaddaaGreatDoor
open Go.Am
set_option maxRecDepth 100000
set_option maxHeartbeats 0
theorem txt0_run : isErr 5 ((machK env1 400).call 5 [.str txt0] noHeap) = true := by decide +kernel
theorem txt1_run : isErr 5 ((machK env1 400).call 5 [.str txt1] noHeap) = true := by decide +kernel
theorem txt2_run : isErr 5 ((machK env1 400).call 5 [.str txt2] noHeap) = true := by decide +kernel
theorem txt3_run : isErr 5 ((machK env1 400).call 5 [.str txt3] noHeap) = true := by decide +kernel
theorem txt4_run : isErr 5 ((machK env1 400).call 5 [.str txt4] noHeap) = true := by decide +kernel
theorem txt5_run : isErr 5 ((machK env1 400).call 5 [.str txt5] noHeap) = true := by decide +kernel
end Go.Proofs.YtockpdlnfpaddaaGreatDoor
