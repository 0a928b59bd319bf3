/-
  Proves what programs single texts of ClightKnown are: runs of the abstract machine, carried out by the kernel. No condition.
-/
import Derived.Test.YtdanfdimpcldiaaGreatDoorEnvRun
set_option maxRecDepth 100000
set_option linter.unusedSimpArgs false
set_option linter.unusedVariables false
set_option maxHeartbeats 0
namespace Go.Proofs.YtdanfdimpcldiaaGreatDoor
open Go.Am
theorem toldA_run : toldOk toldA ((machK env1 400).call 6 [.str toldA.text] noHeap) = true := by decide +kernel
theorem toldB_run : toldOk toldB ((machK env1 400).call 6 [.str toldB.text] noHeap) = true := by decide +kernel
theorem toldC_run : toldOk toldC ((machK env1 400).call 6 [.str toldC.text] noHeap) = true := by decide +kernel
end Go.Proofs.YtdanfdimpcldiaaGreatDoor
