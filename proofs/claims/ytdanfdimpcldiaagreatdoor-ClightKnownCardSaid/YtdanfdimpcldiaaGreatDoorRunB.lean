/-
  Proves what programs single texts of ClightKnown are: runs of the abstract machine, carried out by the kernel. No condition.
-/
import Derived.Test.YtdanfdimpcldiaaGreatDoorEnvRun
set_option maxRecDepth 100000
set_option linter.unusedSimpArgs false
set_option linter.unusedVariables false
set_option maxHeartbeats 0
namespace Go.Proofs.YtdanfdimpcldiaaGreatDoor
open Go.Am
theorem toldD_run : toldOk toldD ((machK env1 400).call 6 [.str toldD.text] noHeap) = true := by decide +kernel
theorem toldF_run : toldOk toldF ((machK env1 400).call 6 [.str toldF.text] noHeap) = true := by decide +kernel
end Go.Proofs.YtdanfdimpcldiaaGreatDoor
