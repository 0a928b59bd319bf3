/-
  Proves that law 8's 'awake' is true: a run of the abstract machine, carried out by the kernel. No condition.
-/
import Derived.Test.YtdanfdimpcldiaaGreatDoorEnvRun
set_option maxRecDepth 100000
set_option linter.unusedSimpArgs false
set_option linter.unusedVariables false
set_option maxHeartbeats 0
namespace Go.Proofs.YtdanfdimpcldiaaGreatDoor
open Go.Am
theorem awake_run : isTrue ((machK env1 400).call 4 [] noHeap) = true := by decide +kernel
end Go.Proofs.YtdanfdimpcldiaaGreatDoor
