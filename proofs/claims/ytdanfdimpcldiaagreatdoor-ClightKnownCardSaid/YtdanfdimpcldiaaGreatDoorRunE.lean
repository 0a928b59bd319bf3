/-
  Proves that ClightKnown is true, leaning on what is proved of its single texts and of the recursion: a run of the abstract machine, carried out by the kernel. No condition.
-/
import Derived.Test.YtdanfdimpcldiaaGreatDoorP
set_option maxRecDepth 100000
set_option linter.unusedSimpArgs false
set_option linter.unusedVariables false
set_option maxHeartbeats 0
namespace Go.Proofs.YtdanfdimpcldiaaGreatDoor
open Go.Am
noncomputable def prims2 : FuncId → Option (List AV → AHeap → Option (Out × AHeap)) := tabOf [(4, truePrim), (6, toldPrim tolds), (28, enterPrim)]
noncomputable def env2 : Env := envOf Tryz.prog ext prims2
theorem clightKnown_run : isTrue ((machK env2 400).call 3 [] noHeap) = true := by decide +kernel
end Go.Proofs.YtdanfdimpcldiaaGreatDoor
