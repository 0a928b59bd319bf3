/-
  Proves the environment of ClightKnown's run right, in every world. No condition.
-/
import Derived.Test.YtdanfdimpcldiaaGreatDoorRunA
import Derived.Test.YtdanfdimpcldiaaGreatDoorRunB
import Derived.Test.YtdanfdimpcldiaaGreatDoorRunC
import Derived.Test.YtdanfdimpcldiaaGreatDoorRunD
import Derived.Test.YtdanfdimpcldiaaGreatDoorRunE
set_option maxRecDepth 100000
set_option linter.unusedSimpArgs false
set_option linter.unusedVariables false
set_option maxHeartbeats 0
namespace Go.Proofs.YtdanfdimpcldiaaGreatDoor
open Go.Am
theorem tolds_run : ∀ x ∈ tolds, toldOk x ((machK env1 400).call 6 [.str x.text] noHeap) = true := by
  simp only [tolds, List.forall_mem_cons, List.not_mem_nil, false_implies, implies_true, and_true]
  exact ⟨toldA_run, toldB_run, toldC_run, toldD_run, toldF_run, toldE_run⟩
theorem env2_ok : env2.Ok := envOf_ok _ _ _ (by kernel_rfl) ext_ok
theorem env2_prims (W : World) : @PrimOk ⟨W⟩ env2 := by
  letI : Base := ⟨W⟩
  intro k f hk args h out h' ι w args' hf hH hv
  have := tabOf_mem hk
  simp only [List.mem_cons, List.not_mem_nil, or_false, Prod.mk.injEq] at this
  rcases this with ⟨rfl, rfl⟩ | ⟨rfl, rfl⟩ | ⟨rfl, rfl⟩
  · exact truePrim_ok (closed_trueK env1_ok awake_run w (env1_prims w)) hf hH hv
  · exact toldPrim_ok env1_ok tolds_run env1_prims hf hH hv
  · exact enterPrim_ok hf hH hv
end Go.Proofs.YtdanfdimpcldiaaGreatDoor
