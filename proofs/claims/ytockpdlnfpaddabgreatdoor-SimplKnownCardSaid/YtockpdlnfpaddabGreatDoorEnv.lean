/-
  The abstract machine's environment for the program of this seat: read off the program; one function of the library without a body is told by a Lean function of its own (internal/bytealg.IndexByteString). No condition.
-/
import Derived.Test.YtockpdlnfpaddabGreatDoorChecked
import Derived.Test.YtockpdlnfpaddabGreatDoorAm51
namespace Go.Proofs.YtockpdlnfpaddabGreatDoor
open Go.Am

def ext : FuncId → Option (List AV → Option AV) := tabOf [(142, extIndexByteString)]
def prims : FuncId → Option (List AV → AHeap → Option (Out × AHeap)) := fun _ => Option.none
noncomputable def env : Env := envOf Tryz.prog ext prims
theorem ext_ok : ∀ k f, ext k = some f → ExtOk Tryz.prog k f := by
  intro k f h
  have := tabOf_mem h
  simp only [List.mem_cons, List.not_mem_nil, or_false, Prod.mk.injEq] at this
  obtain ⟨rfl, rfl⟩ := this
  exact extIndexByteString_ok Tryz.func142 (by kernel_rfl) (by kernel_rfl) (by kernel_rfl) (by kernel_rfl)
theorem env_ok : env.Ok := envOf_ok _ _ _ (by kernel_rfl) ext_ok
theorem env_prims : PrimOkAll env := fun _ _ _ h => by cases h
end Go.Proofs.YtockpdlnfpaddabGreatDoor
