/-
  Proves the environments of CheckKnown's runs right. The condition: the library's table internal/strconv.uint64pow10 holds what it is laid with when the run begins.
-/
import Derived.Test.YtockpdlnfpaddaaGreatDoorChecked
import Derived.Test.YtockpdlnfpaddaaGreatDoorFmt
import Derived.Test.YtockpdlnfpaddaaGreatDoorRunA
import Derived.Test.YtockpdlnfpaddaaGreatDoorRunB
import Derived.Test.YtockpdlnfpaddaaGreatDoorRunC
import Derived.Test.YtockpdlnfpaddaaGreatDoorRunD
import Derived.Test.YtockpdlnfpaddaaGreatDoorRunE
namespace Go.Proofs.YtockpdlnfpaddaaGreatDoor
open Go.Am
theorem ext_ok : ∀ k f, ext k = some f → ExtOk Tryz.prog k f := by
  intro k f h
  have := tabOf_mem h
  simp only [List.mem_cons, List.not_mem_nil, or_false, Prod.mk.injEq] at this
  obtain ⟨rfl, rfl⟩ := this
  exact extIndexByteString_ok Tryz.func140 (by kernel_rfl) (by kernel_rfl) (by kernel_rfl) (by kernel_rfl)
theorem env1_ok : env1.Ok := envOf_ok _ _ _ (by kernel_rfl) ext_ok
theorem env2_ok : env2.Ok := envOf_ok _ _ _ (by kernel_rfl) ext_ok
abbrev Tab (w : World) : Prop := Lib.TabIs Tryz.prog w "internal/strconv.uint64pow10" .u64 Lib.pow10Tab
theorem env1_prims (W : World) (hT : Tab W) : @PrimOk ⟨W⟩ env1 := by
  letI : Base := ⟨W⟩
  intro k f hk args h out h' ι w args' hf hH hv
  have := tabOf_mem hk
  simp only [List.mem_cons, List.not_mem_nil, or_false, Prod.mk.injEq] at this
  obtain ⟨rfl, rfl⟩ := this
  exact fmtPrim_ok hT Tryz.strconv_FormatInt_10 hf hH hv
theorem txts_run : ∀ x ∈ txts, isErr x.2 ((machK env1 400).call 5 [.str x.1] noHeap) = true := by
  simp only [txts, List.forall_mem_cons, List.not_mem_nil, false_implies, implies_true, and_true]
  exact ⟨txt0_run, txt1_run, txt2_run, txt3_run, txt4_run, txt5_run, txt6_run, txt7_run, txt8_run, txt9_run, txt10_run, txt11_run, txt12_run, txt13_run⟩
theorem env2_prims (W : World) (hT : Tab W) : @PrimOk ⟨W⟩ env2 := by
  letI : Base := ⟨W⟩
  intro k f hk args h out h' ι w args' hf hH hv
  have := tabOf_mem hk
  simp only [List.mem_cons, List.not_mem_nil, or_false, Prod.mk.injEq] at this
  rcases this with ⟨rfl, rfl⟩ | ⟨rfl, rfl⟩ | ⟨rfl, rfl⟩
  · exact fmtPrim_ok hT Tryz.strconv_FormatInt_10 hf hH hv
  · exact truePrim_ok (closed_trueK env1_ok awake_run w (env1_prims w (tabIs_base hT hH))) hf hH hv
  · exact txtPrim_ok (fun x hx w => @fun _ _ hHR => errText env1_ok (txts_run x hx) w (env1_prims w (tabIs_base hT hHR))) hf hH hv
end Go.Proofs.YtockpdlnfpaddaaGreatDoor
