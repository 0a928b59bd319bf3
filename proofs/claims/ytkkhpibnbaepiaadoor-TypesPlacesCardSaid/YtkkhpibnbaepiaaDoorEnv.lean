/-
  Proves the environments of law 6's statements with arguments right. The condition: the library's variables strconv.ErrSyntax and strconv.ErrRange hold an interface value when the run begins.
-/
import Derived.Test.YtkkhpibnbaepiaaDoorChecked
import Derived.Test.YtkkhpibnbaepiaaDoorLib
import Derived.Test.YtkkhpibnbaepiaaDoorAwake
namespace Go.Proofs.YtkkhpibnbaepiaaDoor
open Go.Am
theorem ext_ok : ∀ k f, ext k = some f → ExtOk Tryd.prog k f := by
  intro k f h
  have := tabOf_mem h
  simp only [List.mem_cons, List.not_mem_nil, or_false, Prod.mk.injEq] at this
  obtain ⟨rfl, rfl⟩ := this
  exact extIndexByteString_ok Tryd.func49 (by kernel_rfl) (by kernel_rfl) (by kernel_rfl) (by kernel_rfl)
theorem env0_ok : env0.Ok := envOf_ok _ _ _ (by kernel_rfl) ext_ok
theorem env_ok : env.Ok := envOf_ok _ _ _ (by kernel_rfl) ext_ok
theorem env0_prims (W : World) : @PrimOk ⟨W⟩ env0 := fun h => by cases h
/-- The library's two error variables. -/
def Errs (W : World) : Prop := (∃ ev, W.cell? ⟨1, 0, none⟩ = some ev ∧ (ev = .nilIface ∨ ∃ te pe, ev = .iface te pe)) ∧ (∃ ev, W.cell? ⟨2, 0, none⟩ = some ev ∧ (ev = .nilIface ∨ ∃ te pe, ev = .iface te pe))
theorem env_prims (W : World) (hE : Errs W) : @PrimOk ⟨W⟩ env := by
  letI : Base := ⟨W⟩
  intro k f hk args h out h' ι w args' hf hH hv
  have := tabOf_mem hk
  simp only [List.mem_cons, List.not_mem_nil, or_false, Prod.mk.injEq] at this
  rcases this with ⟨rfl, rfl⟩ | ⟨rfl, rfl⟩ | ⟨rfl, rfl⟩ | ⟨rfl, rfl⟩ | ⟨rfl, rfl⟩ | ⟨rfl, rfl⟩ | ⟨rfl, rfl⟩ | ⟨rfl, rfl⟩
  · exact truePrim_ok (closed_trueK env0_ok awake_run w (env0_prims w)) hf hH hv
  · exact valPrim_ok (fun w hf hv => ibF_ok Tryd.strings_IndexByte w hf hv) hf hH hv
  · exact valPrim_ok (fun w hf hv => ibF_ok Tryd.stringslite_IndexByte w hf hv) hf hH hv
  · exact valPrim_ok (fun w hf hv => trimF_ok Tryd.strings_Trim w hf hv) hf hH hv
  · exact valPrim_ok (fun w hf hv => cutSF_ok (fun s p w hs => Tryd.strings_CutSuffix s p w hs) w hf hv) hf hH hv
  · exact atoiPrim_ok (fun s hs v h w => Tryd.strconv_Atoi_ok s hs v h w) (fun s hs h ev w hc he => Tryd.strconv_Atoi_none s hs h ev w hc he) (fun s hs h ev w hc he => Tryd.strconv_Atoi_range s hs h ev w hc he) hE.1 hE.2 hf hH hv
  · exact valPrim_ok (fun w hf hv => trimRF_ok Tryd.strings_TrimRight_one w hf hv) hf hH hv
  · exact valPrim_ok (fun w hf hv => cutPF_ok Tryd.strings_CutPrefix w hf hv) hf hH hv
end Go.Proofs.YtkkhpibnbaepiaaDoor
