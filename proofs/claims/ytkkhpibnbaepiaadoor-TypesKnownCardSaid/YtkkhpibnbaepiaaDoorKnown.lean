/-
  TypesKnown: the examples of chapter 6 answer as they are told. The closed function returns true in every world: its run is carried out by the abstract machine in the kernel. The condition is the row's own: the listed variables of the library hold what they are laid with (the card ties them).
-/
import Derived.Test.YtkkhpibnbaepiaaDoorTie
import Derived.Test.YtkkhpibnbaepiaaDoorCards
import Derived.Test.YtkkhpibnbaepiaaDoorEnv
import Derived.WalkKit
import Derived.ProofKit
import Derived.OpenShut
import Derived.LaidMore
import Derived.Lay
import Derived.SevenTiedAt
namespace Go.Proofs.YtkkhpibnbaepiaaDoor
open Go.Am

set_option maxRecDepth 100000 in
theorem typesKnown_run : isTrue ((mach env 200).call 3 [] noHeap) = true := by decide +kernel

theorem typesKnown_walk (w : World) : Calls Tryd.prog 3 #[] w fun e w' => e = .returned (.bool true) ∧ ∀ may, w.keptBut w' may :=
  closed_true env_ok env_prims typesKnown_run w

namespace typesKnown
open Go.ChangeShapes Go.WideShapes Go.ChangeAt Go.RowKit

theorem own : ownKnob Tryd.prog.godebug = Option.none := by kernel_rfl

set_option maxRecDepth 100000 in
theorem lifted (os : Os) (started : os.Started) (H : Type) (enc : TypeId × Value → H) :
    ReturnsInHanded {} Tryd.checked os 3 .any (fun w args => (Rows.typesKnownSpec.pre enc Tryd.prog Tryd.f3 Rows.typesKnownRow.domain false w args ∧ laidMetH Tryd.prog Rows.typesKnownRow.laid w) ∧ sizedMet enc Tryd.prog Tryd.f3 (OpenSpec.ofChange Rows.typesKnownSpec) false w args)
      (Rows.typesKnownSpec.post enc Tryd.prog Tryd.f3 false true false false) := by
  refine returnsInHanded_of_change_and (C := Tryd.checked) (X := fun w _ => laidMetH Tryd.prog Rows.typesKnownRow.laid w) (fun _ _ _ hh h => h.of_heap hh) own started (by kernel_rfl) Tryd.func3
    (ChangeSpec.witness_shaped (enc := enc) (C := Tryd.checked) (os := os) (X := fun w _ => laidMetH Tryd.prog Rows.typesKnownRow.laid w) false (World.laidAll Tryd.prog os Rows.typesKnownRow.laid) #[] 8 (World.laidAll_os _ _ _)
      (World.shaped_of_ZipB (by kernel_rfl) (by kernel_rfl)) (by kernel_rfl) (by kernel_rfl) (by kernel_rfl)
      (by rw [MakeChecks.laidMetH_plain _ _ _ (by kernel_rfl)]; exact laidMet_laidAll _ (by kernel_rfl) (by kernel_rfl))) ?_
  intro W base args ds gs before hval0 hW _ _ hL _
  have hW' := hW
  obtain ⟨p, q, hA0, hV, rfl, _, _⟩ := hW
  have hA : DataW.TrodAll enc Tryd.prog W 0 (fun _ => true) true Tryd.f3.params.toList args.toList ds p := hA0
  rw [Tryd.params3] at hA
  obtain ⟨rfl, rfl, rfl⟩ := trodAll_none hA
  obtain ⟨rfl, rfl⟩ := trodVars_none hV
  simp only [List.append_nil] at hW'
  refine (typesKnown_walk W).mono fun e W' ⟨he, hk⟩ => ?_
  subst he
  exact ⟨_, rfl, _, _, _, [], [], [], hW', trodAll_mk1 (shut_bool Tryd.underlying4 _), rfl, rfl, hk _, fun h => by cases h⟩

theorem over : Rows.typesKnownRow.holds Tryd.pinned (OpenSpec.ofChange Rows.typesKnownSpec) :=
  OpenClaim.holds_of_wide 3 Tryd.f3 rfl rfl rfl rfl rfl rfl rfl ⟨rfl, rfl, rfl, rfl, rfl⟩ rfl rfl rfl rfl rfl (by kernel_rfl) Tryd.func3 (by kernel_rfl)
    (of_decide_eq_true (by kernel_rfl)) (by unfold Func.isWrapper; first | (rw [if_pos (by decide +kernel)]; kernel_rfl) | (rw [if_neg (by decide +kernel)]; exact ⟨rfl, rfl⟩))
    (fun os started H enc _ => lifted os started H enc)
end typesKnown

/-- THE STATEMENT. -/
theorem typesKnown_card : Rows.TypesKnownCardSaid :=
  Claim7.holds_tied_plain_at .later [] [.data, .data, .data, .data, .sentinel, .sentinel, .pinned] true Rows.typesKnownCard.stood.harness true
    typesKnown.over (fun _ h => by cases h) (by kernel_rfl) (fun _ h => by cases h) typesKnown_row_tie rfl ⟨rfl, rfl⟩ (by kernel_rfl) rfl
    (fun f fn hf hfn => by
      obtain rfl : f = 3 := Option.some.inj ((show Tryd.prog.funcNamed "plumbob/plumboblaw6.TypesKnown" = some 3 by kernel_rfl).symm.trans hf) |>.symm
      obtain rfl : fn = Tryd.f3 := (Option.some.inj (Tryd.func3.symm.trans hfn)).symm
      exact ⟨by kernel_rfl, fun j t ht => by
        rw [Tryd.params3] at ht
        simp at ht⟩)
    (by kernel_rfl)
#print axioms typesKnown_card
end Go.Proofs.YtkkhpibnbaepiaaDoor
