/-
  TypesJoins: the type that two numbers are reckoned in is the document's, whatever the two texts are. The condition is the row's own: the listed variables of the library hold what they are laid with (the card ties them).
-/
import Derived.Test.YtkkhpibnbaepiaaDoorTie
import Derived.Test.YtkkhpibnbaepiaaDoorCards
import Derived.Test.YtkkhpibnbaepiaaDoorAwake
import Derived.WalkKit
import Derived.ProofKit
import Derived.OpenShut
import Derived.LaidMore
import Derived.ChangeMaps5
import Derived.Lay
import Derived.SevenTiedAt
namespace Go.Proofs.YtkkhpibnbaepiaaDoor
namespace typesJoins
open Go.ChangeShapes Go.WideShapes Go.ChangeAt Go.RowKit Go.ChangeMaps
set_option linter.unusedVariables false
def longS : ByteArray := ⟨#[108, 111, 110, 103]⟩
def intS : ByteArray := ⟨#[105, 110, 116]⟩
def wholeB (a : ByteArray) : Bool := a.toList == [99, 104, 97, 114] || a.toList == [105, 110, 116] || a.toList == [108, 111, 110, 103]
def joinB (a b : ByteArray) : Bool := wholeB a && wholeB b
def longB (a b : ByteArray) : Bool := a.toList == [108, 111, 110, 103] || b.toList == [108, 111, 110, 103]
def joinS (a b : ByteArray) : ByteArray := if joinB a b = true then (if longB a b = true then longS else intS) else ⟨#[]⟩
theorem joinB_comm (a b : ByteArray) : joinB b a = joinB a b := Bool.and_comm _ _
theorem joinS_comm (a b : ByteArray) : joinS b a = joinS a b := by
  unfold joinS longB; rw [joinB_comm, Bool.or_comm]

theorem whole_walk (a : ByteArray) (w : World) :
    Calls Tryd.prog 19 #[.string a] w fun e w' => e = .returned (.bool (wholeB a)) ∧ w' = w := by
  go_enter Tryd.func19, Tryd.ntmps19
  go_wp2
  all_goals go_ret
  all_goals exact ⟨by simp_all [wholeB], rfl⟩
theorem integer_walk (a : ByteArray) (w : World) :
    Calls Tryd.prog 21 #[.string a] w fun e w' => e = .returned (.bool (wholeB a)) ∧ w' = w := by
  go_enter Tryd.func21, Tryd.ntmps21
  go_wp2
  all_goals go_ret
  all_goals exact ⟨by simp_all [wholeB], rfl⟩
theorem join_walk (a b : ByteArray) (w : World) :
    Calls Tryd.prog 11 #[.string a, .string b] w fun e w' => e = .returned (.tuple #[.string (joinS a b), .bool (joinB a b)]) ∧ w' = w := by
  cases ha : wholeB a <;> cases hb : wholeB b <;> cases hl : longB a b
  all_goals
    go_enter Tryd.func11, Tryd.ntmps11
    go_wp2_with (first | (go_at_call 19; refine (whole_walk _ _).mono ?_; rintro e w' ⟨rfl, rfl⟩; first | rw [ha] | rw [hb]))
  all_goals go_ret2
  all_goals exact ⟨by simp_all [joinS, joinB, longB, longS, intS], rfl⟩
theorem refJoin_walk (a b : ByteArray) (w : World) :
    Calls Tryd.prog 13 #[.string a, .string b] w fun e w' => e = .returned (.tuple #[.string (joinS a b), .bool (joinB a b)]) ∧ w' = w := by
  cases ha : wholeB a <;> cases hb : wholeB b <;> cases hl : longB a b
  all_goals
    go_enter Tryd.func13, Tryd.ntmps13
    go_wp2_with (first | (go_at_call 21; refine (integer_walk _ _).mono ?_; rintro e w' ⟨rfl, rfl⟩; first | rw [ha] | rw [hb]))
  all_goals go_ret2
  all_goals exact ⟨by simp_all [joinS, joinB, longB, longS, intS], rfl⟩
theorem typesJoins_walk (a b : ByteArray) (w : World) :
    Calls Tryd.prog 4 #[.string a, .string b] w fun e w' => e = .returned (.bool true) ∧ ∀ may, w.keptBut w' may := by
  go_enter Tryd.func4, Tryd.ntmps4
  go_wp2_with (first
    | (go_at_call 6; refine (awake_walk _).mono ?_; rintro e w1 ⟨rfl, hk⟩)
    | (go_at_call 11; refine (join_walk _ _ _).mono ?_; rintro e w' ⟨rfl, rfl⟩)
    | (go_at_call 13; refine (refJoin_walk _ _ _).mono ?_; rintro e w' ⟨rfl, rfl⟩))
  all_goals go_ret
  · exact ⟨by simp [joinB_comm], hk⟩
  · rename_i hne
    exact absurd (congrArg _ (joinS_comm a b)) hne

theorem own : ownKnob Tryd.prog.godebug = Option.none := by kernel_rfl

set_option maxRecDepth 100000 in
theorem lifted (os : Os) (started : os.Started) (H : Type) (enc : TypeId × Value → H) :
    ReturnsInHanded {} Tryd.checked os 4 .any (fun w args => (Rows.typesJoinsSpec.pre enc Tryd.prog Tryd.f4 Rows.typesJoinsRow.domain false w args ∧ laidMetH Tryd.prog Rows.typesJoinsRow.laid w) ∧ sizedMet enc Tryd.prog Tryd.f4 (OpenSpec.ofChange Rows.typesJoinsSpec) false w args)
      (Rows.typesJoinsSpec.post enc Tryd.prog Tryd.f4 false true false false) := by
  refine returnsInHanded_of_change_and (C := Tryd.checked) (X := fun w _ => laidMetH Tryd.prog Rows.typesJoinsRow.laid w) (fun _ _ _ hh h => h.of_heap hh) own started (by kernel_rfl) Tryd.func4
    (ChangeSpec.witness_shaped (enc := enc) (C := Tryd.checked) (os := os) (X := fun w _ => laidMetH Tryd.prog Rows.typesJoinsRow.laid w) false (World.laidAll Tryd.prog os Rows.typesJoinsRow.laid) #[.string ⟨#[]⟩, .string ⟨#[]⟩] 8 (World.laidAll_os _ _ _)
      (World.shaped_of_ZipB (by kernel_rfl) (by kernel_rfl)) (by kernel_rfl) (by kernel_rfl) (by kernel_rfl)
      (by rw [MakeChecks.laidMetH_plain _ _ _ (by kernel_rfl)]; exact laidMet_laidAll _ (by kernel_rfl) (by kernel_rfl))) ?_
  intro W base args ds gs before hval0 hW _ _ hL _
  have hval : ∀ (j : Nat) t v, Tryd.f4.params[j]? = some t → args[j]? = some v → Value.okWide Tryd.prog W .any base t v := hval0
  have hW' := hW
  obtain ⟨p, q, hA0, hV, rfl, _, _⟩ := hW
  have hA : DataW.TrodAll enc Tryd.prog W 0 (fun _ => true) true Tryd.f4.params.toList args.toList ds p := hA0
  rw [Tryd.params4] at hA hval
  obtain ⟨v0, v1, d0, d1, p0, p1, rfl, rfl, rfl, h0, h1⟩ := trodAll_two hA
  obtain ⟨rfl, rfl⟩ := trodVars_none hV
  obtain ⟨s0, rfl, rfl, rfl, z0⟩ := open_string Tryd.underlying9 (hval 0 9 v0 rfl rfl) h0
  obtain ⟨s1, rfl, rfl, rfl, z1⟩ := open_string Tryd.underlying9 (hval 1 9 v1 rfl rfl) h1
  simp only [List.append_nil] at hW'
  refine (typesJoins_walk s0 s1 W).mono fun e W' ⟨he, hk⟩ => ?_
  subst he
  exact ⟨_, rfl, _, _, _, [], [], [], hW', trodAll_mk1 (shut_bool Tryd.underlying4 _), trodAll_mk2 (p := []) (p' := []) (shut_string Tryd.underlying9 z0) (shut_string Tryd.underlying9 z1), rfl, hk _, fun h => by cases h⟩

theorem over : Rows.typesJoinsRow.holds Tryd.pinned (OpenSpec.ofChange Rows.typesJoinsSpec) :=
  OpenClaim.holds_of_wide 4 Tryd.f4 rfl rfl rfl rfl rfl rfl rfl ⟨rfl, rfl, rfl, rfl, rfl⟩ rfl rfl rfl rfl rfl (by kernel_rfl) Tryd.func4 (by kernel_rfl)
    (of_decide_eq_true (by kernel_rfl)) (by unfold Func.isWrapper; first | (rw [if_pos (by decide +kernel)]; kernel_rfl) | (rw [if_neg (by decide +kernel)]; exact ⟨rfl, rfl⟩))
    (fun os started H enc _ => lifted os started H enc)
end typesJoins

/-- THE STATEMENT. -/
theorem typesJoins_card : Rows.TypesJoinsCardSaid :=
  Claim7.holds_tied_plain_at .later [] [.data, .data, .data, .data, .sentinel, .sentinel, .pinned] true Rows.typesJoinsCard.stood.harness true
    typesJoins.over (fun _ h => by cases h) (by kernel_rfl) (fun _ h => by cases h) typesJoins_row_tie rfl ⟨rfl, rfl⟩ (by kernel_rfl) rfl
    (fun f fn hf hfn => by
      obtain rfl : f = 4 := Option.some.inj ((show Tryd.prog.funcNamed "plumbob/plumboblaw6.TypesJoins" = some 4 by kernel_rfl).symm.trans hf) |>.symm
      obtain rfl : fn = Tryd.f4 := (Option.some.inj (Tryd.func4.symm.trans hfn)).symm
      exact ⟨by kernel_rfl, fun j t ht => by
        rw [Tryd.params4] at ht
        have hm : t ∈ [9, 9] := by simpa using Array.mem_of_getElem? ht
        have hall : ([9, 9].all fun u => !Tryd.prog.wantsStandIn u) = true := by kernel_rfl
        exact (show Tryd.prog.wantsStandIn t = false by simpa using List.all_eq_true.1 hall t hm)⟩)
    (by kernel_rfl)
#print axioms typesJoins_card
end Go.Proofs.YtkkhpibnbaepiaaDoor
