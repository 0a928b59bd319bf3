/-
  TypesPlaces: each struct's fields lie one behind the other, aligned and within it, whatever the declarations are. The condition is the row's own: the listed variables of the library hold what they are laid with (the card ties them).
-/
import Derived.Test.YtkkhpibnbaepiaaDoorTie
import Derived.Test.YtkkhpibnbaepiaaDoorCards
import Derived.Test.YtkkhpibnbaepiaaDoorEnv
import Derived.Test.YtkkhpibnbaepiaaDoorArg
import Derived.WalkKit
import Derived.ProofKit
import Derived.OpenShut
import Derived.LaidMore
import Derived.ChangeMaps5
import Derived.Lay
import Derived.SevenTiedAt
import Derived.ReadAgain
import Derived.Stop.LaidErr
namespace Go.Proofs.YtkkhpibnbaepiaaDoor
namespace typesPlaces
open Go.ChangeShapes Go.WideShapes Go.ChangeAt Go.RowKit Go.ChangeMaps
set_option linter.unusedVariables false
theorem laid_iface {P : Program} {n nm : String} {d : DataW Unit} {r : List (String × DataW Unit)} {W : World} {g : Nat} {ti : TypeId} {ms : Array (String × TypeId)}
    (h : laidMet P ((n, .iface nm d) :: r) W) (hg : P.globalNamed n = some g) (ht : (P.globals[g]?).map (·.type) = some ti) (hi : P.underlying ti = some (.interface ms)) : ∃ u v, W.cell? ⟨g, 0, Option.none⟩ = some (.iface u v) := by
  obtain ⟨ps, ⟨g0, t0, cs0, f0, p0, q0, hg0, ht0, hv0, hd0, _, e0⟩, _, hrows⟩ := h
  obtain rfl := Option.some.inj (hg.symm.trans hg0)
  obtain rfl := Option.some.inj (ht.symm.trans ht0)
  obtain ⟨l0⟩ := cs0
  obtain ⟨f1, u, v, he, _, _⟩ := iface_of_trod hi hd0
  have he : l0 = [.iface u v] := he
  subst he
  exact ⟨u, v, World.var?_cell hg0 hv0 0⟩
theorem g1 : Tryd.prog.globalNamed "strconv.ErrRange" = some 2 := by kernel_rfl
theorem g2 : Tryd.prog.globalNamed "strconv.ErrSyntax" = some 1 := by kernel_rfl
theorem t1 : (Tryd.prog.globals[2]?).map (·.type) = some 67 := by kernel_rfl
theorem t2 : (Tryd.prog.globals[1]?).map (·.type) = some 67 := by kernel_rfl
theorem errs_of {W : World} (hL : laidMetH Tryd.prog Rows.typesPlacesRow.laid W) : Errs W := by
  rw [MakeChecks.laidMetH_plain _ _ _ (by kernel_rfl)] at hL
  have h4 := hL.tail.tail.tail.tail
  obtain ⟨u, v, h1⟩ := laid_iface h4 g1 t1 Tryd.underlying67
  obtain ⟨u', v', h2⟩ := laid_iface h4.tail g2 t2 Tryd.underlying67
  exact ⟨⟨_, h2, .inr ⟨u', v', rfl⟩⟩, ⟨_, h1, .inr ⟨u, v, rfl⟩⟩⟩
section
variable {H : Type} {enc : TypeId × Value → H} {W : World}
theorem places_calls (hE : Errs W) {fuel : Nat} {v : Value} {x : DataW H × List MemPlace} (h : DataW.trod enc Tryd.prog W 0 (fun _ => true) true fuel 27 [v] = some x) (hw : ∀ m ∈ x.1.weights Tryd.prog 27, m ≤ reachBytes) :
    Calls Tryd.prog 5 #[v] W fun e W' => e = .returned (.bool true) ∧ Below W.heap.size W W' := by
  have hz : 0 < W.heap.size := by
    obtain ⟨ev, h1, _⟩ := hE.1
    have := World.block_lt_of_cell? _ _ h1
    exact Nat.lt_of_le_of_lt (Nat.zero_le _) this
  obtain ⟨l, p, ι, hp, hA, hF, hH, hv, hO⟩ := arg_rel h hw hz
  letI : Am.Base := ⟨W⟩
  have hw := places_w hp p l hA hF
  refine (Am.WCall.calls (args' := #[v]) env_ok (env_prims W hE) hw hH (Am.VsRel.cons hv (Am.VsRel.nil _))).mono fun e W' ⟨out, h', ι', ⟨ho, _⟩, hx, hr⟩ => ?_
  subst ho
  constructor
  · cases e with
    | returned y =>
      have hr : Am.VRel ι' (.bool true) y := hr
      cases hr
      rfl
    | _ => exact hr.elim
  · exact ⟨hx.os, hx.tape, hx.output, hx.size, fun b hb => (hx.frame b hb (hO b)).1⟩
end
theorem own : ownKnob Tryd.prog.godebug = Option.none := by kernel_rfl
theorem kids : Kids Tryd.prog (· < Tryd.prog.types.size) := kids_rows (by kernel_rfl) (by kernel_rfl)
theorem full : ∀ t e, t < Tryd.prog.types.size → Tryd.prog.underlying t = some (.slice e) → 0 < Tryd.prog.cellsOf e := slices_full_of _ (by kernel_rfl)
theorem lt27 : 27 < Tryd.prog.types.size := of_decide_eq_true (by kernel_rfl)
set_option maxRecDepth 100000 in
theorem lifted (os : Os) (started : os.Started) (H : Type) (enc : TypeId × Value → H) :
    ReturnsInHanded {} Tryd.checked os 5 .any (fun w args => (Rows.typesPlacesSpec.pre enc Tryd.prog Tryd.f5 Rows.typesPlacesRow.domain false w args ∧ laidMetH Tryd.prog Rows.typesPlacesRow.laid w) ∧ sizedMet enc Tryd.prog Tryd.f5 (OpenSpec.ofChange Rows.typesPlacesSpec) false w args)
      (Rows.typesPlacesSpec.post enc Tryd.prog Tryd.f5 false true false false) := by
  refine returnsInHanded_of_change_and (C := Tryd.checked) (X := fun w _ => laidMetH Tryd.prog Rows.typesPlacesRow.laid w) (fun _ _ _ hh h => h.of_heap hh) own started (by kernel_rfl) Tryd.func5
    (ChangeSpec.witness_shaped (enc := enc) (C := Tryd.checked) (os := os) (X := fun w _ => laidMetH Tryd.prog Rows.typesPlacesRow.laid w) false (World.laidAll Tryd.prog os Rows.typesPlacesRow.laid) #[.slice Option.none 0 0] 8 (World.laidAll_os _ _ _)
      (World.shaped_of_ZipB (by kernel_rfl) (by kernel_rfl)) (by kernel_rfl) (by kernel_rfl) (by kernel_rfl)
      (by rw [MakeChecks.laidMetH_plain _ _ _ (by kernel_rfl)]; exact laidMet_laidAll _ (by kernel_rfl) (by kernel_rfl))) ?_
  intro W base args ds gs before hval0 hW _ hwt hL _
  have hW' := hW
  obtain ⟨p, q, hA0, hV, rfl, _, _⟩ := hW
  have hA : DataW.TrodAll enc Tryd.prog W 0 (fun _ => true) true Tryd.f5.params.toList args.toList ds p := hA0
  rw [Tryd.params5] at hA
  have hwt' : (DataW.weightsEach Tryd.prog (Tryd.f5.params.toList ++ Rows.typesPlacesSpec.plain.varTypes Tryd.prog) (ds ++ gs)).all (· ≤ reachBytes) = true := hwt
  rw [Tryd.params5] at hwt'
  obtain ⟨v0, d0, hargs, rfl, h0⟩ := trodAll_one hA
  obtain rfl : args = #[v0] := by
    first | exact hargs | (obtain ⟨l⟩ := args; simpa using hargs)
  obtain ⟨rfl, rfl⟩ := trodVars_none hV
  obtain ⟨fuel, hf⟩ := h0
  have hf : DataW.trod enc Tryd.prog W 0 (fun _ => true) true fuel 27 v0.cells.toList = some (d0, p) := hf
  have hcells : v0.cells.toList = [v0] := by
    obtain ⟨sv, prs, m, hsv, hat, _⟩ := openS Tryd.underlying27 cells40 hf (fun m hm => by
      have := List.all_eq_true.1 hwt' m (by simpa [DataW.weightsEach] using hm)
      simpa using this)
    cases v0 with
    | agg cs =>
      exfalso
      have hv := hval0 0 27 _ (by rw [Tryd.params5]; rfl) rfl
      obtain ⟨a0, len, cap, e⟩ := okWide_slice Tryd.underlying27 hv
      cases e
    | _ => rfl
  rw [hcells] at hf
  refine (places_calls (errs_of hL) hf (fun m hm => ?_)).mono fun e W' ⟨he, hB⟩ => ?_
  · have := List.all_eq_true.1 hwt' m (by simpa [DataW.weightsEach] using hm)
    simpa using this
  subst he
  have h1 : DataW.Trod enc Tryd.prog W 0 (fun b => decide (b < W.heap.size)) true 27 v0 d0 p :=
    DataW.Trod.respare kids full lt27 ⟨fuel, by rw [hcells]; exact hf⟩ (fun y hy => by simpa using DataW.trod_lt _ _ _ _ hf y hy)
  obtain ⟨n, hn⟩ := h1
  have h2 : DataW.Trod enc Tryd.prog W' 0 (fun b => decide (b < W.heap.size)) true 27 v0 d0 p :=
    ⟨n, DataW.trod_carry n _ _ _ hn (fun y hy => hB.same (DataW.trod_lt n _ _ _ hn y hy))⟩
  have hk : W.keptBut W' (fun _ => False) := (Am.Grew.of_below hB).kept _
  simp only [List.append_nil] at hW'
  exact ⟨_, rfl, _, _, _, [], _, [], hW', trodAll_mk1 (shut_bool Tryd.underlying4 _), trodAll_mk1 h2, rfl, World.keptBut_mono (fun _ h => h.elim) hk, fun h => by cases h⟩

theorem over : Rows.typesPlacesRow.holds Tryd.pinned (OpenSpec.ofChange Rows.typesPlacesSpec) :=
  OpenClaim.holds_of_wide 5 Tryd.f5 rfl rfl rfl rfl rfl rfl rfl ⟨rfl, rfl, rfl, rfl, rfl⟩ rfl rfl rfl rfl rfl (by kernel_rfl) Tryd.func5 (by kernel_rfl)
    (of_decide_eq_true (by kernel_rfl)) (by unfold Func.isWrapper; first | (rw [if_pos (by decide +kernel)]; kernel_rfl) | (rw [if_neg (by decide +kernel)]; exact ⟨rfl, rfl⟩))
    (fun os started H enc _ => lifted os started H enc)
end typesPlaces

/-- THE STATEMENT. -/
theorem typesPlaces_card : Rows.TypesPlacesCardSaid :=
  Claim7.holds_tied_plain_at .later [] [.data, .data, .data, .data, .sentinel, .sentinel, .pinned] true Rows.typesPlacesCard.stood.harness true
    typesPlaces.over (fun _ h => by cases h) (by kernel_rfl) (fun _ h => by cases h) typesPlaces_row_tie rfl ⟨rfl, rfl⟩ (by kernel_rfl) rfl
    (fun f fn hf hfn => by
      obtain rfl : f = 5 := Option.some.inj ((show Tryd.prog.funcNamed "plumbob/plumboblaw6.TypesPlaces" = some 5 by kernel_rfl).symm.trans hf) |>.symm
      obtain rfl : fn = Tryd.f5 := (Option.some.inj (Tryd.func5.symm.trans hfn)).symm
      exact ⟨by kernel_rfl, fun j t ht => by
        rw [Tryd.params5] at ht
        have hm : t ∈ [27] := by simpa using Array.mem_of_getElem? ht
        have hall : ([27].all fun u => !Tryd.prog.wantsStandIn u) = true := by kernel_rfl
        exact (show Tryd.prog.wantsStandIn t = false by simpa using List.all_eq_true.1 hall t hm)⟩)
    (by kernel_rfl)
#print axioms typesPlaces_card
end Go.Proofs.YtkkhpibnbaepiaaDoor
