/-
  ClightKnown: the run of a function that calls itself, told by a Lean function, is right. Each theorem states its own conditions; there are no others.
-/
import Derived.Test.YtdanfdimpcldiaaGreatDoorW1
import Derived.Test.YtdanfdimpcldiaaGreatDoorAm62
import Derived.Test.YtdanfdimpcldiaaGreatDoorChecked
set_option maxRecDepth 100000
set_option linter.unusedSimpArgs false
set_option linter.unusedVariables false
set_option maxHeartbeats 0
namespace Go.Proofs.YtdanfdimpcldiaaGreatDoor
open Go.Am
theorem ext_ok : ∀ k f, ext k = some f → ExtOk Tryz.prog k f := by
  intro k f h
  have := tabOf_mem h
  simp only [List.mem_cons, List.not_mem_nil, or_false, Prod.mk.injEq] at this
  obtain ⟨rfl, rfl⟩ := this
  exact extIndexByteString_ok Tryz.func192 (by kernel_rfl) (by kernel_rfl) (by kernel_rfl) (by kernel_rfl)
theorem env1_ok : env1.Ok := envOf_ok _ _ _ (by kernel_rfl) ext_ok
theorem env1_prims (W : World) : @PrimOk ⟨W⟩ env1 := fun h => by cases h
/-- The run's object, taken apart. -/
structure Rr where
  p : Nat
  mm : AV
  ww : AV
  lf : Int
  kd : AV
  ex : AV
  ev : AV
  j : Nat
  n : Nat
  sp : Int
  gl : AV
  cc : Int
  by_ : AV
def asP : AV → Option Nat
  | .ptr (some (i, 0)) => some i
  | _ => none
def asS : AV → Option (Nat × Nat)
  | .slice (some (i, 0)) n => some (i, n)
  | _ => none
def asI : AV → Option Int
  | .int .i64 n => some n
  | _ => none
theorem asP_eq {v : AV} {i : Nat} (h : asP v = some i) : v = .ptr (some (i, 0)) := by
  unfold asP at h
  split at h
  · injection h with h; subst h; rfl
  · cases h
theorem asS_eq {v : AV} {x : Nat × Nat} (h : asS v = some x) : v = .slice (some (x.1, 0)) x.2 := by
  unfold asS at h
  split at h
  · injection h with h; subst h; rfl
  · cases h
theorem asI_eq {v : AV} {i : Int} (h : asI v = some i) : v = .int .i64 i := by
  unfold asI at h
  split at h
  · injection h with h; subst h; rfl
  · cases h
def rdR : List AV → Option Rr
  | [a0, a1, a2, a3, a4, a5, a6, a7, a8, a9, a10, a11] => match asP a0, asI a3, asS a7, asI a8, asI a10 with
    | some p, some lf, some (j, n), some sp, some cc => some ⟨p, a1, a2, lf, a4, a5, a6, j, n, sp, a9, cc, a11⟩
    | _, _, _, _, _ => none
  | _ => none
theorem rdR_eq {l : List AV} {r : Rr} (h : rdR l = some r) : l = rc (.ptr (some (r.p, 0))) r.mm r.ww r.lf r.kd r.ex r.ev (.slice (some (r.j, 0)) r.n) r.sp r.gl r.cc r.by_ := by
  unfold rdR at h
  split at h
  · split at h
    · rename_i h0 h3 h7 h8 h10
      injection h with h
      subst h
      rw [asP_eq h0, asI_eq h3, asS_eq h7, asI_eq h8, asI_eq h10]
      rfl
    · cases h
  · cases h
noncomputable def allSh (δ : Nat) (h : AHeap) : List (Nat × AObj) → Bool
  | [] => true
  | x :: r => oBeq (h.get (Nat.add δ x.1)) (shO δ x.2) && allSh δ h r
theorem allSh_mem {δ : Nat} {h : AHeap} : ∀ {l : List (Nat × AObj)}, allSh δ h l = true → ∀ x ∈ l, h.get (δ + x.1) = some (shO δ x.2)
  | [], _, x, hx => by cases hx
  | y :: r, h1, x, hx => by
    simp only [allSh, Bool.and_eq_true] at h1
    rcases List.mem_cons.1 hx with rfl | hx
    · exact oBeq_eq h1.1
    · exact allSh_mem h1.2 x hx
noncomputable def rangeNone (h : AHeap) (a : Nat) : Nat → Bool
  | 0 => true
  | n + 1 => (match h.get (Nat.add a n) with | none => true | _ => false) && rangeNone h a n
theorem rangeNone_spec {h : AHeap} {a : Nat} : ∀ {n : Nat}, rangeNone h a n = true → ∀ i, a ≤ i → i < a + n → h.get i = none
  | 0, _, i, h1, h2 => by omega
  | n + 1, hr, i, h1, h2 => by
    simp only [rangeNone, Bool.and_eq_true] at hr
    by_cases e : i = a + n
    · subst e
      have := hr.1
      have e2 : h.get (Nat.add a n) = h.get (a + n) := rfl
      rw [e2] at this
      cases hg : h.get (a + n) with
      | none => rfl
      | some o => rw [hg] at this; cases this
    · exact rangeNone_spec hr.2 i h1 (by omega)
noncomputable def lkB (h : AHeap) (j n : Nat) : Bool := match h.get j with
  | some (.cells true 3 cs) => Nat.beq cs.length (n * 3)
  | _ => false
noncomputable def entOk (δ R : Nat) (r : Rr) (h : AHeap) : Bool :=
  Nat.beq r.p (δ + 617) && (Nat.ble (δ + 1157) R && (Nat.ble (R + 1) r.j && (Nat.ble (r.j + 1) h.next && (allSh δ h toldD.objs && (lkB h r.j r.n && (rangeNone h (r.j + 1) (h.next - (r.j + 1)) &&
    (decide (0 ≤ r.cc) && (decide (r.cc ≤ 1000) && (decide (3 * (1000 - r.cc) ≤ r.lf) && (decide (r.lf ≤ 100000) && (decide (0 ≤ r.sp) && (decide (r.sp + 3 * (1000 - r.cc) ≤ 80000) && Nat.ble (r.n + (1000 - r.cc).toNat) 90000))))))))))))
noncomputable def enterPrim : List AV → AHeap → Option (Out × AHeap)
  | [a, b, .slice none 0], h => match asP a, asP b with
    | some R, some F => match h.get R with
      | some (.cells true 0 cs) => match rdR cs with
        | some r => bif Nat.ble 707 F && entOk (F - 707) R r h then
            some (.pan stuckV, (((h.set R (.cells true 0 (rc (.ptr (some (r.p, 0))) r.mm r.ww (r.lf - 3 * (1000 - r.cc)) r.kd r.ex r.ev (.slice (some (h.next, 0)) (r.n + (1000 - r.cc).toNat)) (r.sp + 3 * (1000 - r.cc)) r.gl 1000 r.by_))).set r.j .dead).alloc .dead).2)
          else none
        | none => none
      | _ => none
    | _, _ => none
  | _, _ => none
theorem slice_id {ι : Inj} {id off len : Nat} {y : Value} (h : VRel ι (.slice (some (id, off)) len) y) : ∃ L, ι id = some L := by
  cases h with
  | slice hi _ _ => exact ⟨_, hi⟩
  | sliceEnd hi _ => exact ⟨_, hi⟩
theorem slice_to {ι ι2 : Inj} {id id2 off len : Nat} {y : Value} (h : VRel ι (.slice (some (id, off)) len) y) (hh : ∀ L, ι id = some L → ι2 id2 = some L) : VRel ι2 (.slice (some (id2, off)) len) y := by
  cases h with
  | slice hi hc ht => exact .slice (hh _ hi) hc ht
  | sliceEnd hi ht => exact .sliceEnd (hh _ hi) ht
variable [Base]
theorem env1_prims' : PrimOk env1 := fun h => by cases h
theorem enterPrim_ok {args : List AV} {h : AHeap} {out : Out} {h' : AHeap} {ι : Inj} {w : World} {args' : Array Value} (hf : enterPrim args h = some (out, h')) (hH : HRel ι h w) (hv : VsRel ι args args'.toList) :
    CallsIn Fence.wide 0 Tryz.prog 28 args' w fun e w' => ∃ ι', Ext ι h w ι' h' w' ∧ OutRel ι' out e := by
  unfold enterPrim at hf
  split at hf
  · rename_i a b
    split at hf
    · rename_i R F ha hb
      have ha := asP_eq ha
      have hb := asP_eq hb
      subst ha hb
      split at hf
      · rename_i cs hcs
        split at hf
        · rename_i r hr
          have hr := rdR_eq hr
          subst hr
          cases hc : (Nat.ble 707 F && entOk (F - 707) R r h) with
          | false => rw [hc] at hf; cases hf
          | true =>
            rw [hc] at hf
            simp only [cond_true, Option.some.injEq, Prod.mk.injEq] at hf
            obtain ⟨rfl, rfl⟩ := hf
            simp only [Bool.and_eq_true, entOk, Nat.ble_eq, Nat.beq_eq_true_eq, decide_eq_true_eq] at hc
            obtain ⟨hF, hp, hR, hRj, hjn, hall, hlk, hrn, c1, c2, c3, c4, c5, c6, c7⟩ := hc
            obtain ⟨δ, rfl⟩ : ∃ δ, F = δ + 707 := ⟨F - 707, by omega⟩
            rw [show δ + 707 - 707 = δ by omega] at hp hR hall
            have hob := allSh_mem hall
            have hp : r.p = δ + 617 := by first | exact hp | exact Nat.eq_of_beq_eq_true hp
            obtain ⟨d, hd⟩ : ∃ d : Ids, d = ⟨δ + 617, δ + 854, δ + 707, δ + 822, δ + 859, δ + 1006, δ + 873, δ + 1005, δ + 1004, δ + 970, R, r.j, r.mm, r.ww, r.kd, r.ex, r.ev, r.gl, r.by_⟩ := ⟨_, rfl⟩
            have hl : IdLt d := by
              subst hd
              exact ⟨by dsimp only; omega, by dsimp only; omega, by dsimp only; omega, by dsimp only; omega, by dsimp only; omega, by dsimp only; omega, by dsimp only; omega, by dsimp only; omega, by dsimp only; omega, by dsimp only; omega⟩
            have hAst : AstD d h := by
              subst hd
              simp only [toldD, List.forall_mem_cons] at hob
              obtain ⟨o617, o707, o822, o854, o859, o873, o970, o1004, o1005, o1006, _⟩ := hob
              exact ⟨⟨_, _, _, o617⟩, o854, ⟨_, _, _, _, o707⟩, o859, o1006, o873, o1005, o1004, o970⟩
            have hk : ((1000 - r.cc).toNat : Int) = 1000 - r.cc := Int.toNat_of_nonneg (by omega)
            have hlk' : LkAt h r.j r.n := by
              unfold lkB at hlk
              split at hlk
              · rename_i cs hcs'
                exact ⟨cs, hcs', Nat.eq_of_beq_eq_true hlk⟩
              · cases hlk
            have hSx : Sx d r.lf r.sp r.n r.cc h := by
              refine ⟨hAst, ⟨r.j, ?_, hlk', ?_, by omega⟩, ?_⟩
              · subst hd
                rw [hp] at hcs
                exact hcs
              · subst hd; exact Nat.le_refl _
              · subst hd; dsimp only; omega
            have hw := enter_w d hl (1000 - r.cc).toNat h r.lf r.sp r.n r.cc hSx (by omega) c1 (by omega) c4 c5 (by omega) c7
            rw [hk] at hw
            have hdR : d.R = R := by rw [hd]
            have hdF : d.F = δ + 707 := by rw [hd]
            have hdb : d.b = r.j := by rw [hd]
            rw [hdR, hdF] at hw
            refine callsIn_wide.2 ((Am.WCall.calls env1_ok env1_prims' hw hH hv).mono ?_)
            rintro e w' ⟨out, hf', ιf, ⟨v, rfl, rfl, ⟨_, ⟨jf, hRf, _, hbf, _⟩, _⟩, hFr⟩, hx, ho⟩
            have hRf : hf'.get R = some (.cells true 0 (rc (.ptr (some (r.p, 0))) r.mm r.ww (r.lf - 3 * (1000 - r.cc)) r.kd r.ex r.ev (.slice (some (jf, 0)) (r.n + (1000 - r.cc).toNat)) (r.sp + 3 * (1000 - r.cc)) r.gl 1000 r.by_)) := by
              subst hd
              rw [hp]
              exact hRf
            rw [hdb] at hbf
            obtain ⟨y, ys, e1, v1, hr1⟩ := hv.inv
            obtain ⟨LR, hLR⟩ : ∃ L, ι R = some L := by
              cases v1 with | ptr hi => exact ⟨_, hi⟩
            obtain ⟨o0, ho0, hor⟩ := hH.obj R LR hLR
            rw [hcs] at ho0
            injection ho0 with ho0
            subst ho0
            obtain ⟨_, _, _, c', e', fz', _, _, hcell0⟩ := hor
            have h0 : ∀ (i : Nat) (x : AV), (rc (.ptr (some (r.p, 0))) r.mm r.ww r.lf r.kd r.ex r.ev (.slice (some (r.j, 0)) r.n) r.sp r.gl r.cc r.by_)[i]? = some x → ∃ y0, VRel ι x y0 := fun i x hx => by
              obtain ⟨y, _, hy⟩ := hcell0 i x hx
              exact ⟨y, hy⟩
            have hιj : ∃ L, ι r.j = some L := by
              obtain ⟨y0, hy0⟩ := h0 7 _ rfl
              exact slice_id hy0
            obtain ⟨csj, hcsj, _⟩ := hlk'
            have hle1 : ι.le ιf := hx.le hH
            have hle2 : ι.le (rebI ι h.next (ιf jf)) := fun i L hi => by rw [rebI, if_pos (hH.lt i L hi)]; exact hi
            have same : ∀ (i : Nat) (x : AV), (rc (.ptr (some (r.p, 0))) r.mm r.ww r.lf r.kd r.ex r.ev (.slice (some (r.j, 0)) r.n) r.sp r.gl r.cc r.by_)[i]? = some x → ∀ y, VRel ιf x y → VRel (rebI ι h.next (ιf jf)) x y := fun i x hx y hy => by
              obtain ⟨y0, k0⟩ := h0 i x hx
              exact VRel.restr hle1 hle2 k0 hy
            refine ⟨rebI ι h.next (ιf jf), Ext.rebase hH hx (by omega) (by omega) (by omega) hcs hRf ⟨LR, hLR⟩ hιj ⟨3, csj, hcsj⟩ rfl ?_ (fun i h1 h2 => hFr.old i (by rw [hdb]; exact h1) (by rw [hdR]; exact h2)) (fun i hi => ?_) hbf, ?_⟩
            · intro i x2 hx2
              unfold rc at hx2 ⊢
              match i, hx2 with
              | 0, hx2 => exact ⟨_, hx2, same 0 x2 hx2⟩
              | 1, hx2 => exact ⟨_, hx2, same 1 x2 hx2⟩
              | 2, hx2 => exact ⟨_, hx2, same 2 x2 hx2⟩
              | 3, hx2 =>
                refine ⟨_, hx2, fun y hy => ?_⟩
                simp only [List.getElem?_cons_zero, List.getElem?_cons_succ, Option.some.injEq] at hx2
                subst hx2
                cases hy; exact .int _ _
              | 4, hx2 => exact ⟨_, hx2, same 4 x2 hx2⟩
              | 5, hx2 => exact ⟨_, hx2, same 5 x2 hx2⟩
              | 6, hx2 => exact ⟨_, hx2, same 6 x2 hx2⟩
              | 7, hx2 =>
                simp only [List.getElem?_cons_zero, List.getElem?_cons_succ, Option.some.injEq] at hx2
                subst hx2
                refine ⟨_, rfl, fun y hy => ?_⟩
                have hh : ∀ L, ιf jf = some L → rebI ι h.next (ιf jf) h.next = some L := fun L hL => by rw [rebI, if_neg (by omega), if_pos rfl]; exact hL
                exact slice_to hy hh
              | 8, hx2 =>
                refine ⟨_, hx2, fun y hy => ?_⟩
                simp only [List.getElem?_cons_zero, List.getElem?_cons_succ, Option.some.injEq] at hx2
                subst hx2
                cases hy; exact .int _ _
              | 9, hx2 => exact ⟨_, hx2, same 9 x2 hx2⟩
              | 10, hx2 =>
                refine ⟨_, hx2, fun y hy => ?_⟩
                simp only [List.getElem?_cons_zero, List.getElem?_cons_succ, Option.some.injEq] at hx2
                subst hx2
                cases hy; exact .int _ _
              | 11, hx2 => exact ⟨_, hx2, same 11 x2 hx2⟩
              | n + 12, hx2 => simp at hx2
            · by_cases h1 : i < h.next
              · exact rangeNone_spec hrn i (by omega) (by omega)
              · exact hH.fresh i (by omega)
            · cases e with
              | panicked chain =>
                obtain ⟨y, hy1, hy2⟩ := (show PanRel ιf stuckV chain from ho)
                refine ⟨y, hy1, ?_⟩
                unfold stuckV at hy2 ⊢
                refine VRel.restr (ι := noInj) (y0 := .iface 79 (.agg #[.int .i64 3])) (fun i L hi => by cases hi) (fun i L hi => by cases hi) ?_ hy2
                exact .iface _ (.agg' (VsRel.cons (.int _ _) (VsRel.nil _)))
              | _ => exact ho.elim
        · cases hf
      · cases hf
    · cases hf
  · cases hf
end Go.Proofs.YtdanfdimpcldiaaGreatDoor
