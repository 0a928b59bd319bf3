/-
  Proves what a library's contract must say for the abstract machine to lean on it, and the machine's form of strconv.FormatInt at base 10. Each theorem states its own conditions; there are no others.
-/
import Derived.Test.YtdanfdimpcldiaaGreatDoorAm51
import Derived.Lib.LaidTab
import Derived.Shelf.Strconv.Itoa4
set_option linter.unusedSimpArgs false
set_option linter.unusedVariables false
set_option linter.unusedVariables false
set_option linter.unusedSectionVars false
namespace Go.Am

theorem grew_of_grow (w : World) (k : Nat) (os : Array Obj) : Grew w (Sort.grow (w.drewN k) os) := by
  refine ⟨by simp [Sort.grow, World.drewN], fun b hb => ?_, rfl, rfl, rfl⟩
  show (w.heap ++ os)[b]? = w.heap[b]?
  rw [Array.getElem?_append_left hb]

variable [Base]
/-- A contract that only grows the world, as the machine wants it. -/
theorem prim_of_calls {P : Program} {k : FuncId} {args' : Array Value} {ι : Inj} {h : AHeap} {w : World} {out : Out} (hH : HRel ι h w)
    (hc : Calls P k args' w fun e w' => OutRel ι out e ∧ Grew w w') : CallsIn Fence.wide 0 P k args' w fun e w' => ∃ ι', Ext ι h w ι' h w' ∧ OutRel ι' out e :=
  callsIn_wide.2 (hc.mono fun e w' ⟨h1, h2⟩ => ⟨ι, (Ext.refl hH).growWorld h2.size h2.old h2.os h2.tape h2.output, h1⟩)

/-- What a table holds when the run begins it holds ever after. -/
theorem tabIs_base {P : Program} {name : String} {k : IntKind} {zs : List Int} (hT : Lib.TabIs P Base.w name k zs) {ι : Inj} {h : AHeap} {w : World} (hH : HRel ι h w) : Lib.TabIs P w name k zs := by
  unfold Lib.TabIs World.var? at hT ⊢
  rw [Option.bind_eq_some_iff] at hT ⊢
  obtain ⟨g, hg, hv⟩ := hT
  refine ⟨g, hg, ?_⟩
  have hlt : g < Base.w.heap.size := by
    rcases Nat.lt_or_ge g Base.w.heap.size with h1 | h1
    · exact h1
    · rw [Array.getElem?_eq_none h1] at hv; cases hv
  rw [hH.base.old g hlt]; exact hv

noncomputable section
def digK : Nat → Nat → List UInt8
  | 0, _ => []
  | f + 1, n => bif Nat.blt n 10 then [UInt8.ofNat (48 + n)] else digK f (n / 10) ++ [UInt8.ofNat (48 + n % 10)]
def fmtPrim : List AV → AHeap → Option (Out × AHeap)
  | [.int .i64 (.ofNat n), .int .i64 (.ofNat b)], h => bif Nat.beq b 10 && Nat.blt n 9223372036854775808 then some (.ret (.str (digK 20 n)), h) else none
  | _, _ => none
end
theorem digK_eq : ∀ (f n : Nat), n < 10 ^ (f + 1) → digK (f + 1) n = Lib.decDigits n
  | 0, n, h => by
    have h' : n < 10 := by simpa using h
    have hb : Nat.blt n 10 = true := by rw [Nat.blt_eq]; exact h'
    simp only [digK, hb, cond_true]
    rw [Lib.decDigits, dif_pos h']
  | f + 1, n, h => by
    by_cases h' : n < 10
    · have hb : Nat.blt n 10 = true := by rw [Nat.blt_eq]; exact h'
      rw [Lib.decDigits, dif_pos h']
      show (bif Nat.blt n 10 then _ else _) = _
      rw [hb]; rfl
    · have hb : Nat.blt n 10 = false := by rw [Bool.eq_false_iff, Ne, Nat.blt_eq]; exact h'
      rw [Lib.decDigits, dif_neg h']
      show (bif Nat.blt n 10 then _ else _) = _
      rw [hb, cond_false, digK_eq f (n / 10) (by rw [Nat.pow_succ] at h; omega)]
/-- strconv.FormatInt, as the shelf's contract tells it, is right. -/
theorem fmtPrim_ok {P : Program} {k : FuncId} (hT : Lib.TabIs P Base.w "internal/strconv.uint64pow10" .u64 Lib.pow10Tab)
    (hc : ∀ (n : Int), -9223372036854775808 ≤ n → n ≤ 9223372036854775807 → ∀ w : World, Lib.TabIs P w "internal/strconv.uint64pow10" .u64 Lib.pow10Tab →
      Calls P k #[.int .i64 n, .int .i64 10] w fun e w' => e = .returned (.string ⟨(Lib.itoa n).toArray⟩) ∧ ∃ k os, w' = Sort.grow (w.drewN k) os)
    {args : List AV} {h : AHeap} {out : Out} {h' : AHeap} {ι : Inj} {w : World} {args' : Array Value} (hf : fmtPrim args h = some (out, h')) (hH : HRel ι h w) (hv : VsRel ι args args'.toList) :
    CallsIn Fence.wide 0 P k args' w fun e w' => ∃ ι', Ext ι h w ι' h' w' ∧ OutRel ι' out e := by
  unfold fmtPrim at hf
  split at hf
  · rename_i n b
    cases hc1 : Nat.beq b 10 && Nat.blt n 9223372036854775808 with
    | false => rw [hc1] at hf; cases hf
    | true =>
      rw [hc1] at hf
      simp only [cond_true, Option.some.injEq, Prod.mk.injEq] at hf
      obtain ⟨rfl, rfl⟩ := hf
      rw [Bool.and_eq_true, Nat.blt_eq] at hc1
      have hb : b = 10 := Nat.eq_of_beq_eq_true hc1.1
      subst hb
      obtain ⟨y, ys, e1, h1, hr⟩ := hv.inv
      obtain ⟨z, zs, e2, h2, hr2⟩ := hr.inv
      have := hr2.inv_nil
      subst this
      cases h1
      cases h2
      have e : args' = #[.int .i64 (.ofNat n), .int .i64 10] := by apply Array.ext'; simpa [e2] using e1
      rw [e]
      refine prim_of_calls hH ((hc (.ofNat n) (by simp <;> omega) (by simp <;> omega) w (tabIs_base hT hH)).mono fun e w' ⟨he, k, os, hw⟩ => ⟨?_, hw ▸ grew_of_grow w k os⟩)
      subst he
      have hd : digK 20 n = Lib.itoa (.ofNat n) := by
        rw [digK_eq 19 n (by have : (9223372036854775808 : Nat) < 10 ^ (19 + 1) := by decide
                             omega)]
        simp [Lib.itoa]
      rw [hd]
      exact VRel.str _
  · cases hf

/-! ### Texts that a function takes and answers with a nil pointer and a number -/
/-- The answer (nil, m). -/
def isErr (m : Nat) : Option (Out × AHeap) → Bool
  | some (.ret (.tup [.ptr none, .int .i64 (.ofNat k)]), _) => Nat.beq k m
  | _ => false
theorem isErr_spec {m : Nat} {r : Option (Out × AHeap)} (h : isErr m r = true) : ∃ h', r = some (.ret (.tup [.ptr none, .int .i64 (.ofNat m)]), h') := by
  unfold isErr at h
  split at h
  · rename_i k h'
    have := Nat.eq_of_beq_eq_true h
    subst this
    exact ⟨h', rfl⟩
  · cases h
omit [Base] in
theorem errText {E : Env} (hE : E.Ok) {n : Nat} {k : FuncId} {t : List UInt8} {m : Nat} (hr : isErr m ((machK E n).call k [.str t] noHeap) = true) (w : World) (hp : @PrimOk ⟨w⟩ E) :
    Calls E.P k #[.string ⟨t.toArray⟩] w fun e w' => e = .returned (.tuple #[.pointer none, .int .i64 (.ofNat m)]) ∧ Grew w w' := by
  letI : Base := ⟨w⟩
  rw [machK_eq] at hr
  obtain ⟨h', hr⟩ := isErr_spec hr
  refine (run_calls hE hp hr noHeap_rel (VsRel.cons (.str t) (VsRel.nil _))).mono fun e w' => ?_
  rintro ⟨ι', hext, hout⟩
  refine ⟨?_, hext.grew⟩
  cases e with
  | returned y =>
    have hy : VRel ι' (.tup [.ptr none, .int .i64 (.ofNat m)]) y := hout
    obtain ⟨cs, rfl, hcs⟩ := hy.tup_inv
    obtain ⟨a, l, e1, h1, hr1⟩ := hcs.inv
    obtain ⟨b, l2, e2, h2, hr2⟩ := hr1.inv
    have := hr2.inv_nil
    subst this
    cases h1
    cases h2
    have : cs = #[.pointer none, .int .i64 (.ofNat m)] := by apply Array.ext'; simpa [e2] using e1
    rw [this]
  | panicked c => exact hout.elim
  | _ => exact hout.elim
/-- A table of such texts. -/
def txtPrim (l : List (List UInt8 × Nat)) : List AV → AHeap → Option (Out × AHeap)
  | [.str t], h => match l.find? (fun x => sBeq x.1 t) with
    | some x => some (.ret (.tup [.ptr none, .int .i64 (.ofNat x.2)]), h)
    | none => none
  | _, _ => none
theorem txtPrim_ok {P : Program} {k : FuncId} {l : List (List UInt8 × Nat)}
    (hc : ∀ x ∈ l, ∀ w : World, (∀ {ι : Inj} {h : AHeap}, HRel ι h w → Calls P k #[.string ⟨x.1.toArray⟩] w fun e w' => e = .returned (.tuple #[.pointer none, .int .i64 (.ofNat x.2)]) ∧ Grew w w'))
    {args : List AV} {h : AHeap} {out : Out} {h' : AHeap} {ι : Inj} {w : World} {args' : Array Value} (hf : txtPrim l args h = some (out, h')) (hH : HRel ι h w) (hv : VsRel ι args args'.toList) :
    CallsIn Fence.wide 0 P k args' w fun e w' => ∃ ι', Ext ι h w ι' h' w' ∧ OutRel ι' out e := by
  unfold txtPrim at hf
  split at hf
  · rename_i t
    split at hf
    · rename_i x hx
      simp only [Option.some.injEq, Prod.mk.injEq] at hf
      obtain ⟨rfl, rfl⟩ := hf
      have hm := List.mem_of_find?_eq_some hx
      have he := List.find?_some hx
      have he' : x.1 = t := by have := sBeq_eq x.1 t; rw [show sBeq x.1 t = true from he] at this; simpa using this.symm
      obtain ⟨y, ys, e1, h1, hr⟩ := hv.inv
      have := hr.inv_nil
      subst this
      cases h1
      have e : args' = #[.string ⟨t.toArray⟩] := by apply Array.ext'; simpa using e1
      rw [e, ← he']
      refine prim_of_calls hH ((hc x hm w hH).mono fun e w' ⟨h1, h2⟩ => ⟨?_, h2⟩)
      subst h1
      exact VRel.tup' (VsRel.cons .ptrNil (VsRel.cons (.int _ _) (VsRel.nil _)))
    · cases hf
  · cases hf
/-- A closed function that is known to answer true. -/
def truePrim : List AV → AHeap → Option (Out × AHeap)
  | [], h => some (.ret (.bool true), h)
  | _, _ => none
theorem truePrim_ok {P : Program} {k : FuncId} {args : List AV} {h : AHeap} {out : Out} {h' : AHeap} {ι : Inj} {w : World} {args' : Array Value}
    (hc : Calls P k #[] w fun e w' => e = .returned (.bool true) ∧ Grew w w') (hf : truePrim args h = some (out, h')) (hH : HRel ι h w) (hv : VsRel ι args args'.toList) :
    CallsIn Fence.wide 0 P k args' w fun e w' => ∃ ι', Ext ι h w ι' h' w' ∧ OutRel ι' out e := by
  unfold truePrim at hf
  split at hf
  · simp only [Option.some.injEq, Prod.mk.injEq] at hf
    obtain ⟨rfl, rfl⟩ := hf
    have := hv.inv_nil
    have e : args' = #[] := by apply Array.ext'; simpa using this
    rw [e]
    refine prim_of_calls hH (hc.mono fun e w' ⟨h1, h2⟩ => ⟨?_, h2⟩)
    subst h1
    exact VRel.bool true
  · cases hf
end Go.Am
