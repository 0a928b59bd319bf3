/-
  Proves that the abstract machine's form of internal/bytealg.IndexByteString answers as the model's. Each theorem states its own conditions; there are no others.
-/
import Derived.Test.YtdanfdimpcldiaaGreatDoorAm30
import Derived.Lib.Bytealg
set_option linter.unusedSimpArgs false
set_option linter.unusedVariables false
set_option linter.unusedVariables false
namespace Go.Am
noncomputable section

/-! ### Functions of the library without a body -/
def idxB (c : UInt8) : List UInt8 → Nat → Int
  | [], _ => -1
  | b :: l, i => if b == c then i else idxB c l (i + 1)
theorem idxB_eq (c : UInt8) : ∀ (l : List UInt8) (i : Nat), idxB c l i = if Lib.indexByte l c = -1 then -1 else Lib.indexByte l c + i
  | [], i => by simp [idxB, Lib.indexByte]
  | b :: l, i => by
    have hge := Lib.indexByte_ge l c
    simp only [idxB, Lib.indexByte]
    by_cases hb : (b == c) = true
    · simp [hb]
    · simp only [hb, Bool.false_eq_true, if_false]
      rw [idxB_eq c l (i + 1)]
      by_cases h1 : Lib.indexByte l c = -1
      · simp [h1]
      · have h2 : (Lib.indexByte l c == -1) = false := by simpa using h1
        simp only [h1, h2, if_false, Bool.false_eq_true]
        rw [if_neg (by omega)]
        push_cast
        omega
def extIndexByteString : List AV → Option AV
  | [.str s, .int .u8 c] => some (.int .i64 (idxB c.toNat.toUInt8 s 0))
  | _ => none

theorem extIndexByteString_ok {P : Program} {k : FuncId} {fn : Func} (hf : P.funcs[k]? = some fn) (hn : (fn.name == "runtime.NumGoroutine") = false) (hb : fn.body.isNone = true) (hx : Extern.findNext fn = none)
    (he : Extern.find fn = some Extern.BytealgIndexByte.indexByte) : ExtOk P k extIndexByteString := by
  refine ⟨fn, _, hf, hn, by simpa using hb, hx, he, ?_⟩
  intro ι args v args' w h hv
  unfold extIndexByteString at h
  split at h
  · rename_i s c
    simp at h; subst h
    obtain ⟨y, ys, e1, h1, hr⟩ := hv.inv
    obtain ⟨z, zs, e2, h2, hr2⟩ := hr.inv
    have := hr2.inv_nil
    subst this
    cases h1
    cases h2
    have : args' = #[.string ⟨s.toArray⟩, .int .u8 c] := by apply Array.ext'; simpa [e2] using e1
    rw [this]
    refine ⟨_, Lib.run_indexByteString _ _ _, ?_⟩
    rw [idxB_eq]
    have : (if Lib.indexByte s c.toNat.toUInt8 = -1 then (-1 : Int) else Lib.indexByte s c.toNat.toUInt8 + ((0 : Nat) : Int)) = Lib.indexByte s c.toNat.toUInt8 := by
      split <;> simp_all
    rw [this]
    simpa using VRel.int _ _
  · simp at h

/-- A short list of functions by their numbers. -/
def tabOf {α : Type} : List (Nat × α) → Nat → Option α
  | [], _ => none
  | (k, a) :: r, n => bif Nat.beq n k then some a else tabOf r n
theorem tabOf_mem {α : Type} {l : List (Nat × α)} {n : Nat} {a : α} (h : tabOf l n = some a) : (n, a) ∈ l := by
  induction l with
  | nil => simp [tabOf] at h
  | cons x r ih =>
    obtain ⟨k, b⟩ := x
    simp only [tabOf] at h
    cases hk : Nat.beq n k with
    | true =>
      rw [hk] at h
      simp at h; subst h
      rw [Nat.eq_of_beq_eq_true hk]
      simp
    | false =>
      rw [hk] at h
      simp at h
      exact List.mem_cons_of_mem _ (ih h)
end
end Go.Am
