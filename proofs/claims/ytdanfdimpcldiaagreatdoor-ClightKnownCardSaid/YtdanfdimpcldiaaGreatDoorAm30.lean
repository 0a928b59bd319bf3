/-
  Reads the abstract machine's environment off a program and proves it right. Each theorem states its own conditions; there are no others.
-/
import Derived.Test.YtdanfdimpcldiaaGreatDoorAm19
set_option linter.unusedSimpArgs false
set_option linter.unusedVariables false
set_option linter.unusedVariables false
namespace Go.Am
noncomputable section

def flatL (P : Program) : List Field → Option (List (Nat × Nat))
  | [] => some []
  | f :: fs => if f.name == "_" then none else
    match (match P.underlying f.type with
      | some .bool => some 0
      | some .string => some 1
      | some (.int _) => some 2
      | _ => none), flatL P fs with
    | some k, some r => some ((f.offset, k) :: r)
    | _, _ => none
theorem flatL_ok (P : Program) : ∀ (fs : List Field) (l : List (Nat × Nat)), flatL P fs = some l → FlatOk P fs l
  | [], l, h => by simp [flatL] at h; subst h; trivial
  | f :: fs, l, h => by
    simp only [flatL] at h
    split at h
    · simp at h
    · rename_i hn
      split at h
      · rename_i k r hk hr
        simp at h; subst h
        refine ⟨by simpa using hn, rfl, ?_, flatL_ok P fs r hr⟩
        split at hk
        · rename_i hu; simp at hk; subst hk; exact .inl ⟨rfl, hu⟩
        · rename_i hu; simp at hk; subst hk; exact .inr (.inl ⟨rfl, hu⟩)
        · rename_i q hu; simp at hk; subst hk; exact .inr (.inr ⟨rfl, q, hu⟩)
        · simp at hk
      · simp at h

def zeroOk (P : Program) (t : TypeId) (z : Value) : Bool :=
  match P.underlying t with
  | some (.struct _) | some (.array _ _) => match z with
    | .agg _ => true
    | _ => false
  | some _ => z.oneCell'
  | none => true

/-- What the machine knows of a program: read off it. -/
def envOf (P : Program) (ext : FuncId → Option (List AV → Option AV)) (prim : FuncId → Option (List AV → AHeap → Option (Out × AHeap))) : Env where
  P := P
  fn k := match P.funcs[k]? with
    | some f => if f.name == "runtime.NumGoroutine" then none else some f
    | none => none
  und t := P.underlying t
  siz t := match P.info? t with
    | some i => some i.size
    | none => none
  byt t := match P.info? t with
    | some i => some (i.bytes - 1)
    | none => none
  zer t := match P.info? t with
    | some i => match i.zero with
      | some z => if zeroOk P t z then toAVs z.cells.toList else none
      | none => none
    | none => none
  flat t := match P.underlying t with
    | some (.struct fs) => if P.stoodInHeld t || P.eqGuardType P.depth t then none else flatL P fs.toList
    | _ => none
  ext := ext
  prim := prim

theorem envOf_ok (P : Program) (ext : FuncId → Option (List AV → Option AV)) (prim : FuncId → Option (List AV → AHeap → Option (Out × AHeap))) (hm : P.follows .mixedOrders = true) (hx : ∀ k f, ext k = some f → ExtOk P k f) : (envOf P ext prim).Ok where
  ext := hx
  fn k f h := by
    simp only [envOf] at h
    split at h
    · rename_i f' hf
      split at h
      · simp at h
      · rename_i hn; simp at h; subst h; exact ⟨hf, by simpa using hn⟩
    · simp at h
  und t d h := h
  siz t n h := by
    simp only [envOf] at h
    split at h
    · rename_i i hi; simp at h; subst h; exact ⟨i, hi, rfl⟩
    · simp at h
  byt t n h := by
    simp only [envOf] at h
    split at h
    · rename_i i hi; simp at h; subst h; exact ⟨i, hi, by omega⟩
    · simp at h
  zer t l h := by
    simp only [envOf] at h
    split at h
    · rename_i i hi
      split at h
      · rename_i z hz
        split at h
        · rename_i hk
          refine ⟨i, z, hi, hz, h, fun ha => ?_, fun ha => ?_⟩
          · simp only [Env.isAgg, envOf] at ha
            unfold zeroOk at hk
            cases hu : P.underlying t with
            | none => rw [hu] at ha; simp at ha
            | some d =>
              rw [hu] at ha hk
              cases d <;> simp at ha <;> (cases z <;> simp at hk; exact ⟨_, rfl⟩)
          · simp only [Env.isAgg, envOf] at ha
            unfold zeroOk at hk
            cases hu : P.underlying t with
            | none => rw [hu] at ha; simp at ha
            | some d =>
              rw [hu] at ha hk
              cases d <;> simp at ha <;> simpa using hk
        · simp at h
      · simp at h
    · simp at h
  flat t offs h := by
    simp only [envOf] at h
    split at h
    · rename_i fs hu
      split at h
      · simp at h
      · rename_i hc
        simp at hc
        exact ⟨fs, hu, hc.1, hc.2, flatL_ok P _ _ h⟩
    · simp at h
  mixed := hm

/-- Does a run end with true? -/
def isTrue : Option (Out × AHeap) → Bool
  | some (.ret (.bool true), _) => true
  | _ => false
theorem isTrue_spec {r : Option (Out × AHeap)} (h : isTrue r = true) : ∃ h', r = some (.ret (.bool true), h') := by
  unfold isTrue at h
  split at h
  · exact ⟨_, rfl⟩
  · cases h
end
end Go.Am
