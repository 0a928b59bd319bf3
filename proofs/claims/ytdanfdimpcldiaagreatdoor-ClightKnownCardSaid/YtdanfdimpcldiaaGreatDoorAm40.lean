/-
  Proves that more fuel changes nothing: what the abstract machine carries out with some fuel it carries out with more. No condition.
-/
import Derived.Test.YtdanfdimpcldiaaGreatDoorAm32
set_option linter.unusedSimpArgs false
set_option linter.unusedVariables false
set_option linter.unusedVariables false
set_option linter.unusedSimpArgs false
namespace Go.Am
variable {E : Env}

def CallF.le (c c' : CallF) : Prop := ∀ k a h r, c k a h = some r → c' k a h = some r
def RoundF.le (c c' : RoundF) : Prop := ∀ k a h r, c k a h = some r → c' k a h = some r

section
variable {call call' : CallF} {round round' : RoundF}

theorem resA_mono (hc : call.le call') (hr : round.le round') {d : Option Tmp} {st : St} {x : ORes × AHeap} {r : Option AV × St} (h : resA call round d st x = some r) : resA call' round' d st x = some r := by
  obtain ⟨o, hp⟩ := x
  cases o with
  | enter f args =>
    simp only [resA] at h ⊢
    split at h
    · rename_i h1; rw [hc _ _ _ _ h1]; exact h
    · rename_i h1; rw [hc _ _ _ _ h1]; exact h
    · cases h
  | yield l args =>
    simp only [resA] at h ⊢
    split at h
    · rename_i h1; rw [hr _ _ _ _ h1]; exact h
    · cases h
  | _ => exact h

theorem opsA_mono (hc : call.le call') (hr : round.le round') {ops : Array Oper} : ∀ {l : List Oper} {st : St} {r : AExit × St}, opsA E call round ops l st = some r → opsA E call' round' ops l st = some r
  | [], st, r, h => h
  | o :: l, st, r, h => by
    simp only [opsA] at h ⊢
    split at h
    · cases h
    · exact opsA_mono hc hr h
    · split at h
      · cases h
      · split at h
        · cases h
        · rename_i h1; rw [resA_mono hc hr h1]; exact opsA_mono hc hr h
        · rename_i h1; rw [resA_mono hc hr h1]; exact h

theorem drawA_mono (hc : call.le call') (hr : round.le round') {ops : Array Oper} {bef : Nat → Nat} {base : Nat} : ∀ {l : List (Oper × Nat)} {st : St} {sn : List Snap} {rd : List Rd} {r : AExit × St},
    drawA E call round ops bef base l st sn rd = some r → drawA E call' round' ops bef base l st sn rd = some r
  | [], st, sn, rd, r, h => h
  | (o, i) :: l, st, sn, rd, r, h => by
    simp only [drawA] at h ⊢
    split at h
    · cases h
    · exact drawA_mono hc hr h
    · split at h
      · cases h
      · exact drawA_mono hc hr h
      · split at h
        · rename_i hs; rw [if_pos hs]; exact drawA_mono hc hr h
        · cases h
      · split at h
        · exact drawA_mono hc hr h
        · cases h
      · split at h
        · rename_i hs
          rw [if_pos hs]
          split at h
          · cases h
          · rename_i h1
            rw [resA_mono hc hr h1]
            simp only at h ⊢
            split at h
            · rename_i hs2; rw [if_pos hs2]; exact drawA_mono hc hr h
            · cases h
          · rename_i h1
            rw [resA_mono hc hr h1]
            exact h
        · cases h
      · cases h

theorem loopA_mono {f f' : St → Option (AExit × St)} (hf : ∀ st r, f st = some r → f' st = some r) : ∀ {n m : Nat} (_ : n ≤ m) {st : St} {r : AExit × St}, loopA f n st = some r → loopA f' m st = some r
  | 0, m, _, st, r, h => by simp [loopA] at h
  | n + 1, 0, hn, st, r, h => by omega
  | n + 1, m + 1, hn, st, r, h => by
    simp only [loopA] at h ⊢
    split at h
    · rename_i h1
      rw [hf _ _ h1]
      exact loopA_mono hf (by omega) h
    · rename_i h1
      rw [hf _ _ h]
      split
      · rename_i h2; cases h2; exact (h1 _ h).elim
      · rfl

theorem codeA_mono (hc : call.le call') (hr : round.le round') {n m : Nat} (hn : n ≤ m) : ∀ {c : Code} {st : St} {r : AExit × St}, codeA E call round n c st = some r → codeA E call' round' m c st = some r := by
  intro c
  induction c with
  | region id ops d =>
    intro st r h
    cases d with
    | false => exact opsA_mono hc hr h
    | true =>
      simp only [codeA, drawReg] at h ⊢
      split at h
      · rename_i hd; rw [if_pos hd]; exact drawA_mono hc hr h
      · cases h
  | seq a b iha ihb =>
    intro st r h
    simp only [codeA] at h ⊢
    split at h
    · rename_i h1; rw [iha h1]; exact ihb h
    · rename_i h1
      rw [iha h]
      split
      · rename_i h2; cases h2; exact (h1 _ h).elim
      · rfl
  | cond o a b iha ihb =>
    intro st r h
    simp only [codeA] at h ⊢
    split at h
    · exact iha h
    · exact ihb h
    · cases h
  | block id b ih =>
    intro st r h
    simp only [codeA] at h ⊢
    split at h
    · rename_i h1; rw [ih h1]; exact h
    · rename_i h1
      rw [ih h]
      split
      · rename_i h2; cases h2; exact (h1 _ _ h).elim
      · rfl
  | loop b ih =>
    intro st r h
    simp only [codeA] at h ⊢
    exact loopA_mono (fun st r h => ih h) hn h
  | scope b ih => intro st r h; exact ih (st := st) h
  | rangeFunc f ps as b iha ihb =>
    intro st r h
    simp only [codeA] at h ⊢
    split at h
    · split at h
      · cases h
      · rename_i hb
        rw [if_neg hb]
        split at h
        · rename_i h1
          rw [hc _ _ _ _ h1]
          exact h
        · cases h
    · cases h
  | _ => intro st r h; exact h

theorem roundA_mono (hc : call.le call') (hr : round.le round') {n m : Nat} (hn : n ≤ m) : (roundA E call round n).le (roundA E call' round' m) := by
  intro l args hp r h
  simp only [roundA] at h ⊢
  split at h
  · split at h
    · rename_i hif
      rw [if_pos hif]
      split at h
      · rename_i h1
        rw [codeA_mono hc hr hn h1]
        simp only at h ⊢
        split at h
        · split at h
          · rename_i h2
            rw [codeA_mono hc hr hn h2]
            exact h
          · cases h
        · cases h
      · cases h
    · cases h
  · cases h

theorem codeS_mono (hc : call.le call') (hr : round.le round') {n m : Nat} (hn : n ≤ m) : ∀ {c : Code} {st : St} {p : Option AV} {r : AExit × St × Option AV}, codeS E call round n c st p = some r → codeS E call' round' m c st p = some r := by
  intro c
  have plain : ∀ {c : Code} {st : St} {p : Option AV} {r : AExit × St × Option AV}, (match codeA E call round n c st with | some (e, st') => some (e, st', p) | none => none) = some r → (match codeA E call' round' m c st with | some (e, st') => some (e, st', p) | none => none) = some r := by
    intro c st p r h
    split at h
    · rename_i h1; rw [codeA_mono hc hr hn h1]; exact h
    · cases h
  induction c with
  | seq a b iha ihb =>
    intro st p r h
    simp only [codeS] at h ⊢
    split at h
    · rename_i h1; rw [iha h1]; exact ihb h
    · rename_i h1
      rw [iha h]
      split
      · rename_i h2; cases h2; exact (h1 _ _ h).elim
      · rfl
  | region id ops d =>
    intro st p r h
    cases d with
    | false =>
      simp only [codeS] at h ⊢
      split at h
      · rename_i hi; rw [if_pos hi]; exact h
      · rename_i hi; rw [if_neg hi]; exact plain h
    | true => exact plain h
  | cond o a b iha ihb =>
    intro st p r h
    simp only [codeS] at h ⊢
    split at h
    · exact iha h
    · exact ihb h
    · cases h
  | _ =>
    intro st p r h
    simp only [codeS] at h ⊢
    split at h
    · rename_i h1; rw [codeA_mono hc hr hn h1]; exact h
    · cases h

def DeferF.le (c c' : DeferF) : Prop := ∀ k a h p r, c k a h p = some r → c' k a h p = some r

theorem deferA_mono (hc : call.le call') (hr : round.le round') {n m : Nat} (hn : n ≤ m) : (deferA E call round n).le (deferA E call' round' m) := by
  intro k args hp p r h
  simp only [deferA] at h ⊢
  split at h
  · cases h
  · split at h
    · cases h
    · split at h
      · rename_i hl
        rw [if_pos hl]
        split at h
        · rename_i h1; rw [codeS_mono hc hr hn h1]; exact h
        · rename_i h1; rw [codeS_mono hc hr hn h1]; exact h
        · cases h
      · cases h

theorem leaveA_mono {d d' : DeferF} (hd : d.le d') {fn : Func} {rg : T AV} : ∀ {ds : List ADef} {p : Option AV} {h : AHeap} {r : Out × AHeap}, leaveA E d fn rg ds p h = some r → leaveA E d' fn rg ds p h = some r
  | [], none, hp, r, h => h
  | [], some v, hp, r, h => h
  | .mark x :: ds, p, hp, r, h => by
    simp only [leaveA] at h ⊢
    split at h
    · exact leaveA_mono hd h
    · cases h
  | .call f args :: ds, p, hp, r, h => by
    simp only [leaveA] at h ⊢
    split at h
    · rename_i h1; rw [hd _ _ _ _ _ h1]; exact leaveA_mono hd h
    · cases h
end

theorem bodyOf_mono {a b : Mach} (hc : a.call.le b.call) (hr : a.round.le b.round) {n m : Nat} (hn : n ≤ m) : (bodyOf E a n).le (bodyOf E b m) := by
  intro k args hp r h
  simp only [bodyOf] at h ⊢
  split at h
  · cases h
  · split at h
    · cases h
    · split at h
      · rename_i hl
        rw [if_pos hl]
        split at h
        · rename_i h1; rw [codeA_mono hc hr hn h1]; exact leaveA_mono (deferA_mono hc hr hn) h
        · rename_i h1; rw [codeA_mono hc hr hn h1]; exact leaveA_mono (deferA_mono hc hr hn) h
        · rename_i h1; rw [codeA_mono hc hr hn h1]; exact leaveA_mono (deferA_mono hc hr hn) h
        · cases h
      · cases h
theorem bodyA_mono {a b : Mach} (hc : a.call.le b.call) (hr : a.round.le b.round) {n m : Nat} (hn : n ≤ m) : (bodyA E a n).le (bodyA E b m) := by
  intro k args hp r h
  simp only [bodyA] at h ⊢
  split at h
  · exact h
  · exact bodyOf_mono hc hr hn _ _ _ _ h

theorem mach_step : ∀ n, ((mach E n).call.le (mach E (n + 1)).call) ∧ ((mach E n).round.le (mach E (n + 1)).round)
  | 0 => ⟨fun _ _ _ _ h => by simp [mach] at h, fun _ _ _ _ h => by simp [mach] at h⟩
  | n + 1 => ⟨bodyA_mono (mach_step n).1 (mach_step n).2 (Nat.le_succ n), roundA_mono (mach_step n).1 (mach_step n).2 (Nat.le_succ n)⟩

theorem mach_mono {n m : Nat} (h : n ≤ m) : ((mach E n).call.le (mach E m).call) ∧ ((mach E n).round.le (mach E m).round) := by
  induction m with
  | zero => have : n = 0 := by omega
            subst this; exact ⟨fun _ _ _ _ h => h, fun _ _ _ _ h => h⟩
  | succ m ih =>
    by_cases e : n = m + 1
    · subst e; exact ⟨fun _ _ _ _ h => h, fun _ _ _ _ h => h⟩
    · have := ih (by omega)
      exact ⟨fun k a h r hr => (mach_step m).1 _ _ _ _ (this.1 _ _ _ _ hr), fun k a h r hr => (mach_step m).2 _ _ _ _ (this.2 _ _ _ _ hr)⟩
end Go.Am
