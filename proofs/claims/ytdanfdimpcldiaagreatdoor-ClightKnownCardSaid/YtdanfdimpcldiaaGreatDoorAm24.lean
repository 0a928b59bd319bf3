/-
  Proves that new objects may be laid in any order. Each theorem states its own conditions; there are no others.
-/
import Derived.Test.YtdanfdimpcldiaaGreatDoorAm23
set_option linter.unusedSimpArgs false
set_option linter.unusedVariables false
set_option linter.unusedVariables false
set_option linter.unusedSimpArgs false
set_option linter.unusedSectionVars false
namespace Go.Am
variable [Base]
variable {E : Env}

/-! ### Injections cut at a place of the region -/
def cutI (ι : Inj) (base n c : Nat) : Inj := fun i => if base + c ≤ i ∧ i < base + n then none else ι i
theorem cutI_le {ι : Inj} {base n c c' : Nat} (h : c ≤ c') : (cutI ι base n c).le (cutI ι base n c') := fun i L hi => by
  unfold cutI at hi ⊢
  split at hi
  · cases hi
  · rename_i hc; rw [if_neg (by omega)]; exact hi
theorem cutI_full (ι : Inj) (base n : Nat) : cutI ι base n n = ι := by
  funext i; unfold cutI; rw [if_neg (by omega)]
theorem cutI_sub {ι : Inj} {base n c : Nat} : (cutI ι base n c).le ι := fun i L hi => by
  unfold cutI at hi; split at hi
  · cases hi
  · exact hi

/-! ### Objects that come to be known -/
theorem HRel.addEarly {κ0 κ1 : Inj} {H G : AHeap} {w : World} (hH : HRel κ0 H w) (R : Nat → Prop) (hle : ∀ i, ¬ R i → κ1 i = κ0 i) (hR0 : ∀ i, R i → κ0 i = none ∧ i < H.next) (hG : ∀ i, ¬ R i → G.get i = H.get i) (hnx : G.next = H.next)
    (hR : ∀ i L, R i → κ1 i = some L → ∃ obj, G.get i = some obj ∧ obj.gone = false ∧ ORel κ1 obj L w ∧ L.b < w.heap.size ∧ ∀ k L', k ≠ i → κ1 k = some L' → L'.b ≠ L.b) (hB : ∀ i L, R i → κ1 i = some L → Base.w.heap.size ≤ L.b) : HRel κ1 G w := by
  classical
  have le : κ0.le κ1 := fun i L hi => by
    by_cases h : R i
    · rw [(hR0 i h).1] at hi; cases hi
    · rw [hle i h]; exact hi
  refine ⟨?_, ?_, ?_, ?_, ?_, ⟨hH.base.size, hH.base.old, hH.base.os, fun i L o hi ho how => by
    by_cases h : R i
    · exact hB i L h hi
    · rw [hle i h] at hi; rw [hG i h] at ho; exact hH.base.own i L o hi ho how⟩⟩
  · intro i L hi
    by_cases h : R i
    · obtain ⟨obj, h1, h2, h3, _⟩ := hR i L h hi; exact ⟨obj, h1, h3⟩
    · rw [hle i h] at hi
      obtain ⟨o, h1, h2⟩ := hH.obj i L hi
      exact ⟨o, by rw [hG i h]; exact h1, h2.mono le⟩
  · intro i j Li Lj oi oj hij hi hj hoi hoj how hnd
    by_cases h : R i
    · obtain ⟨obj, _, _, _, _, hD⟩ := hR i Li h hi
      exact fun e => hD j Lj (fun e => hij e.symm) hj e.symm
    · by_cases h' : R j
      · obtain ⟨obj, _, _, _, _, hD⟩ := hR j Lj h' hj
        exact hD i Li hij hi
      · rw [hle i h] at hi; rw [hle j h'] at hj; rw [hG i h] at hoi; rw [hG j h'] at hoj
        exact hH.dis i j Li Lj oi oj hij hi hj hoi hoj how hnd
  · intro i L hi
    by_cases h : R i
    · rw [hnx]; exact (hR0 i h).2
    · rw [hle i h] at hi; rw [hnx]; exact hH.lt i L hi
  · intro i hi
    rw [hnx] at hi
    have : ¬ R i := fun h => by have := (hR0 i h).2; omega
    rw [hG i this]; exact hH.fresh i hi
  · intro i L hi
    by_cases h : R i
    · obtain ⟨obj, _, _, _, hb, _⟩ := hR i L h hi; exact hb
    · rw [hle i h] at hi; exact hH.bnd i L hi

theorem Ext.addEarly {ι₀ κ0 κ1 : Inj} {h₀ H G : AHeap} {w₀ w : World} (hE : Ext ι₀ h₀ w₀ κ0 H w) (R : Nat → Prop) (hle : ∀ i, ¬ R i → κ1 i = κ0 i) (hR0 : ∀ i, R i → κ0 i = none ∧ i < H.next) (hG : ∀ i, ¬ R i → G.get i = H.get i) (hnx : G.next = H.next)
    (hR : ∀ i L, R i → κ1 i = some L → ∃ obj, G.get i = some obj ∧ obj.gone = false ∧ ORel κ1 obj L w ∧ L.b < w.heap.size ∧ ∀ k L', k ≠ i → κ1 k = some L' → L'.b ≠ L.b)
    (hbase : ∀ i, R i → h₀.next ≤ i) (hnew : ∀ i L, R i → κ1 i = some L → w₀.heap.size ≤ L.b) (hb0 : Base.w.heap.size ≤ w₀.heap.size) : Ext ι₀ h₀ w₀ κ1 G w := by
  classical
  refine ⟨hE.rel.addEarly R hle hR0 hG hnx hR (fun i L hi hL => Nat.le_trans hb0 (hnew i L hi hL)), fun i hi => ?_, fun i hi hn => ?_, by rw [hnx]; exact hE.next, hE.size, fun b hb hn => ?_, hE.os, hE.tape, hE.output, fun i L hi => ?_⟩
  · have : ¬ R i := fun h => by have := hbase i h; omega
    rw [hle i this]; exact hE.keep i hi
  · have : ¬ R i := fun h => by have := hbase i h; omega
    rw [hG i this]; exact hE.same i hi hn
  · obtain ⟨h1, h2⟩ := hE.frame b hb hn
    refine ⟨h1, ?_⟩
    rintro ⟨i, L, o, hi, ho, hw, hbb⟩
    by_cases h : R i
    · have := hnew i L h hi; omega
    · rw [hle i h] at hi; rw [hG i h] at ho
      exact h2 ⟨i, L, o, hi, ho, hw, hbb⟩
  · by_cases h : R i
    · exact .inr (.inl (hnew i L h hi))
    · rw [hle i h] at hi; exact hE.new i L hi

/-- A world that only grows. -/
theorem HRel.growWorld {κ : Inj} {H : AHeap} {w w' : World} (hH : HRel κ H w) (hs : w.heap.size ≤ w'.heap.size) (hold : ∀ b, b < w.heap.size → w'.heap[b]? = w.heap[b]?) (hos : w'.os = w.os) : HRel κ H w' :=
  ⟨fun i L hi => let ⟨o, h1, h2⟩ := hH.obj i L hi; ⟨o, h1, h2.block (hold _ (hH.bnd i L hi))⟩, hH.dis, hH.lt, hH.fresh, fun i L hi => Nat.lt_of_lt_of_le (hH.bnd i L hi) hs,
    ⟨Nat.le_trans hH.base.size hs, fun b hb => (hold b (Nat.lt_of_lt_of_le hb hH.base.size)).trans (hH.base.old b hb), hos.trans hH.base.os, hH.base.own⟩⟩
theorem Ext.growWorld {ι₀ κ : Inj} {h₀ H : AHeap} {w₀ w w' : World} (hE : Ext ι₀ h₀ w₀ κ H w) (hs : w.heap.size ≤ w'.heap.size) (hold : ∀ b, b < w.heap.size → w'.heap[b]? = w.heap[b]?) (hos : w'.os = w.os) (ht : w'.tape = w.tape) (ho : w'.output = w.output) : Ext ι₀ h₀ w₀ κ H w' :=
  ⟨hE.rel.growWorld hs hold hos, hE.keep, hE.same, hE.next, Nat.le_trans hE.size hs, fun b hb hn => ⟨(hold b (Nat.lt_of_lt_of_le hb hE.size)).trans (hE.frame b hb hn).1, (hE.frame b hb hn).2⟩, hos.trans hE.os, ht.trans hE.tape, ho.trans hE.output, hE.new⟩

/-! ### The steps of the trace -/
theorem resA_keep {call : CallF} {round : RoundF} {d : Option Tmp} {st st' : St} {r : ORes × AHeap} (h : resA call round d st r = some (none, st')) : (∃ v, st'.rg = putA st.rg d v) ∧ st'.n = st.n ∧ st'.rnd = st.rnd := by
  unfold resA at h
  split at h
  · simp at h; subst h; exact ⟨⟨_, rfl⟩, rfl, rfl⟩
  · simp at h; subst h; exact ⟨⟨_, rfl⟩, rfl, rfl⟩
  · split at h
    · simp at h; subst h; exact ⟨⟨_, rfl⟩, rfl, rfl⟩
    · simp at h
    · simp at h
  · split at h
    · simp at h; subst h; exact ⟨⟨_, rfl⟩, rfl, rfl⟩
    · simp at h
  · split at h
    · simp at h
    · simp at h; subst h; exact ⟨⟨_, rfl⟩, rfl, rfl⟩
  · simp at h
  · simp at h
theorem stp_keep {call : CallF} {round : RoundF} {ops : Array Oper} {base i : Nat} {o : Oper} {st st' : St} {k : DK} (h : Stp E call round ops base o i st k st') : (∃ v, st'.rg = putA st.rg o.dst v) ∧ st'.n = st.n ∧ st'.rnd = st.rnd := by
  cases k with
  | skip => obtain ⟨_, rfl⟩ := h; exact ⟨⟨_, rfl⟩, rfl, rfl⟩
  | pure v => obtain ⟨_, _, _, rfl⟩ := h; exact ⟨⟨_, rfl⟩, rfl, rfl⟩
  | read v => obtain ⟨_, _, _, rfl⟩ := h; exact ⟨⟨_, rfl⟩, rfl, rfl⟩
  | alloc v obj => obtain ⟨_, _, _, _, rfl⟩ := h; exact ⟨⟨_, rfl⟩, rfl, rfl⟩
  | eff => obtain ⟨_, r, _, h⟩ := h; exact resA_keep h
/-- Heap and deferred calls of a step that is no effect. -/
theorem stp_heap {call : CallF} {round : RoundF} {ops : Array Oper} {base i : Nat} {o : Oper} {st st' : St} {k : DK} (h : Stp E call round ops base o i st k st') (hk : k ≠ .eff) :
    st'.ds = st.ds ∧ st'.h.next = st.h.next ∧ (∀ j, j ≠ base + i → st'.h.get j = st.h.get j) ∧ (∀ v obj, k = .alloc v obj → st'.h.get (base + i) = some obj ∧ st.h.get (base + i) = none) ∧ ((∀ v obj, k ≠ .alloc v obj) → st'.h = st.h) := by
  cases k with
  | skip => obtain ⟨_, rfl⟩ := h; exact ⟨rfl, rfl, fun _ _ => rfl, (fun v obj h => by cases h), fun _ => rfl⟩
  | pure v => obtain ⟨_, _, _, rfl⟩ := h; exact ⟨rfl, rfl, fun _ _ => rfl, (fun v obj h => by cases h), fun _ => rfl⟩
  | read v => obtain ⟨_, _, _, rfl⟩ := h; exact ⟨rfl, rfl, fun _ _ => rfl, (fun v obj h => by cases h), fun _ => rfl⟩
  | alloc v obj =>
    obtain ⟨_, _, _, hn, rfl⟩ := h
    refine ⟨rfl, rfl, fun j hj => by simp [AHeap.get_set, hj], fun v' obj' h => ?_, fun h => absurd rfl (h v obj)⟩
    cases h; exact ⟨by simp [AHeap.get_set], hn⟩
  | eff => exact absurd rfl hk

section
variable {call : CallF} {round : RoundF} {ops : Array Oper} {base : Nat} {σ : Nat → St} {κ : Nat → DK} {m : Nat}

theorem Trace.keep (hT : Trace E call round ops base σ κ 0 m) : ∀ i, i ≤ m → (σ i).n = (σ 0).n ∧ (σ i).rnd = (σ 0).rnd
  | 0, _ => ⟨rfl, rfl⟩
  | i + 1, h => by
    obtain ⟨o, _, hs⟩ := hT.stp i (Nat.zero_le _) (by omega)
    obtain ⟨_, h1, h2⟩ := stp_keep hs
    obtain ⟨h3, h4⟩ := hT.keep i (by omega)
    exact ⟨h1.trans h3, h2.trans h4⟩

def Writes (ops : Array Oper) (j : Nat) (t : Tmp) : Prop := ∃ o, ops[j]? = some o ∧ o.dst = some t

/-- No writer, no change. -/
theorem Trace.quiet (hT : Trace E call round ops base σ κ 0 m) {t : Tmp} {lo : Nat} : ∀ hi, lo ≤ hi → hi ≤ m → (∀ j, lo ≤ j → j < hi → ¬ Writes ops j t) → (σ hi).rg.get t = (σ lo).rg.get t
  | 0, h, _, _ => by have : lo = 0 := by omega
                     rw [this]
  | hi + 1, h, hm, hw => by
    rcases Nat.eq_or_lt_of_le h with e | hlt
    · rw [e]
    · obtain ⟨o, ho, hs⟩ := hT.stp hi (Nat.zero_le _) (by omega)
      obtain ⟨⟨v, hv⟩, _⟩ := stp_keep hs
      rw [hv]
      have hne : o.dst ≠ some t := fun e => hw hi (by omega) (by omega) ⟨o, ho, e⟩
      have := hT.quiet hi (by omega) (by omega) (fun j h1 h2 => hw j h1 (by omega))
      rw [← this]
      cases hd : o.dst with
      | none => rfl
      | some d =>
        simp only [putA, T.get_set]
        rw [if_neg (fun e => hne (by rw [hd, e]))]

/-- No effect between: only new objects. -/
theorem Trace.seg (hT : Trace E call round ops base σ κ 0 m) {lo : Nat} : ∀ hi, lo ≤ hi → hi ≤ m → (∀ j, lo ≤ j → j < hi → κ j ≠ .eff) →
    (σ hi).ds = (σ lo).ds ∧ (σ hi).h.next = (σ lo).h.next ∧ (∀ i, (∀ j, lo ≤ j → j < hi → i ≠ base + j) → (σ hi).h.get i = (σ lo).h.get i) ∧ (∀ j v obj, lo ≤ j → j < hi → κ j = .alloc v obj → (σ hi).h.get (base + j) = some obj) ∧ (σ lo).h.le (σ hi).h
  | 0, h, _, _ => by
    have : lo = 0 := by omega
    subst this
    exact ⟨rfl, rfl, fun _ _ => rfl, fun j _ _ _ h => by omega, AHeap.le_refl _⟩
  | hi + 1, h, hm, hw => by
    rcases Nat.eq_or_lt_of_le h with e | hlt
    · rw [← e]; exact ⟨rfl, rfl, fun _ _ => rfl, fun j _ _ _ h => by omega, AHeap.le_refl _⟩
    · obtain ⟨o, ho, hs⟩ := hT.stp hi (Nat.zero_le _) (by omega)
      obtain ⟨g1, g2, g3, g4, g5⟩ := stp_heap hs (hw hi (by omega) (by omega))
      obtain ⟨f1, f2, f3, f4, f5⟩ := hT.seg hi (by omega) (by omega) (fun j h1 h2 => hw j h1 (by omega))
      refine ⟨g1.trans f1, g2.trans f2, fun i hi' => (g3 i (hi' hi (by omega) (by omega))).trans (f3 i fun j h1 h2 => hi' j h1 (by omega)), fun j v obj h1 h2 hk => ?_, AHeap.le_trans f5 fun i x hx => ?_⟩
      · rcases Nat.eq_or_lt_of_le (Nat.le_of_lt_succ h2) with e | h3
        · subst e; exact (g4 v obj hk).1
        · rw [g3 _ (by omega)]; exact f4 j v obj h1 h3 hk
      · by_cases e : i = base + hi
        · cases hk : κ hi with
          | alloc v obj => have := (g4 v obj hk).2; rw [← e, hx] at this; cases this
          | _ => rw [g5 (by simp [hk])]; exact hx
        · rw [g3 i e]; exact hx

theorem nextEff (κ : Nat → DK) (lo m : Nat) (h : lo ≤ m) : ∃ e, lo ≤ e ∧ e ≤ m ∧ (∀ j, lo ≤ j → j < e → κ j ≠ .eff) ∧ (e < m → κ e = .eff) := by
  classical
  induction hd : m - lo generalizing lo with
  | zero => exact ⟨lo, Nat.le_refl _, h, fun j h1 h2 => by omega, fun h => by omega⟩
  | succ d ih =>
    by_cases hk : κ lo = .eff
    · exact ⟨lo, Nat.le_refl _, h, fun j h1 h2 => by omega, fun _ => hk⟩
    · obtain ⟨e, h1, h2, h3, h4⟩ := ih (lo + 1) (by omega) (by omega)
      refine ⟨e, by omega, h2, fun j g1 g2 => ?_, h4⟩
      rcases Nat.eq_or_lt_of_le g1 with rfl | g1
      · exact hk
      · exact h3 j g1 g2
theorem prevEff (κ : Nat → DK) (lo e : Nat) : (∀ j, lo ≤ j → j < e → κ j ≠ .eff) ∨ ∃ f, lo ≤ f ∧ f < e ∧ κ f = .eff ∧ ∀ j, f < j → j < e → κ j ≠ .eff := by
  classical
  induction e with
  | zero => exact .inl fun j _ h => by omega
  | succ e ih =>
    by_cases hk : κ e = .eff ∧ lo ≤ e
    · exact .inr ⟨e, hk.2, by omega, hk.1, fun j h1 h2 => by omega⟩
    · rcases ih with h | ⟨f, h1, h2, h3, h4⟩
      · refine .inl fun j g1 g2 g3 => ?_
        rcases Nat.eq_or_lt_of_le (Nat.le_of_lt_succ g2) with rfl | g2
        · exact hk ⟨g3, g1⟩
        · exact h j g1 g2 g3
      · refine .inr ⟨f, h1, by omega, h3, fun j g1 g2 g3 => ?_⟩
        rcases Nat.eq_or_lt_of_le (Nat.le_of_lt_succ g2) with rfl | g2
        · exact hk ⟨g3, by omega⟩
        · exact h4 j g1 g2 g3

/-- Who writes what another names is ordered. -/
theorem conflict (hok : drawOk ops = true) {j k : Nat} {t : Tmp} {o : Oper} (hw : Writes ops j t) (ho : ops[k]? = some o) (ht : t ∈ o.looksAt ops ∨ o.dst = some t) (hjk : j ≠ k) :
    (j < k → (befOf ops k).testBit j = true) ∧ (k < j → (befOf ops j).testBit k = true) := by
  obtain ⟨o', ho', hd⟩ := hw
  refine ⟨fun h => ?_, fun h => ?_⟩
  · rcases drawOk_apart hok ho ho' h with h1 | h1
    · obtain ⟨h2, h3, _⟩ := Oper.apart_spec h1
      rcases ht with ht | ht
      · exact absurd ht (h2 t hd)
      · exact absurd ht (h3 t hd)
    · exact h1
  · rcases drawOk_apart hok ho' ho h with h1 | h1
    · obtain ⟨_, h3, h2⟩ := Oper.apart_spec h1
      rcases ht with ht | ht
      · exact absurd ht (h2 t hd)
      · exact absurd hd (h3 t ht)
    · exact h1
end
end Go.Am
