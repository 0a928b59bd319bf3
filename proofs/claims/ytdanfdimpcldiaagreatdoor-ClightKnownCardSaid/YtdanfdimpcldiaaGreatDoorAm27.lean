/-
  Proves the steps with an effect of a region whose order is drawn. Each theorem states its own conditions; there are no others.
-/
import Derived.Test.YtdanfdimpcldiaaGreatDoorAm26
set_option linter.unusedSimpArgs false
set_option linter.unusedVariables false
set_option linter.unusedVariables false
set_option linter.unusedSimpArgs false
set_option linter.unusedSectionVars false
namespace Go.Am
variable [Base]
variable {E : Env}
section
variable {call : CallF} {round : RoundF} {ops : Array Oper} {base : Nat} {σ : Nat → St} {κ : Nat → DK} {m : Nat} {h₀ : AHeap} {ι₀ : Inj} {w₀ : World} {S : Nat → Prop} {a : Act} {w : World} {e : Nat} {ι : Inj}

/-- The effect that is due. -/
theorem Inv.due (hI : Inv call round ops base σ κ m h₀ ι₀ w₀ S a w e ι) (hT : Trace E call round ops base σ κ 0 m) (hok : drawOk ops = true) {k : Nat} (hk : EdgesIn ops S k) (hkS : ¬ S k) (hkm : k < m) (hkk : κ k = .eff) : k = e := by
  rcases Nat.lt_trichotomy k e with h | h | h
  · exact absurd (hI.e1 k h hkk) hkS
  · exact h
  · have he := hI.e3 (by omega)
    exact absurd (hI.ready hok hk (hT.ee e k (Nat.zero_le _) h hkm he hkk)) (hI.e2 e (Nat.le_refl _) (by omega) he)

/-- An effect. -/
theorem Inv.eff (hI : Inv call round ops base σ κ m h₀ ι₀ w₀ S a w e ι) (hT : Trace E call round ops base σ κ 0 m) (hok : drawOk ops = true) (hmn : m ≤ ops.size) (hb0 : h₀.next ≤ base) {o : Oper} (hk : EdgesIn ops S e) (hkm : e < m) (ho : ops[e]? = some o)
    (hd : dstOk a.tmps.size o.dst = true) {ι1 : Inj} {v : AV} {y : Value} {ds' : List Deferred} {w' : World} (hext : Ext (cutI ι base ops.size e) (σ e).h w ι1 (σ (e + 1)).h w') (hv : VRel ι1 v y) (hrg : (σ (e + 1)).rg = putA (σ e).rg o.dst v) (hds : DsRel ι1 (σ (e + 1)).ds ds') :
    ∃ e' ι', Inv call round ops base σ κ m h₀ ι₀ w₀ (fun j => j = e ∨ S j) (({ a with defers := ds' } : Act).put o.dst y) w' e' ι' := by
  classical
  have hkk : κ e = .eff := hI.e3 hkm
  have hkS : ¬ S e := hI.e2 e (Nat.le_refl _) hkm hkk
  obtain ⟨e', he1, he2, he3, he4⟩ := nextEff κ (e + 1) m (by omega)
  have hnx := hI.nx
  have hnx1 := hext.next
  let ι' : Inj := fun i => if base + e ≤ i ∧ i < base + ops.size then ι i else ι1 i
  have hι'r : ∀ i, base + e ≤ i → i < base + ops.size → ι' i = ι i := fun i h1 h2 => by simp only [ι']; rw [if_pos ⟨h1, h2⟩]
  have hι'o : ∀ i, ¬ (base + e ≤ i ∧ i < base + ops.size) → ι' i = ι1 i := fun i h => by simp only [ι']; rw [if_neg h]
  have hcuto : ∀ i, ¬ (base + e ≤ i ∧ i < base + ops.size) → cutI ι base ops.size e i = ι i := fun i h => by unfold cutI; rw [if_neg h]
  have hιe : ι (base + e) = none := by
    cases hx : ι (base + e) with
    | none => rfl
    | some L0 => exact absurd (hI.out e (by omega) (by rw [hx]; simp)).1 hkS
  have F1 : ι.le ι' := fun i L hi => by
    by_cases h : base + e ≤ i ∧ i < base + ops.size
    · rw [hι'r i h.1 h.2]; exact hi
    · rw [hι'o i h]
      have h1 : cutI ι base ops.size e i = some L := by rw [hcuto i h]; exact hi
      rw [hext.keep i (hI.rel.rel.lt i L h1)]; exact h1
  have F2 : ι1 = cutI ι' base ops.size (e + 1) := by
    funext i
    by_cases h : base + e ≤ i ∧ i < base + ops.size
    · have h1 : ι1 i = none := by
        rw [hext.keep i (by omega)]; unfold cutI; rw [if_pos h]
      rw [h1]
      unfold cutI
      split
      · rfl
      · have : i = base + e := by omega
        subst this
        rw [hι'r _ h.1 h.2, hιe]
    · unfold cutI
      rw [if_neg (by omega), hι'o i h]
  have nown : ∀ (j : Nat) (L : Loc), e ≤ j → j < ops.size → (∀ i L', i ≠ base + j → ι i = some L' → L'.b ≠ L.b) → ¬ Owned (cutI ι base ops.size e) (σ e).h L.b := fun j L h1 h2 hD => by
    rintro ⟨i, L', o', hi, _, _, hb⟩
    have hij : i ≠ base + j := fun e1 => by subst e1; unfold cutI at hi; rw [if_pos (by omega)] at hi; cases hi
    exact hD i L' hij (cutI_sub _ _ hi) hb
  have F3 : ∀ (j : Nat) (L : Loc), e ≤ j → j < ops.size → L.b < w.heap.size → (∀ i L', i ≠ base + j → ι i = some L' → L'.b ≠ L.b) → ∀ i L', i ≠ base + j → ι' i = some L' → L'.b ≠ L.b := fun j L h1 h2 hb hD i L' hij hi => by
    by_cases h : base + e ≤ i ∧ i < base + ops.size
    · rw [hι'r i h.1 h.2] at hi; exact hD i L' hij hi
    · rw [hι'o i h] at hi
      rcases hext.new i L' hi with g | g | g
      · exact hD i L' hij (cutI_sub _ _ g)
      · omega
      · intro e1; rw [e1] at g; exact nown j L h1 h2 hD g
  have blk : ∀ (j : Nat) (L : Loc), e ≤ j → j < ops.size → L.b < w.heap.size → (∀ i L', i ≠ base + j → ι i = some L' → L'.b ≠ L.b) → w'.heap[L.b]? = w.heap[L.b]? := fun j L h1 h2 hb hD => (hext.frame L.b hb (nown j L h1 h2 hD)).1
  obtain ⟨sg1, sg2, sg3, sg4, sg5⟩ := hT.seg (lo := e + 1) e' he1 he2 he3
  have hle' : ∀ c, (cutI ι base ops.size (max c e)).le (cutI ι' base ops.size (max c e')) := fun c => cutI_mono F1 (by omega)
  refine ⟨e', ι',
    { b0 := hI.b0, em := he2, e1 := ?_, e2 := ?_, e3 := he4, sm := ?_, down := down_step hI.down hk, rel := ?_, nx := by omega, early := ?_, out := ?_, late := ?_, non := ?_, reg := ?_, sz := by rw [put_size]; exact hI.sz, ds := ?_ }⟩
  · intro f hf hff
    rcases Nat.lt_trichotomy f e with h | h | h
    · exact .inr (hI.e1 f h hff)
    · exact .inl h
    · exact absurd hff (he3 f (by omega) hf)
  · intro f h1 h2 h3 hS
    rcases hS with rfl | hS
    · omega
    · exact hI.e2 f (by omega) h2 h3 hS
  · intro j hj; rcases hj with rfl | hj; exact hkm; exact hI.sm j hj
  · have hE1 := hI.rel.trans hext
    rw [F2] at hE1
    refine hE1.addEarly (fun i => base + (e + 1) ≤ i ∧ i < base + e') ?_ ?_ ?_ sg2 ?_ ?_ ?_ hI.b0
    · intro i hi; unfold cutI
      by_cases h1 : base + e' ≤ i ∧ i < base + ops.size
      · rw [if_pos h1, if_pos (by omega)]
      · rw [if_neg h1, if_neg (by omega)]
    · intro i hi
      refine ⟨?_, by omega⟩
      unfold cutI; rw [if_pos (by omega)]
    · intro i hi
      exact sg3 i fun j h1 h2 e1 => hi (by omega)
    · intro i L hi hL
      obtain ⟨j, rfl⟩ : ∃ j, i = base + j := ⟨i - base, by omega⟩
      have hιj' := cutI_sub _ _ hL
      have hιj : ι (base + j) = some L := by rw [hι'r _ (by omega) (by omega)] at hιj'; exact hιj'
      obtain ⟨hS, v1, obj, hkj⟩ := hI.out j (by omega) (by rw [hιj]; simp)
      obtain ⟨L1, g1, g2, g3, g4, g5, g6⟩ := hI.early j v1 obj hS (by omega) hkj
      rw [hιj] at g1; cases g1
      refine ⟨obj, sg4 j v1 obj (by omega) (by omega) hkj, g2, (g3.mono fun q Lq hq => ?_).block (blk j L (by omega) (by omega) g5 g6), by have := hext.size; omega, fun q L' hq hq' => F3 j L (by omega) (by omega) g5 g6 q L' hq (cutI_sub _ _ hq')⟩
      by_cases e1 : q = base + j
      · subst e1; rw [Inj.add_same] at hq; cases hq; exact hL
      · rw [Inj.add_other _ _ e1] at hq
        exact cutI_mono F1 (by omega) q Lq hq
    · intro i hi; omega
    · intro i L hi hL
      obtain ⟨j, rfl⟩ : ∃ j, i = base + j := ⟨i - base, by omega⟩
      have hιj' := cutI_sub _ _ hL
      have hιj : ι (base + j) = some L := by rw [hι'r _ (by omega) (by omega)] at hιj'; exact hιj'
      obtain ⟨hS, v1, obj, hkj⟩ := hI.out j (by omega) (by rw [hιj]; simp)
      obtain ⟨L1, g1, g2, g3, g4, g5, g6⟩ := hI.early j v1 obj hS (by omega) hkj
      rw [hιj] at g1; cases g1
      exact g4
  · intro j v1 obj hj he hkj
    have hSj : S j := by
      rcases hj with rfl | h
      · omega
      · exact h
    have hjn : j < ops.size := by have := hI.sm j hSj; omega
    obtain ⟨L, g1, g2, g3, g4, g5, g6⟩ := hI.early j v1 obj hSj (by omega) hkj
    refine ⟨L, by rw [hι'r _ (by omega) (by omega)]; exact g1, g2, (g3.mono fun q Lq hq => ?_).block (blk j L (by omega) hjn g5 g6), g4, by have := hext.size; omega, F3 j L (by omega) hjn g5 g6⟩
    by_cases e1 : q = base + j
    · subst e1; rw [Inj.add_same] at hq ⊢; exact hq
    · rw [Inj.add_other _ _ e1] at hq ⊢
      exact cutI_mono F1 (Nat.le_refl _) q Lq hq
  · intro j hj h
    have h' : ι (base + j) ≠ none := by
      by_cases hje : e ≤ j
      · rw [hι'r _ (by omega) (by omega)] at h; exact h
      · rw [hι'o _ (by omega), hext.keep _ (by omega), hcuto _ (by omega)] at h; exact h
    obtain ⟨h1, h2⟩ := hI.out j hj h'
    exact ⟨.inr h1, h2⟩
  · intro j v1 obj hj hkj hS
    rcases Nat.lt_trichotomy j e with h | h | h
    · have hSj : ¬ S j := fun h => hS (.inr h)
      have hnone : ι (base + j) = none := by
        cases hx : ι (base + j) with
        | none => rfl
        | some L0 => exact absurd (hI.out j (by omega) (by rw [hx]; simp)).1 hSj
      rw [sg3 _ (fun q h1 h2 => by omega), hext.same _ (by omega) (by unfold cutI; split; rfl; exact hnone)]
      exact hI.late j v1 obj h hkj hSj
    · subst h; rw [hkk] at hkj; cases hkj
    · exact sg4 j v1 obj (by omega) hj hkj
  · intro j h1 h2
    rw [sg3 _ (fun q g1 g2 => by omega), hext.same _ (by omega) (by unfold cutI; rw [if_pos (by omega)])]
    exact hI.non j (by omega) h2
  · refine hI.regStep hT hok hk hkS hkm ho hle' (fun c c' h => cutI_le (by omega)) (v := v) (y := y) ?_ hrg hd (ds := ds')
    rw [F2] at hv
    exact hv.mono (cutI_le (by omega))
  · rw [put_defers']
    show DsRel _ (σ e').ds ds'
    rw [sg1]
    rw [F2] at hds
    exact hds.mono (cutI_le (by omega))
end
end Go.Am
