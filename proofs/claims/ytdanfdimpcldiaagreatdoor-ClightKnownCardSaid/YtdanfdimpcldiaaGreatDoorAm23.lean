/-
  Proves that pure operations may stand in any order. Each theorem states its own conditions; there are no others.
-/
import Derived.Test.YtdanfdimpcldiaaGreatDoorAm22
set_option linter.unusedSimpArgs false
set_option linter.unusedVariables false
set_option linter.unusedVariables false
set_option linter.unusedSimpArgs false
set_option linter.unusedSectionVars false
namespace Go.Am
variable [Base]
variable {E : Env}

theorem trace_cons {call : CallF} {round : RoundF} {ops : Array Oper} {base k m : Nat} {o : Oper} {st st1 : St} {K : DK} {σ' : Nat → St} {κ' : Nat → DK} {sn sn1 : List Snap} {rd rd1 : List Rd} {x : AExit} {st' : St}
    (hm : k + 1 ≤ m) (hσ : σ' (k + 1) = st1) (hT : Trace E call round ops base σ' κ' (k + 1) m) (hB : Before E ops σ' κ' sn1 rd1 (k + 1) m) (hEnd : EndsAt E call round ops σ' κ' sn1 (k + 1) m x st')
    (ho : ops[k]? = some o) (hstp : Stp E call round ops base o k st K st1) (hsn : ∀ s ∈ sn, s ∈ sn1) (hrd : ∀ r ∈ rd, r ∈ rd1)
    (heff : K = .eff → (⟨k, st.h⟩ : Snap) ∈ sn1) (hread : ∀ v, K = .read v → (⟨k, o, st.rg, v⟩ : Rd) ∈ rd1)
    (hck1 : ∀ v, K = .read v → ∀ s ∈ sn, (befOf ops k).testBit s.idx = true ∨ ReadsAt E ops s.h st.rg k v) (hck2 : K = .eff → ∀ s ∈ sn, (befOf ops k).testBit s.idx = true)
    (hck3 : K = .eff → ∀ r ∈ rd, (befOf ops k).testBit r.idx = true ∨ ∀ h', st1.h.le h' → opA E r.rg h' r.o = some (.val r.v, h')) :
    ∃ σ κ m, σ k = st ∧ k ≤ m ∧ Trace E call round ops base σ κ k m ∧ Before E ops σ κ sn rd k m ∧ EndsAt E call round ops σ κ sn k m x st' := by
  let σ : Nat → St := fun i => if i ≤ k then st else σ' i
  let κ : Nat → DK := fun i => if i = k then K else κ' i
  have s0 : σ k = st := by simp [σ]
  have s1 : ∀ i, k < i → σ i = σ' i := fun i hi => by simp only [σ]; rw [if_neg (by omega)]
  have k0 : κ k = K := by simp [κ]
  have k1 : ∀ i, k < i → κ i = κ' i := fun i hi => by simp only [κ]; rw [if_neg (by omega)]
  refine ⟨σ, κ, m, s0, by omega, ⟨?_, ?_, ?_, ?_⟩, ⟨?_, ?_, ?_⟩, ?_⟩
  · intro i h1 h2
    rcases Nat.eq_or_lt_of_le h1 with rfl | h1
    · exact ⟨o, ho, by rw [s0, k0, s1 _ (by omega), hσ]; exact hstp⟩
    · rw [s1 i h1, k1 i h1, s1 (i + 1) (by omega)]; exact hT.stp i h1 h2
  · intro e i v h1 h2 h3 h4 h5
    rw [s1 i (by omega)]
    rw [k1 i (by omega)] at h5
    rcases Nat.eq_or_lt_of_le h1 with rfl | h1
    · rw [k0] at h4
      rw [s0]
      exact hB.sr _ (heff h4) i v h2 h3 h5
    · rw [k1 e h1] at h4
      rw [s1 e h1]
      exact hT.rb e i v h1 h2 h3 h4 h5
  · intro i e v h1 h2 h3 h4 h5
    rw [s1 (e + 1) (by omega)]
    rw [k1 e (by omega)] at h5
    rcases Nat.eq_or_lt_of_le h1 with rfl | h1
    · rw [k0] at h4
      rw [s0]
      rcases hB.re _ (hread v h4) e h2 h3 h5 with h | h
      · exact .inl h
      · refine .inr fun o' ho' h' hle => ?_
        rw [ho] at ho'; cases ho'
        exact h h' hle
    · rw [k1 i h1] at h4
      rw [s1 i h1]
      exact hT.ra i e v h1 h2 h3 h4 h5
  · intro e f h1 h2 h3 h4 h5
    rw [k1 f (by omega)] at h5
    rcases Nat.eq_or_lt_of_le h1 with rfl | h1
    · rw [k0] at h4
      exact hB.se _ (heff h4) f h2 h3 h5
    · rw [k1 e h1] at h4
      exact hT.ee e f h1 h2 h3 h4 h5
  · intro s hs i v h1 h2 h3
    rcases Nat.eq_or_lt_of_le h1 with rfl | h1
    · rw [k0] at h3; rw [s0]; exact hck1 v h3 s hs
    · rw [k1 i h1] at h3; rw [s1 i h1]; exact hB.sr s (hsn s hs) i v h1 h2 h3
  · intro s hs i h1 h2 h3
    rcases Nat.eq_or_lt_of_le h1 with rfl | h1
    · rw [k0] at h3; exact hck2 h3 s hs
    · rw [k1 i h1] at h3; exact hB.se s (hsn s hs) i h1 h2 h3
  · intro r hr i h1 h2 h3
    rcases Nat.eq_or_lt_of_le h1 with rfl | h1
    · rw [k0] at h3; rw [s1 _ (by omega), hσ]; exact hck3 h3 r hr
    · rw [k1 i h1] at h3; rw [s1 _ (by omega)]; exact hB.re r (hrd r hr) i h1 h2 h3
  · rcases hEnd with ⟨h1, h2, h3⟩ | ⟨v, o', r, st2, h1, h2, h3, h4, h5, h6, h7, h8, h9⟩
    · exact .inl ⟨h1, h2, by rw [s1 m (by omega)]; exact h3⟩
    · refine .inr ⟨v, o', r, st2, h1, h2, by rw [s1 m (by omega)]; exact h3, by rw [s1 m (by omega)]; exact h4, by rw [s1 m (by omega)]; exact h5, by rw [s1 m (by omega)]; exact h6, fun s hs => h7 s (hsn s hs), fun e g1 g2 g3 => ?_, h9⟩
      rcases Nat.eq_or_lt_of_le g1 with rfl | g1
      · rw [k0] at g3; exact h7 _ (heff g3)
      · rw [k1 e g1] at g3; exact h8 e g1 g2 g3

theorem drawA_trace {call : CallF} {round : RoundF} {ops : Array Oper} {base : Nat} {x : AExit} {st' : St} : ∀ (l : List (Oper × Nat)) (k : Nat) (st : St) (sn : List Snap) (rd : List Rd),
    (∀ j, l[j]? = (ops[k + j]?).map fun o => (o, k + j)) → k + l.length = ops.size → (∀ r ∈ rd, clsOf E r.o = .read) → drawA E call round ops (befOf ops) base l st sn rd = some (x, st') →
    ∃ σ κ m, σ k = st ∧ k ≤ m ∧ Trace E call round ops base σ κ k m ∧ Before E ops σ κ sn rd k m ∧ EndsAt E call round ops σ κ sn k m x st'
  | [], k, st, sn, rd, hl, hn, hrd, hr => by
    simp [drawA] at hr; obtain ⟨rfl, rfl⟩ := hr
    refine ⟨fun _ => st, fun _ => .eff, k, rfl, Nat.le_refl _, ⟨?_, ?_, ?_, ?_⟩, ⟨?_, ?_, ?_⟩, .inl ⟨rfl, by simpa using hn, rfl⟩⟩ <;> intros <;> omega
  | (o, i) :: l, k, st, sn, rd, hl, hn, hrd, hr => by
    have h0 := hl 0
    simp only [List.getElem?_cons_zero, Nat.add_zero] at h0
    obtain ⟨o', ho, he⟩ := Option.map_eq_some_iff.1 h0.symm
    simp only [Prod.mk.injEq] at he
    obtain ⟨rfl, rfl⟩ := he
    have hl' : ∀ j, l[j]? = (ops[k + 1 + j]?).map fun o => (o, k + 1 + j) := fun j => by
      have := hl (j + 1)
      simpa [Nat.add_assoc, Nat.add_comm 1 j] using this
    have hn' : k + 1 + l.length = ops.size := by simp at hn; omega
    -- nothing is noted
    have quiet : ∀ {st1 : St} {K : DK}, Stp E call round ops base o' k st K st1 → K ≠ .eff → (∀ v, K ≠ .read v) → drawA E call round ops (befOf ops) base l st1 sn rd = some (x, st') →
        ∃ σ κ m, σ k = st ∧ k ≤ m ∧ Trace E call round ops base σ κ k m ∧ Before E ops σ κ sn rd k m ∧ EndsAt E call round ops σ κ sn k m x st' := by
      intro st1 K hs h1 h2 hr
      obtain ⟨σ', κ', m, hσ, hm, hT, hB, hEnd⟩ := drawA_trace l (k + 1) st1 sn rd hl' hn' hrd hr
      exact trace_cons hm hσ hT hB hEnd ho hs (fun s h => h) (fun r h => h) (fun h => absurd h h1) (fun v h => absurd h (h2 v)) (fun v h => absurd h (h2 v)) (fun h => absurd h h1) (fun h => absurd h h1)
    simp only [drawA] at hr
    split at hr
    · simp at hr
    · rename_i hw
      exact quiet (K := .skip) ⟨hw, rfl⟩ (by simp) (by simp) hr
    · rename_i hw
      split at hr
      · simp at hr
      · rename_i v h2 hc hop
        exact quiet (K := .pure v) ⟨hw, hc, fun h => opA_pure hc hop h, rfl⟩ (by simp) (by simp) hr
      · rename_i v h2 hc hop
        split at hr
        · rename_i hck
          obtain ⟨σ', κ', m, hσ, hm, hT, hB, hEnd⟩ := drawA_trace l (k + 1) _ sn _ hl' hn' (fun r hr => by
            rcases List.mem_cons.1 hr with rfl | hr
            · exact hc
            · exact hrd r hr) hr
          refine trace_cons (K := .read v) hm hσ hT hB hEnd ho ⟨hw, hc, fun h hle => (opA_read hc hop hle).1, rfl⟩ (fun s h => h) (fun r h => by simp [h]) (fun h => by cases h) (fun v' h => by cases h; simp) (fun v' h s hs => ?_) (fun h => by cases h) (fun h => by cases h)
          cases h
          have := (List.all_eq_true.1 hck) s hs
          simp only [Bool.or_eq_true] at this
          rcases this with h | h
          · exact .inl h
          · refine .inr fun o'' ho'' => ?_
            rw [ho] at ho''; cases ho''
            exact sameRead_spec hc h
        · simp at hr
      · rename_i v h2 hc hop
        split at hr
        · rename_i obj v' hobj hnone hre
          exact quiet (K := .alloc v' obj) ⟨hw, hc, ⟨v, h2, hop, hobj, hre⟩, hnone, rfl⟩ (by simp) (by simp) hr
        · simp at hr
      · rename_i r hc hop
        split at hr
        · rename_i hck
          split at hr
          · simp at hr
          · rename_i st1 hres
            split at hr
            · rename_i hck3
              obtain ⟨σ', κ', m, hσ, hm, hT, hB, hEnd⟩ := drawA_trace l (k + 1) _ _ rd hl' hn' hrd hr
              refine trace_cons (K := .eff) hm hσ hT hB hEnd ho ⟨hw, r, hop, hres⟩ (fun s h => by simp [h]) (fun r h => h) (fun _ => by simp) (fun v h => by cases h) (fun v h => by cases h) (fun _ s hs => (List.all_eq_true.1 hck) s hs) (fun _ q hq => ?_)
              have := (List.all_eq_true.1 hck3) q hq
              simp only [Bool.or_eq_true] at this
              rcases this with h | h
              · exact .inl h
              · right
                have hcq : clsOf E q.o = .read := hrd q hq
                exact sameRead_spec hcq h
            · simp at hr
          · rename_i v st1 hres
            split at hr
            · rename_i hrest
              simp at hr; obtain ⟨rfl, rfl⟩ := hr
              refine ⟨fun _ => st, fun _ => .skip, k, rfl, Nat.le_refl _, ⟨?_, ?_, ?_, ?_⟩, ⟨?_, ?_, ?_⟩, .inr ⟨v, o', r, st1, rfl, ho, hw, hop, hres, rfl, fun s hs => (List.all_eq_true.1 hck) s hs, ?_, ?_⟩⟩ <;> try (intros; omega)
              intro j h1 h2
              obtain ⟨o2, ho2⟩ : ∃ o2, ops[j]? = some o2 := ⟨ops[j], by simp [h2]⟩
              have hmem : (o2, j) ∈ l := by
                have := hl' (j - (k + 1))
                have e : k + 1 + (j - (k + 1)) = j := by omega
                rw [e, ho2] at this
                exact List.mem_of_getElem? this
              exact (List.all_eq_true.1 hrest) _ hmem
            · simp at hr
        · simp at hr
      · simp at hr
end Go.Am
