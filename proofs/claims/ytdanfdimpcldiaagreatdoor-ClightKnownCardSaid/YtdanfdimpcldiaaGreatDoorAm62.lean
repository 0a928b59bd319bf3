/-
  After a call of which little is told: the old objects stand for what they stood for, two of them set anew, and one new name. Each theorem states its own conditions; there are no others.
-/
import Derived.Test.YtdanfdimpcldiaaGreatDoorAm61
set_option linter.unusedSimpArgs false
set_option linter.unusedVariables false
set_option linter.unusedVariables false
set_option linter.unusedSectionVars false
namespace Go.Am
section
variable {ι ιf ι2 : Inj} (hle1 : ι.le ιf) (hle2 : ι.le ι2)
include hle1 hle2
theorem Inj.le.both {i : Nat} {L L' : Loc} (h : ι i = some L) (h' : ιf i = some L') : ι2 i = some L' := by
  have h1 := hle1 i L h
  rw [h'] at h1
  injection h1 with h1
  subst h1
  exact hle2 i _ h
theorem VRel.restr {x : AV} {y0 : Value} (h0 : VRel ι x y0) : ∀ {y : Value}, VRel ιf x y → VRel ι2 x y := by
  induction h0 with
  | bool b => intro y h; cases h; exact .bool b
  | int k n => intro y h; cases h; exact .int k n
  | str l => intro y h; cases h; exact .str l
  | ptrNil => intro y h; cases h; exact .ptrNil
  | ptr hi => intro y h; cases h with | ptr h' => exact .ptr (Inj.le.both hle1 hle2 hi h')
  | sliceNil => intro y h; cases h; exact .sliceNil
  | slice hi hc ht =>
    intro y h
    cases h with
    | slice h' hc' ht' => exact .slice (Inj.le.both hle1 hle2 hi h') hc' ht'
    | sliceEnd h' ht' => exact .sliceEnd (Inj.le.both hle1 hle2 hi h') ht'
  | sliceEnd hi ht =>
    intro y h
    cases h with
    | slice h' hc' ht' => exact .slice (Inj.le.both hle1 hle2 hi h') hc' ht'
    | sliceEnd h' ht' => exact .sliceEnd (Inj.le.both hle1 hle2 hi h') ht'
  | mapNil => intro y h; cases h; exact .mapNil
  | map hi => intro y h; cases h with | map h' => exact .map (Inj.le.both hle1 hle2 hi h')
  | func f hl hx ih =>
    intro y h
    cases h with
    | func f hl' hx' =>
      refine .func f hl' fun i a b ha hb => ?_
      have hlt := (List.getElem?_eq_some_iff.1 ha).1
      exact ih i a _ ha (List.getElem?_eq_getElem (by rw [← hl]; exact hlt)) (hx' i a b ha hb)
  | yld hi => intro y h; cases h with | yld h' => exact .yld (Inj.le.both hle1 hle2 hi h')
  | nilFunc => intro y h; cases h; exact .nilFunc
  | iface t _ ih => intro y h; cases h with | iface t h' => exact .iface t (ih h')
  | nilIface => intro y h; cases h; exact .nilIface
  | agg hl hx ih =>
    intro y h
    cases h with
    | agg hl' hx' =>
      refine .agg hl' fun i a b ha hb => ?_
      have hlt := (List.getElem?_eq_some_iff.1 ha).1
      exact ih i a _ ha (List.getElem?_eq_getElem (by rw [← hl]; exact hlt)) (hx' i a b ha hb)
  | tup hl hx ih =>
    intro y h
    cases h with
    | tup hl' hx' =>
      refine .tup hl' fun i a b ha hb => ?_
      have hlt := (List.getElem?_eq_some_iff.1 ha).1
      exact ih i a _ ha (List.getElem?_eq_getElem (by rw [← hl]; exact hlt)) (hx' i a b ha hb)
theorem RegRel.restr {rg : T AV} {tm0 tm : Array Value} (h0 : RegRel ι rg tm0) (h : RegRel ιf rg tm) : RegRel ι2 rg tm := fun i x hx => by
  obtain ⟨y0, _, h1⟩ := h0 i x hx
  obtain ⟨y, hy, h2⟩ := h i x hx
  exact ⟨y, hy, VRel.restr hle1 hle2 h1 h2⟩
theorem ORel.restr {o : AObj} {L : Loc} {w w' : World} (h0 : ORel ι o L w) (h : ORel ιf o L w') : ORel ι2 o L w' := by
  cases o with
  | dead => trivial
  | cells rw es cs =>
    obtain ⟨_, _, _, c0, e0, fz0, _, _, g6⟩ := h0
    obtain ⟨h1, h2, h3, c, e, fz, h4, h5, h6⟩ := h
    refine ⟨h1, h2, h3, c, e, fz, h4, h5, fun i x hx => ?_⟩
    obtain ⟨y0, _, k0⟩ := g6 i x hx
    obtain ⟨y, hy, k1⟩ := h6 i x hx
    exact ⟨y, hy, VRel.restr hle1 hle2 k0 k1⟩
  | map ents =>
    obtain ⟨es0, ck0, g1, g2, g3⟩ := h0
    obtain ⟨es, ck, h1, h2, h3⟩ := h
    refine ⟨es, ck, h1, h2, fun i x y hx hy => ?_⟩
    have hlt := (List.getElem?_eq_some_iff.1 hx).1
    have hy0 : es0[i]? = some (es0[i]'(by omega)) := Array.getElem?_eq_getElem _
    exact ⟨VRel.restr hle1 hle2 (g3 i x _ hx hy0).1 (h3 i x y hx hy).1, VRel.restr hle1 hle2 (g3 i x _ hx hy0).2 (h3 i x y hx hy).2⟩
  | loop st pend n rg ps asg b =>
    obtain ⟨tm0, df0, fn0, _, g2, _⟩ := h0
    obtain ⟨tm, df, fn, h1, h2, h3⟩ := h
    exact ⟨tm, df, fn, h1, RegRel.restr hle1 hle2 g2 h2, h3⟩
  | siter s pos => exact h
  | miter m =>
    obtain ⟨L0, _, _, _, g1, _⟩ := h0
    obtain ⟨Lm, since, last, h0', h1, h2⟩ := h
    exact ⟨Lm, since, last, h0', Inj.le.both hle1 hle2 g1 h1, h2⟩
  | dblk => exact h
end
variable [Base]
def rebI (ι : Inj) (n : Nat) (L : Option Loc) : Inj := fun i => if i < n then ι i else if i = n then L else none
theorem Ext.rebase {ι ιf : Inj} {h hf : AHeap} {w w' : World} (hH : HRel ι h w) (e : Ext ι h w ιf hf w') {R j jf es : Nat} {c0 c1 c2 : List AV}
    (hRj : R ≠ j) (hRn : R < h.next) (hjn : j < h.next) (hR : h.get R = some (.cells true es c0)) (hR1 : hf.get R = some (.cells true es c1)) (hιR : ∃ L, ι R = some L) (hιj : ∃ L, ι j = some L) (hj : ∃ es cs, h.get j = some (.cells true es cs))
    (hlen : c2.length = c1.length) (hcell : ∀ (i : Nat) x2, c2[i]? = some x2 → ∃ x1, c1[i]? = some x1 ∧ ∀ y, VRel ιf x1 y → VRel (rebI ι h.next (ιf jf)) x2 y)
    (hold : ∀ i, i < j → i ≠ R → hf.get i = h.get i) (hnone : ∀ i, j < i → h.get i = none) (hjf : j ≤ jf) :
    Ext ι h w (rebI ι h.next (ιf jf)) (((h.set R (.cells true es c2)).set j .dead).alloc .dead).2 w' := by
  obtain ⟨ι2, hι2⟩ : ∃ ι2, ι2 = rebI ι h.next (ιf jf) := ⟨_, rfl⟩
  rw [← hι2] at hcell ⊢
  have hlo : ∀ i, i < h.next → ι2 i = ι i := fun i hi => by rw [hι2, rebI, if_pos hi]
  have hhi : ι2 h.next = ιf jf := by rw [hι2, rebI, if_neg (by omega), if_pos rfl]
  have hgt : ∀ i, h.next < i → ι2 i = none := fun i hi => by rw [hι2, rebI, if_neg (by omega), if_neg (by omega)]
  have hle1 : ι.le ιf := e.le hH
  have hle2 : ι.le ι2 := fun i L hi => by rw [hlo i (hH.lt i L hi)]; exact hi
  obtain ⟨h2, hh2⟩ : ∃ h2, h2 = (((h.set R (.cells true es c2)).set j .dead).alloc .dead).2 := ⟨_, rfl⟩
  rw [← hh2]
  have hnx : h2.next = h.next + 1 := by rw [hh2]; rfl
  have g0 : h2.get h.next = some .dead := by rw [hh2, AHeap.get_alloc, if_pos (by rfl)]
  have gj : h2.get j = some .dead := by rw [hh2, AHeap.get_alloc, if_neg (by show ¬ j = h.next; omega), AHeap.get_set, if_pos rfl]
  have gR : h2.get R = some (.cells true es c2) := by rw [hh2, AHeap.get_alloc, if_neg (by show ¬ R = h.next; omega), AHeap.get_set, if_neg hRj, AHeap.get_set, if_pos rfl]
  have go : ∀ i, i ≠ h.next → i ≠ j → i ≠ R → h2.get i = h.get i := fun i a b c => by rw [hh2, AHeap.get_alloc, if_neg (by show ¬ i = h.next; exact a), AHeap.get_set, if_neg b, AHeap.get_set, if_neg c]
  have hcase : ∀ i L, ι2 i = some L → (i < h.next ∧ ι i = some L ∧ ιf i = some L) ∨ (i = h.next ∧ ιf jf = some L) := fun i L hi => by
    rcases Nat.lt_trichotomy i h.next with h1 | h1 | h1
    · rw [hlo i h1] at hi; exact .inl ⟨h1, hi, hle1 i L hi⟩
    · subst h1; rw [hhi] at hi; exact .inr ⟨rfl, hi⟩
    · rw [hgt i h1] at hi; cases hi
  -- an old object other than the two is below j, and lies in the last heap as it lay
  have hsame : ∀ i L, ι i = some L → i ≠ j → i ≠ R → h2.get i = h.get i ∧ hf.get i = h.get i := fun i L hi a b => by
    obtain ⟨o, h1, _⟩ := hH.obj i L hi
    have hij : i < j := by
      rcases Nat.lt_trichotomy i j with h3 | h3 | h3
      · exact h3
      · exact (a h3).elim
      · rw [hnone i h3] at h1; cases h1
    exact ⟨go i (by omega) a b, hold i hij b⟩
  -- what lies in h2 lies so in hf, or is gone
  have hin : ∀ i L o, ι2 i = some L → h2.get i = some o → (o = .dead) ∨ (i < h.next ∧ ι i = some L ∧ ιf i = some L ∧ i = R ∧ o = .cells true es c2) ∨ (i < h.next ∧ ι i = some L ∧ ιf i = some L ∧ i ≠ R ∧ h.get i = some o ∧ hf.get i = some o) := fun i L o hi ho => by
    rcases hcase i L hi with ⟨h1, h3, h4⟩ | ⟨rfl, h3⟩
    · by_cases a : i = j
      · subst a; rw [gj] at ho; injection ho with ho; exact .inl ho.symm
      · by_cases b : i = R
        · subst b; rw [gR] at ho; injection ho with ho; exact .inr (.inl ⟨h1, h3, h4, rfl, ho.symm⟩)
        · obtain ⟨s1, s2⟩ := hsame i L h3 a b
          exact .inr (.inr ⟨h1, h3, h4, b, s1.symm.trans ho, s2.trans (s1.symm.trans ho)⟩)
    · rw [g0] at ho; injection ho with ho; exact .inl ho.symm
  refine ⟨⟨?_, ?_, ?_, ?_, ?_, ?_⟩, ?_, ?_, by omega, e.size, ?_, e.os, e.tape, e.output, ?_⟩
  · intro i L hi
    rcases hcase i L hi with ⟨h1, h3, h4⟩ | ⟨rfl, h3⟩
    · by_cases a : i = j
      · subst a; exact ⟨_, gj, trivial⟩
      · by_cases b : i = R
        · subst b
          refine ⟨_, gR, ?_⟩
          obtain ⟨o, k1, k2⟩ := e.rel.obj i L h4
          rw [hR1] at k1
          injection k1 with k1
          subst k1
          obtain ⟨m1, m2, m3, c, e', fz, m4, m5, m6⟩ := k2
          refine ⟨m1, m2, by rw [hlen]; exact m3, c, e', fz, m4, m5, fun k x2 hx => ?_⟩
          obtain ⟨x1, hx1, hv⟩ := hcell k x2 hx
          obtain ⟨y, hy, hr⟩ := m6 k x1 hx1
          exact ⟨y, hy, hv y hr⟩
        · obtain ⟨s1, s2⟩ := hsame i L h3 a b
          obtain ⟨o, k1, k2⟩ := hH.obj i L h3
          obtain ⟨o', k3, k4⟩ := e.rel.obj i L h4
          rw [s2, k1] at k3
          injection k3 with k3
          subst k3
          exact ⟨_, s1.trans k1, ORel.restr hle1 hle2 k2 k4⟩
    · exact ⟨_, g0, trivial⟩
  · intro i k Li Lk oi ok hne hi hk hoi hok how hgo
    rcases hin i Li oi hi hoi with rfl | ⟨a1, a2, a3, a4, rfl⟩ | ⟨a1, a2, a3, a4, a5, a6⟩
    · cases how
    · rcases hin k Lk ok hk hok with rfl | ⟨b1, b2, b3, b4, rfl⟩ | ⟨b1, b2, b3, b4, b5, b6⟩
      · cases hgo
      · exact (hne (a4.trans b4.symm)).elim
      · subst a4
        exact e.rel.dis i k Li Lk _ ok hne a3 b3 hR1 b6 rfl hgo
    · rcases hin k Lk ok hk hok with rfl | ⟨b1, b2, b3, b4, rfl⟩ | ⟨b1, b2, b3, b4, b5, b6⟩
      · cases hgo
      · subst b4
        exact e.rel.dis i k Li Lk oi _ hne a3 b3 a6 hR1 how rfl
      · exact e.rel.dis i k Li Lk oi ok hne a3 b3 a6 b6 how hgo
  · intro i L hi
    rcases hcase i L hi with ⟨h1, _⟩ | ⟨rfl, _⟩ <;> omega
  · intro i hi
    rw [go i (by omega) (by omega) (by omega)]
    exact hH.fresh i (by omega)
  · intro i L hi
    rcases hcase i L hi with ⟨_, _, h4⟩ | ⟨rfl, h4⟩ <;> exact e.rel.bnd _ L h4
  · refine ⟨e.rel.base.size, e.rel.base.old, e.rel.base.os, fun i L o hi ho how => ?_⟩
    rcases hin i L o hi ho with rfl | ⟨a1, a2, a3, a4, rfl⟩ | ⟨a1, a2, a3, a4, a5, a6⟩
    · cases how
    · subst a4; exact e.rel.base.own i L _ a3 hR1 rfl
    · exact e.rel.base.own i L o a3 a6 how
  · intro i hi; exact hlo i hi
  · intro i hi hn
    refine go i (by omega) (fun a => ?_) (fun b => ?_)
    · obtain ⟨L, hL⟩ := hιj
      rw [a, hL] at hn; cases hn
    · obtain ⟨L, hL⟩ := hιR
      rw [b, hL] at hn; cases hn
  · intro b hb hnown
    refine ⟨(e.frame b hb hnown).1, ?_⟩
    rintro ⟨i, L, o, k1, k2, k3, k4⟩
    rcases hin i L o k1 k2 with rfl | ⟨a1, a2, a3, a4, rfl⟩ | ⟨a1, a2, a3, a4, a5, a6⟩
    · cases k3
    · subst a4; exact hnown ⟨i, L, _, a2, hR, rfl, k4⟩
    · exact hnown ⟨i, L, o, a2, a5, k3, k4⟩
  · intro i L hi
    rcases hcase i L hi with ⟨_, h3, _⟩ | ⟨rfl, h3⟩
    · exact .inl h3
    · rcases e.new jf L h3 with k | k | k
      · have hlt := hH.lt jf L k
        by_cases a : jf = j
        · obtain ⟨es', cs', h4⟩ := hj
          exact .inr (.inr ⟨jf, L, _, k, a ▸ h4, rfl, rfl⟩)
        · obtain ⟨o, h4, _⟩ := hH.obj jf L k
          rw [hnone jf (by omega)] at h4
          cases h4
      · exact .inr (.inl k)
      · exact .inr (.inr k)
end Go.Am
