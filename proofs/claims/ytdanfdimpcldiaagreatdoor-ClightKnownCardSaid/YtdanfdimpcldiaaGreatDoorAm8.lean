/-
  Proves that field and index operations of the abstract machine stand for the model's. Each theorem states its own conditions; there are no others.
-/
import Derived.Test.YtdanfdimpcldiaaGreatDoorAm7
set_option linter.unusedSimpArgs false
set_option linter.unusedVariables false
set_option linter.unusedVariables false
set_option linter.unusedSectionVars false
namespace Go.Am
variable [Base]
variable {E : Env} {ι : Inj} {h h' : AHeap} {w : World} {rg : T AV} {a : Act} {o : Oper} {r : ORes}

theorem pureAV_run {s : Sem Value} {v : AV} (hp : pureAV s = some v) (ι : Inj) (P : Program) (w : World) : ∃ y, s.run P w = .ok y w ∧ VRel ι v y := by
  unfold pureAV at hp
  split at hp
  · rename_i y; exact ⟨y, rfl, toAV0_rel ι hp⟩
  · simp at hp

theorem toList_bytes (l : List UInt8) : (⟨l.toArray⟩ : ByteArray).toList = l := by
  rw [ByteArray.toList_eq]

theorem eqKind_run {P : Program} {k : Nat} {x y : AV} {u v : Value} {b : Bool} (hx : VRel ι x u) (hy : VRel ι y v) (he : eqKind k x y = some b) {t : TypeId} (d : Nat) (w : World)
    (ht : (k = 0 ∧ P.underlying t = some .bool) ∨ (k = 1 ∧ P.underlying t = some .string) ∨ (k = 2 ∧ ∃ q, P.underlying t = some (.int q))) :
    (Op.equalIn (d + 1) t u v).run P w = .ok b w := by
  unfold eqKind at he
  split at he
  · rename_i c c'
    cases hx; cases hy; simp at he; subst he
    exact run_equalIn_bool (P := P) w d t c c' (by simpa using ht)
  · rename_i c c'
    cases hx; cases hy; simp at he; subst he
    have := run_equalIn_string (P := P) w d t ⟨c.toArray⟩ ⟨c'.toArray⟩ (by simpa using ht)
    rw [toList_bytes, toList_bytes] at this; exact this
  · rename_i q1 c q2 c'
    cases hx; cases hy
    obtain ⟨q, hq⟩ : ∃ q, P.underlying t = some (.int q) := by simpa using ht
    split at he
    · rename_i e; subst e; simp at he; subst he; exact run_equalIn_int (P := P) w d t q1 q c c' hq
    · simp at he
  · simp at he

theorem isAgg_flat {P : Program} {k : Nat} {t : TypeId} (w : World)
    (ht : (k = 0 ∧ P.underlying t = some .bool) ∨ (k = 1 ∧ P.underlying t = some .string) ∨ (k = 2 ∧ ∃ q, P.underlying t = some (.int q))) : (Go.isAgg t).run P w = .ok false w := by
  rcases ht with ⟨_, h⟩ | ⟨_, h⟩ | ⟨_, q, h⟩ <;> simp [Go.isAgg, run_underlying h]

theorem eqFlat_run {P : Program} (d : Nat) (w : World) {xs ys : List AV} {us vs : Array Value} (hx : VsRel ι xs us.toList) (hy : VsRel ι ys vs.toList) :
    ∀ (fs : List Field) (offs : List (Nat × Nat)) (b : Bool), FlatOk P fs offs → eqFlat xs ys offs = some b → (Op.eqFields (d + 1) us vs fs).run P w = .ok b w
  | [], [], b, _, he => by simp [eqFlat] at he; subst he; simp [Op.eqFields]
  | f :: fs, (o, k) :: r, b, hf, he => by
    obtain ⟨hn, rfl, hk, hr⟩ := hf
    simp only [eqFlat] at he
    split at he
    · rename_i x y hxo hyo
      obtain ⟨u, hu, hxu⟩ := hx.get hxo
      obtain ⟨v, hv, hyv⟩ := hy.get hyo
      have pu : (part f.type us f.offset).run P w = .ok u w := by simp [part, isAgg_flat w hk, ← Array.getElem?_toList, hu]
      have pv : (part f.type vs f.offset).run P w = .ok v w := by simp [part, isAgg_flat w hk, ← Array.getElem?_toList, hv]
      cases hb : eqKind k x y with
      | none => simp [hb] at he
      | some c =>
        have hc := eqKind_run hxu hyv hb d w hk
        simp only [hb] at he
        simp only [Op.eqFields, hn, ne_eq, not_false_eq_true, if_true, Sem.run_bind, pu, Result.andThen_ok, pv, hc]
        cases c
        · simp at he; subst he; simp
        · simp only [Bool.not_true, Bool.false_eq_true, if_false]
          exact eqFlat_run d w hx hy fs r b hr he
    · simp at he
  | [], _ :: _, _, hf, _ => hf.elim
  | _ :: _, [], _, hf, _ => hf.elim

/-- Two live addresses: the model tells them apart as the abstract machine does. -/
theorem eqPtr_run (P : Program) (hH : HRel ι h w) {p q : Nat × Nat} {Lp Lq : Loc} {b : Bool} (hp : ι p.1 = some Lp) (hq : ι q.1 = some Lq) (he : eqPtr h p q = some b) :
    (sameAddr ⟨Lp.b, Lp.base + p.2, none⟩ ⟨Lq.b, Lq.base + q.2, none⟩).run P w = .ok b w := by
  unfold eqPtr at he
  split at he
  · rename_i rw1 es1 cs1 rw2 es2 cs2 ho1 ho2
    split at he
    · rename_i e
      simp at he; subst he
      rw [e] at hp; rw [hp] at hq; cases hq
      by_cases h2 : p.2 = q.2
      · simp [sameAddr, h2]
      · have : ¬ (Lp.base + p.2 = Lp.base + q.2) := by omega
        have hb : (({ block := Lp.b, off := Lp.base + p.2 } : Addr) == { block := Lp.b, off := Lp.base + q.2 }) = false := by
          rw [beq_eq_false_iff_ne]; intro e; injection e with _ e2; omega
        simp [sameAddr, hb, h2]
    · rename_i e
      split at he
      · rename_i hrw
        simp at he; subst he
        obtain ⟨_, _, _, c1, e1, fz1, hb1, hf1, _⟩ := hH.cells hp ho1
        obtain ⟨_, _, _, c2, e2, fz2, hb2, hf2, _⟩ := hH.cells hq ho2
        have hne : Lp.b ≠ Lq.b := by
          simp at hrw
          exact hH.dis p.1 q.1 Lp Lq _ _ e hp hq ho1 ho2 (by simp [AObj.owned, hrw.1]) rfl
        simp at hrw
        obtain ⟨rfl, rfl⟩ := hrw
        obtain ⟨rfl, _⟩ := hf1 rfl
        obtain ⟨rfl, _⟩ := hf2 rfl
        have s1 : w.shape? Lp.b = some (e1, c1.size) := by simp [World.shape?, hb1]
        have s2 : w.shape? Lq.b = some (e2, c2.size) := by simp [World.shape?, hb2]
        have f1 : ∀ k, w.frozen? ⟨Lp.b, k, none⟩ = false := fun k => by simp [World.frozen?, hb1]
        have f2 : ∀ k, w.frozen? ⟨Lq.b, k, none⟩ = false := fun k => by simp [World.frozen?, hb2]
        have hbl : (Lp.b == Lq.b) = false := by simpa using hne
        simp [sameAddr, hbl, f1, f2, noView, viewAt, s1, s2, mayBeOne, stringish]
      · simp at he
  · simp at he
end Go.Am
