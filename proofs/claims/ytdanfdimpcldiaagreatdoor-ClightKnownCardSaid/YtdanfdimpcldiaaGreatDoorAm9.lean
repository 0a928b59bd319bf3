/-
  Proves that building values and allocating in the abstract machine stand for the model's. Each theorem states its own conditions; there are no others.
-/
import Derived.Test.YtdanfdimpcldiaaGreatDoorAm8
set_option linter.unusedSimpArgs false
set_option linter.unusedVariables false
set_option linter.unusedVariables false
set_option linter.unusedSectionVars false
namespace Go.Am
variable [Base]
variable {E : Env} {ι : Inj} {h h' : AHeap} {w : World} {rg : T AV} {a : Act} {o : Oper} {r : ORes}

theorem eqA_runIn (hE : E.Ok) (hH : HRel ι h w) {t : TypeId} {c : Bool} {x y : AV} {u v : Value} {b : Bool} (hx : VRel ι x u) (hy : VRel ι y v) (he : eqA E h t c x y = some b) (d : Nat) :
    (Op.equalIn (d + 1 + 1) t u v).run E.P w = .ok b w := by
  unfold eqA at he
  split at he
  · rename_i p q
    split at he
    · rename_i hu
      simp at he; subst he
      cases hx; cases hy
      exact run_equalIn_bool (P := E.P) w _ t p q (hE.und t _ hu)
    · simp at he
  · rename_i p q
    split at he
    · rename_i e hu
      have hu' := und_run hE hu w
      split at he
      · simp at he; subst he; cases hx; cases hy; rw [Op.equalIn]; simp [hu']
      · simp at he; subst he; cases hx; cases hy; rw [Op.equalIn]; simp [hu']
      · simp at he; subst he; cases hx; cases hy; rw [Op.equalIn]; simp [hu']
      · rename_i p q
        split at he
        · rename_i n hs
          obtain ⟨Lp, hLp, rfl⟩ := hx.ptr_inv
          obtain ⟨Lq, hLq, rfl⟩ := hy.ptr_inv
          have hs' := sizeOf_run hE hs w
          rw [Op.equalIn]; simp [hu', hs', eqPtr_run E.P hH hLp hLq he]
        · simp at he
    · simp at he
  · split at he
    · rename_i ms hu
      split at he
      · simp at he; subst he; cases hx; cases hy; rw [Op.equalIn]; simp [und_run hE hu]
      · simp at he
    · simp at he
  · split at he
    · rename_i ms hu
      simp at he; subst he; cases hx; cases hy; rw [Op.equalIn]; simp [und_run hE hu]
    · simp at he
  · split at he
    · rename_i ms hu
      simp at he; subst he; cases hx; cases hy; rw [Op.equalIn]; simp [und_run hE hu]
    · simp at he
  · split at he
    · rename_i ms hu
      simp at he; subst he
      cases hy
      cases hx <;> (rw [Op.equalIn]; simp [und_run hE hu])
    · simp at he
  · split at he
    · rename_i ms hu
      simp at he; subst he
      cases hy
      cases hx <;> (rw [Op.equalIn]; simp [und_run hE hu])
    · simp at he
  · rename_i xs ys
    split at he
    · rename_i offs hfl
      obtain ⟨us, rfl, hus⟩ := hx.agg_inv
      obtain ⟨vs, rfl, hvs⟩ := hy.agg_inv
      obtain ⟨fs, hu, hst, heq, hok⟩ := hE.flat t offs hfl
      have hf : E.P.fieldsOf t = fs := by simp [Program.fieldsOf, hu]
      have hu' : E.P.underlying t = some (.struct (E.P.fieldsOf t)) := by rw [hf]; exact hu
      rw [run_equalIn_struct w (d + 1) t us vs hu' hst, hf]
      exact eqFlat_run d w hus hvs _ _ _ hok he
    · simp at he
  · simp at he
theorem eqA_run (hE : E.Ok) (hH : HRel ι h w) {t : TypeId} {c : Bool} {x y : AV} {u v : Value} {b : Bool} (hx : VRel ι x u) (hy : VRel ι y v) (he : eqA E h t c x y = some b) :
    (Op.equal t u v).run E.P w = .ok b w := eqA_runIn hE hH hx hy he 9998

/-- The guard ahead of '==' lets by. -/
theorem eqGuard_run (hE : E.Ok) {t : TypeId} {op : BinOp} (hop : op = .eql ∨ op = .neq) {x y : Operand} {p q : AV} {u v : Value} {b : Bool} (hx : VRel ι p u) (hy : VRel ι q v)
    (he : eqA E h t (isConstO x || isConstO y) p q = some b) (w : World) : (eqGuard op t x y u v).run E.P w = .ok () w := by
  unfold eqA at he
  split at he
  · cases hx; cases hy; rcases hop with rfl | rfl <;> simp [eqGuard]
  · cases hx <;> cases hy <;> rcases hop with rfl | rfl <;> simp [eqGuard]
  · split at he
    · split at he
      · rename_i hc
        cases hx; cases hy
        rcases hop with rfl | rfl <;> cases x <;> cases y <;> simp_all [isConstO, eqGuard]
      · simp at he
    · simp at he
  · cases hx; cases hy; rcases hop with rfl | rfl <;> simp [eqGuard]
  · cases hx; cases hy; rcases hop with rfl | rfl <;> simp [eqGuard]
  · cases hy; cases hx <;> rcases hop with rfl | rfl <;> simp [eqGuard]
  · cases hy; cases hx <;> rcases hop with rfl | rfl <;> simp [eqGuard]
  · split at he
    · rename_i offs hfl
      obtain ⟨us, rfl, hus⟩ := hx.agg_inv
      obtain ⟨vs, rfl, hvs⟩ := hy.agg_inv
      obtain ⟨fs, hu, hst, heq, hok⟩ := hE.flat t offs hfl
      rcases hop with rfl | rfl <;> simp [eqGuard, heq]
    · simp at he
  · simp at he

theorem binOp_eql (hE : E.Ok) (t : TypeId) {c : Bool} {p q : AV} {u v : Value} {b : Bool} (hx : VRel ι p u) (hy : VRel ι q v) (he : eqA E h t c p q = some b) :
    Go.binOp .eql t u v = (do pure (.bool (← Op.equal t u v)) : Sem Value) ∧ Go.binOp .neq t u v = (do pure (.bool (!(← Op.equal t u v))) : Sem Value) := by
  unfold eqA at he
  split at he
  · cases hx; cases hy; exact ⟨rfl, rfl⟩
  · cases hx <;> cases hy <;> exact ⟨rfl, rfl⟩
  · cases hx; cases hy; exact ⟨rfl, rfl⟩
  · cases hx; cases hy; exact ⟨rfl, rfl⟩
  · cases hx; cases hy; exact ⟨rfl, rfl⟩
  · cases hx <;> cases hy <;> exact ⟨rfl, rfl⟩
  · cases hx <;> cases hy <;> exact ⟨rfl, rfl⟩
  · cases hx; cases hy; exact ⟨rfl, rfl⟩
  · simp at he

theorem op_binOp (hE : E.Ok) (hR : RegRel ι rg a.tmps) (hH : HRel ι h w) {op : BinOp} {t yt : TypeId} {x y : Operand} (ho : o.op = .binOp op t x y yt) (hop : opA E rg h o = some (r, h')) :
    OpPure ι h w r h' ((execOp a.eval o).run E.P w) := by
  simp only [opA, ho] at hop
  split at hop
  · rename_i p q hp hq
    split at hop
    · rename_i z hz
      simp at hop; obtain ⟨rfl, rfl⟩ := hop
      have hpr := evA_rel hR hp
      have hqr := evA_rel hR hq
      have hexec : (execOp a.eval o).run E.P w = ((eqGuard op t x y (a.eval x) (a.eval y)).run E.P w).andThen fun _ w' => ((Go.binOp op t (a.eval x) (a.eval y)).run E.P w').andThen fun v w'' => .ok (.value v) w'' := by
        simp only [execOp, ho, Sem.run_bind]
        cases (eqGuard op t x y (a.eval x) (a.eval y)).run E.P w <;> simp
      unfold binA at hz
      split at hz
      · rename_i k c k' c'
        obtain ⟨v, hv, hr⟩ := pureAV_run hz ι E.P w
        have hpe : a.eval x = .int k c := by cases h1 : a.eval x <;> rw [h1] at hpr <;> cases hpr; rfl
        have hqe : a.eval y = .int k' c' := by cases h1 : a.eval y <;> rw [h1] at hqr <;> cases hqr; rfl
        have hg : (eqGuard op t x y (.int k c) (.int k' c')).run E.P w = .ok () w := by
          unfold eqGuard; cases op <;> simp
        exact .pure hH (y := v) (by rw [hexec, hpe, hqe, hg]; simp [hv]) hr
      · rename_i c c'
        have hpe : a.eval x = .string ⟨c.toArray⟩ := by cases h1 : a.eval x <;> rw [h1] at hpr <;> cases hpr; rfl
        have hqe : a.eval y = .string ⟨c'.toArray⟩ := by cases h1 : a.eval y <;> rw [h1] at hqr <;> cases hqr; rfl
        have hg : (eqGuard op t x y (.string ⟨c.toArray⟩) (.string ⟨c'.toArray⟩)).run E.P w = .ok () w := by
          unfold eqGuard; cases op <;> simp
        have hb : ∀ op', Go.binOp op' t (.string ⟨c.toArray⟩) (.string ⟨c'.toArray⟩) = Op.stringOp op' ⟨c.toArray⟩ ⟨c'.toArray⟩ := fun op' => by cases op' <;> rfl
        have hcat : (⟨c.toArray⟩ : ByteArray) ++ ⟨c'.toArray⟩ = ⟨(c ++ c').toArray⟩ := by
          apply ByteArray.ext; simp
        rw [hpe, hqe, hg, hb] at hexec
        split at hz
        · split at hz
          · rename_i hlen
            simp at hz; subst hz
            refine .pure hH (y := .string ⟨(c ++ c').toArray⟩) ?_ (.str _)
            have s1 : ({ data := c.toArray } : ByteArray).size = c.length := by simp [ByteArray.size]
            have s2 : ({ data := c'.toArray } : ByteArray).size = c'.length := by simp [ByteArray.size]
            have hm : IntKind.i64.max = 9223372036854775807 := by rfl
            have hl : ¬ ((((({ data := c.toArray } : ByteArray).size + ({ data := c'.toArray } : ByteArray).size : Nat)) : Int) > IntKind.i64.max) := by
              rw [s1, s2, hm]; omega
            rw [hexec]
            simp only [Result.andThen_ok, Op.stringOp, if_neg hl, hcat, Sem.run_pure]
          · simp at hz
        all_goals first | (simp at hz; done) | skip
        all_goals
          simp at hz; subst hz
          exact .pure hH (by rw [hexec]; simp [Op.stringOp]) (.bool _)
      · split at hz
        · rw [Option.map_eq_some_iff] at hz
          obtain ⟨b, hb, rfl⟩ := hz
          have h1 := eqA_run hE hH hpr hqr hb
          have h2 := eqGuard_run hE (op := .eql) (.inl rfl) hpr hqr hb w
          exact .pure hH (by rw [hexec, h2, (binOp_eql hE t hpr hqr hb).1]; simp [h1]) (.bool b)
        · rw [Option.map_eq_some_iff] at hz
          obtain ⟨b, hb, rfl⟩ := hz
          have h1 := eqA_run hE hH hpr hqr hb
          have h2 := eqGuard_run hE (op := .neq) (.inr rfl) hpr hqr hb w
          exact .pure hH (by rw [hexec, h2, (binOp_eql hE t hpr hqr hb).2]; simp [h1]) (.bool (!b))
        · simp at hz
    · simp at hop
  · simp at hop
end Go.Am
