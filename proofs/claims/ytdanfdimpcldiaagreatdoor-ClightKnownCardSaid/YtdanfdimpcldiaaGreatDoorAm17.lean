/-
  Proves that code, carried out by the abstract machine, stands for the model's. Each theorem states its own conditions; there are no others.
-/
import Derived.Test.YtdanfdimpcldiaaGreatDoorAm28
import Derived.Scope
set_option linter.unusedSimpArgs false
set_option linter.unusedVariables false
set_option linter.unusedVariables false
set_option linter.unusedSimpArgs false
set_option linter.unusedSectionVars false
namespace Go.Am
variable [Base]
variable {E : Env}

theorem Post.of_ext {ι ι' : Inj} {st st1 st' : St} {w w' : World} {ρ : Option Nat} {x : AExit} {Q : Exit → Act → World → Prop} (h : Post ι st w ρ x st' Q) (he : Ext ι st.h w ι' st1.h w') : Post ι' st1 w' ρ x st' Q :=
  fun e ι2 a2 w2 he2 hs hx => h e ι2 a2 w2 (he.trans he2) hs hx

theorem exists_least {p : Nat → Prop} (h : ∃ k, p k) : ∃ k, p k ∧ ∀ j, p j → k ≤ j := by
  obtain ⟨k, hk⟩ := h
  induction k using Nat.strongRecOn with
  | _ k ih =>
    by_cases hj : ∃ j, j < k ∧ p j
    · obtain ⟨j, hlt, hpj⟩ := hj; exact ih j hlt hpj
    · exact ⟨k, hk, fun j hpj => by
        rcases Nat.lt_or_ge j k with h | h
        · exact absurd ⟨j, h, hpj⟩ hj
        · exact h⟩
open Classical in
noncomputable def leastOf (p : Nat → Prop) : Nat := if h : ∃ k, p k then Classical.choose (exists_least h) else 0
theorem leastOf_spec {p : Nat → Prop} (h : ∃ k, p k) : p (leastOf p) ∧ ∀ j, p j → leastOf p ≤ j := by
  unfold leastOf; rw [dif_pos h]; exact Classical.choose_spec (exists_least h)

theorem loopA_sound {call : CallF} {round : RoundF} {fuel : Nat} {ρ : Option Nat} {c : Code} (hE : E.Ok)
    (ih : ∀ {st : St} {x : AExit} {st' : St} {ι : Inj} {a : Act} {w : World} {Q : Exit → Act → World → Prop}, codeA E call round fuel c st = some (x, st') → StRel ι st a w ρ → Post ι st w ρ x st' Q → c.wpIn (wideAt ρ) 0 E.P Q a w)
    {n : Nat} {st : St} {x : AExit} {st' : St} {ι : Inj} {a : Act} {w : World} {Q : Exit → Act → World → Prop} (hr : loopA (codeA E call round fuel c) n st = some (x, st')) (hS : StRel ι st a w ρ) (hP : Post ι st w ρ x st' Q) :
    (Code.loop c).wpIn (wideAt ρ) 0 E.P Q a w := by
  let In : Nat → Act → World → Prop := fun k a1 w1 => ∃ st1 ι1, loopA (codeA E call round fuel c) k st1 = some (x, st') ∧ StRel ι1 st1 a1 w1 ρ ∧ Ext ι st.h w ι1 st1.h w1
  let μ : Act → World → Nat := fun a1 w1 => leastOf fun k => In k a1 w1
  refine wpIn_loop (fun a1 w1 => ∃ k, In k a1 w1) μ ⟨n, st, ι, hr, hS, Ext.refl hS.heap⟩ fun a1 w1 hI => ?_
  obtain ⟨⟨st1, ι1, hr1, hS1, he1⟩, -⟩ := leastOf_spec hI
  change loopA (codeA E call round fuel c) (μ a1 w1) st1 = _ at hr1
  cases hk : μ a1 w1 with
  | zero => rw [hk] at hr1; simp [loopA] at hr1
  | succ k =>
    rw [hk] at hr1
    simp only [loopA] at hr1
    split at hr1
    · rename_i st2 hc
      refine ih hc hS1 fun e ι2 a2 w2 he2 hs2 hx => ?_
      cases e with
      | normal =>
        have hin : In k a2 w2 := ⟨st2, ι2, hr1, hs2, he1.trans he2⟩
        refine ⟨⟨k, hin⟩, ?_⟩
        show leastOf (fun k => In k a2 w2) < _
        exact Nat.lt_succ_of_le ((leastOf_spec ⟨k, hin⟩).2 k hin)
      | _ => exact hx.elim
    · rename_i hne
      have hP1 := hP.of_ext he1
      cases x with
      | nrm => exact (hne _ hr1).elim
      | exit id => exact ih hr1 hS1 fun e ι2 a2 w2 he2 hs2 hx => by cases e <;> first | exact hP1 _ ι2 a2 w2 he2 hs2 hx | exact hx.elim
      | ret => exact ih hr1 hS1 fun e ι2 a2 w2 he2 hs2 hx => by cases e <;> first | exact hP1 _ ι2 a2 w2 he2 hs2 hx | exact hx.elim
      | pan v => exact ih hr1 hS1 fun e ι2 a2 w2 he2 hs2 hx => by cases e <;> first | exact hP1 _ ι2 a2 w2 he2 hs2 hx | exact hx.elim

theorem hasBody_spec (hE : E.Ok) {k : FuncId} (h : hasBody E k = true) : ∃ fn, E.P.funcs[k]? = some fn ∧ (fn.name == "runtime.NumGoroutine") = false ∧ fn.body.isNone = false := by
  unfold hasBody at h
  split at h
  · rename_i fn hfn
    obtain ⟨h1, h2⟩ := hE.fn k fn hfn
    exact ⟨fn, h1, h2, by cases h3 : fn.body <;> simp_all⟩
  · simp at h

theorem stepR_scope {P : Program} {b : Frame} {a : Act} {k : List Item} {cs : List Frame} {w : World} {c : Code} : step P (lone (b.atR a (.code (.scope c) :: k)) cs w) = .next (lone (b.atR a (.code c :: .inScope c :: k)) cs w) :=
  step_lone_go (by simp [stepG, stepG.exec, Frame.atR])
theorem stepR_inScope {P : Program} {b : Frame} {a : Act} {k : List Item} {cs : List Frame} {w : World} {c : Code} : step P (lone (b.atR a (.inScope c :: k)) cs w) = .next (lone (b.atR a k) cs w) :=
  step_lone_go (by simp [stepG, stepG.exec, Frame.atR])
/-- A scope through which the run goes without a goto. -/
theorem wpIn_scope_straight {F : Fence} {n : Nat} {P : Program} {Q : Exit → Act → World → Prop} {a : Act} {w : World} {c : Code} (h : c.wpIn F n P (Exit.noGoto Q) a w) : (Code.scope c).wpIn F n P Q a w := by
  intro b k cs hro hb hr
  have h0 : (lone (b.atR a (.code (.scope c) :: k)) cs w).fenced P F := fenced_calm hb hr rfl
  obtain ⟨e, a₁, w₁, hq, harr⟩ := h b (.inScope c :: k) cs hro hb hr
  cases e with
  | normal => exact ⟨.normal, a₁, w₁, hq, .head h0 stepR_scope (StepsIn.trans harr (.one (fenced_calm hb hr rfl) stepR_inScope))⟩
  | exit id =>
    have hx : exitTo id (.inScope c :: k) = exitTo id k := by simp [exitTo]
    exact ⟨.exit id, a₁, w₁, hq, fun k' hk => .head h0 stepR_scope (harr.1 k' (by rw [hx]; exact hk)),
      fun hr' hk => let ⟨k₁, h1, h2⟩ := harr.2 hr' (by rw [hx]; exact hk); ⟨k₁, h1, .head h0 stepR_scope h2⟩⟩
  | goto l => exact hq.elim
  | ret => exact ⟨_, a₁, w₁, hq, .of_steps (.one h0 stepR_scope) harr⟩
  | panic ch => exact ⟨_, a₁, w₁, hq, .of_steps (.one h0 stepR_scope) harr⟩
  | outgrown => exact ⟨_, a₁, w₁, hq, .of_steps (.one h0 stepR_scope) harr⟩

theorem codeA_sound (hE : E.Ok) {call : CallF} {round : RoundF} (hm : MachOk E call round) {fuel : Nat} {ρ : Option Nat} :
    ∀ {c : Code} {st : St} {x : AExit} {st' : St} {ι : Inj} {a : Act} {w : World} {Q : Exit → Act → World → Prop}, codeA E call round fuel c st = some (x, st') → StRel ι st a w ρ → Post ι st w ρ x st' Q → c.wpIn (wideAt ρ) 0 E.P Q a w := by
  intro c
  induction c with
  | skip =>
    intro st x st' ι a w Q hr hS hP
    simp [codeA] at hr; obtain ⟨rfl, rfl⟩ := hr
    exact wpIn_skip (hP _ ι a w (Ext.refl hS.heap) hS trivial)
  | ret =>
    intro st x st' ι a w Q hr hS hP
    simp [codeA] at hr; obtain ⟨rfl, rfl⟩ := hr
    exact wpIn_ret (hP _ ι a w (Ext.refl hS.heap) hS trivial)
  | exit id =>
    intro st x st' ι a w Q hr hS hP
    simp [codeA] at hr; obtain ⟨rfl, rfl⟩ := hr
    exact wpIn_exit (hP _ ι a w (Ext.refl hS.heap) hS rfl)
  | region id ops d =>
    intro st x st' ι a w Q hr hS hP
    cases d with
    | false =>
      simp only [codeA] at hr
      exact wpIn_region_list (opsA_sound hE hm hr hS hP)
    | true =>
      simp only [codeA, drawReg] at hr
      split at hr
      · rename_i hok
        exact wpIn_region_any hE.mixed (wpAnyIn_permA (drawA_any hE hm hok hr hS hP))
      · simp at hr
  | seq c1 c2 ih1 ih2 =>
    intro st x st' ι a w Q hr hS hP
    simp only [codeA] at hr
    refine wpIn_seq ?_
    split at hr
    · rename_i st1 hc
      refine ih1 hc hS fun e ι1 a1 w1 he hs hx => ?_
      cases e with
      | normal => exact ih2 hr hs (hP.of_ext he)
      | _ => exact hx.elim
    · rename_i hne
      refine ih1 hr hS fun e ι1 a1 w1 he hs hx => ?_
      cases x with
      | nrm => exact (hne _ hr).elim
      | _ => cases e <;> first | exact hP _ ι1 a1 w1 he hs hx | exact hx.elim
  | cond o c1 c2 ih1 ih2 =>
    intro st x st' ι a w Q hr hS hP
    simp only [codeA] at hr
    split at hr
    · rename_i hc
      exact wpIn_cond (evA_rel hS.reg hc).bool_inv (ih1 hr hS hP)
    · rename_i hc
      exact wpIn_cond (evA_rel hS.reg hc).bool_inv (ih2 hr hS hP)
    · simp at hr
  | block id c ih =>
    intro st x st' ι a w Q hr hS hP
    simp only [codeA] at hr
    refine wpIn_block ?_
    split at hr
    · rename_i id' st1 hc
      split at hr
      · rename_i hid
        simp at hr; obtain ⟨rfl, rfl⟩ := hr
        refine ih hc hS fun e ι1 a1 w1 he hs hx => ?_
        cases e with
        | exit j =>
          have : id' = j := hx
          subst this
          simp only [Exit.inBlock, hid, if_true]
          exact hP _ ι1 a1 w1 he hs trivial
        | _ => exact hx.elim
      · rename_i hid
        simp at hr; obtain ⟨rfl, rfl⟩ := hr
        refine ih hc hS fun e ι1 a1 w1 he hs hx => ?_
        cases e with
        | exit j =>
          have : id' = j := hx
          subst this
          simp only [Exit.inBlock, hid, if_false]
          exact hP _ ι1 a1 w1 he hs rfl
        | _ => exact hx.elim
    · rename_i hne
      refine ih hr hS fun e ι1 a1 w1 he hs hx => ?_
      cases x with
      | exit id' => exact (hne _ _ hr).elim
      | _ => cases e <;> first | exact hP _ ι1 a1 w1 he hs hx | exact hx.elim
  | loop c ih =>
    intro st x st' ι a w Q hr hS hP
    simp only [codeA] at hr
    exact loopA_sound hE ih hr hS hP
  | label l =>
    intro st x st' ι a w Q hr hS hP
    simp [codeA] at hr; obtain ⟨rfl, rfl⟩ := hr
    exact wpIn_label (hP _ ι a w (Ext.refl hS.heap) hS trivial)
  | scope c ih =>
    intro st x st' ι a w Q hr hS hP
    simp only [codeA] at hr
    refine wpIn_scope_straight (ih hr hS fun e ι1 a1 w1 he hs hx => ?_)
    cases e with
    | goto l => cases x <;> exact hx.elim
    | _ => exact hP _ ι1 a1 w1 he hs hx
  | rangeFunc f ps as b ih1 ih2 =>
    intro st x st' ι a w Q hr hS hP
    simp only [codeA] at hr
    split at hr
    · rename_i g caps hf
      split at hr
      · simp at hr
      · rename_i hcond
        simp at hcond
        obtain ⟨hrnd, hbody⟩ := hcond
        have hρ : ρ = none := by
          cases ρ with
          | none => rfl
          | some l => have := hS.rnd; rw [hrnd] at this; cases this
        subst hρ
        split at hr
        · rename_i v h2 hcall
          split at hr
          · simp at hr
          · rename_i stt pend n rg ps' as' b' hnb hl2
            refine wpIn_rangeFunc fun fnid _ => ?_
            obtain ⟨fn, hfn, hname, hbn⟩ := hasBody_spec hE hbody
            obtain ⟨cs, hfe, hcs⟩ : ∃ cs, a.eval f = .func (.func g) #[] cs ∧ VsRel ι caps cs.toList := by
              have hrel := evA_rel hS.reg hf
              cases h1 : a.eval f <;> rw [h1] at hrel <;> cases hrel
              exact ⟨_, rfl, ‹_›, ‹_›⟩
            -- the block, the record
            let L0 : Loc := { b := w.heap.size, base := 0, top := 0, es := 0, rw := true }
            let w0 : World := w.alloc (.deferred (some []))
            have he0 : Ext ι st.h w (ι.add st.h.next L0) (st.h.alloc .dblk).2 w0 :=
              hS.heap.alloc (w0 := w) rfl rfl rfl rfl _ _ L0 rfl (heap_alloc_new w _)
            let L1 : Loc := { b := w0.heap.size, base := 0, top := 0, es := 0, rw := true }
            let rec1 : Loop := { state := .ready, pending := none, fn := fnid, tmps := a.tmps, params := ps, assign := as, body := b, defers := w.heap.size }
            let w1 : World := w0.alloc (.loop rec1)
            let h0 := (st.h.alloc .dblk).2
            have hreg0 : RegRel (ι.add st.h.next L0) st.rg a.tmps := hS.reg.mono (he0.le hS.heap)
            have hle1 : (ι.add st.h.next L0).le ((ι.add st.h.next L0).add h0.next L1) := fun i Li hi => by
              rw [Inj.add_other]; exact hi
              have := he0.rel.lt i Li hi
              exact Nat.ne_of_lt this
            have he1 : Ext (ι.add st.h.next L0) h0 w0 ((ι.add st.h.next L0).add h0.next L1) (h0.alloc (.loop .ready none st.n st.rg ps as b)).2 w1 :=
              he0.rel.alloc (w0 := w0) rfl rfl rfl rfl _ _ L1 rfl ⟨a.tmps, w.heap.size, fnid, heap_alloc_new w0 _, hreg0.mono hle1, hS.n⟩
            have he01 := he0.trans he1
            refine ⟨w0.heap.size, [{ target := .collected w.heap.size, args := #[] }], w1, { target := .fn (.func g) cs, args := #[.func (.yield w0.heap.size) #[] #[]] }, w1, g,
              #[.func (.yield w0.heap.size) #[] #[]] ++ cs, w1, ?_, ?_, fun _ _ => trivial, ?_, fun h => by simp [wideAt, Fence.wide] at h, ?_⟩
            · simp only [Instr.enterLoop, Sem.run_bind, Sem.run_pure, run_newObj, Result.andThen_ok, wideAt]
              rfl
            · show (resolve a.eval (rangeCall f w0.heap.size) 0).run E.P w1 = _
              simp only [resolve, rangeCall, Deferred.ofValue, hfe]
              simp [Act.eval]
            · simp only [invoke, callFunc, Sem.run_bind, run_program, Result.andThen_ok, hfn, hname, hbn]
              simp
            · rw [wideAt_calls]
              have hargs : VsRel ((ι.add st.h.next L0).add h0.next L1) (.yld h0.next :: caps) (#[Value.func (.yield w0.heap.size) #[] #[]] ++ cs).toList := by
                simp only [Array.toList_append, List.cons_append, List.nil_append]
                exact VsRel.cons (.yld (L := L1) (Inj.add_same _ _ _)) (hcs.mono (he01.le hS.heap))
              refine (hm.call hcall he1.rel hargs).mono fun e w3 he => ?_
              obtain ⟨ι3, hext, hout⟩ := he
              cases e with
              | panicked chain => exact hout.elim
              | outgrown => exact hout.elim
              | returned y =>
                have hext3 := he01.trans hext
                have hlt1 : h0.next < (h0.alloc (.loop .ready none st.n st.rg ps as b)).2.next := Nat.lt_succ_self _
                have hi3 : ι3 h0.next = some L1 := by rw [hext.keep _ hlt1, Inj.add_same]
                have hlt0 : st.h.next < h0.next := Nat.lt_succ_self _
                have hi0 : ι3 st.h.next = some L0 := by
                  rw [hext.keep _ (Nat.lt_trans hlt0 hlt1), Inj.add_other _ _ (Nat.ne_of_lt hlt0), Inj.add_same]
                obtain ⟨ob, hob, hO⟩ := hext.rel.obj _ _ hi3
                rw [hl2] at hob; cases hob
                obtain ⟨tm, df, fn', hb3, hreg3, hsz3⟩ := hO
                have hgl : (Instr.getLoop L1.b).run E.P w3 = .ok { state := stt, pending := pend, fn := fn', tmps := tm, params := ps', assign := as', body := b', defers := df } w3 := by
                  simp [Instr.getLoop, getObj, Sem.run, hb3, Sem.bind, Bind.bind, Pure.pure, Sem.pure]
                have hstt : (stt == LoopState.busy) = false := by
                  cases stt with
                  | busy => exact (hnb rfl).elim
                  | _ => rfl
                let w4 : World := { w3 with heap := w3.heap.setIfInBounds L1.b (.loop { state := .exhausted, pending := pend, fn := fn', tmps := tm, params := ps', assign := as', body := b', defers := df }) }
                have hlt3 : L1.b < w3.heap.size := (Array.getElem?_eq_some_iff.1 hb3).1
                have hend : (Instr.endLoop L1.b).run E.P w3 = .ok pend w4 := by
                  simp only [Instr.endLoop, Sem.run_bind, hgl, Result.andThen_ok, hstt]
                  have hset : ∀ o', (setObj L1.b o').run E.P w3 = .ok () { w3 with heap := w3.heap.setIfInBounds L1.b o' } := fun o' => by simp [setObj, Sem.run, hb3]
                  simp only [Bool.false_eq_true, if_false, Sem.run_bind, Sem.run_pure, Result.andThen_ok, hset]
                  rfl
                have hturn : Ext ι3 h2 w3 ι3 (h2.set h0.next (.loop .exhausted pend n rg ps' as' b')) w4 := by
                  refine hext.rel.turn hi3 hl2 rfl ⟨tm, df, fn', ?_, hreg3, hsz3⟩ (by simp [w4]) (fun bb hne => ?_) rfl rfl rfl
                  · simp [w4, hlt3]
                  · simp only [w4]
                    rw [Array.getElem?_setIfInBounds_ne (fun e => hne e.symm)]
                have hext4 := hext3.trans hturn
                let a' : Act := { a with defers := [{ target := .collected w.heap.size, args := #[] }] ++ a.defers }
                have hS' : StRel ι3 { st with h := h2.set h0.next (.loop .exhausted pend n rg ps' as' b'), ds := .mark st.h.next :: st.ds } a' w4 none :=
                  ⟨hS.reg.mono (hext3.le hS.heap), hS.n, hturn.rel, ⟨⟨L0, hi0, rfl⟩, hS.ds.mono (hext3.le hS.heap)⟩, hS.rnd⟩
                refine ⟨pend, w4, hend, ?_⟩
                split at hr
                · rename_i _
                  simp at hr; obtain ⟨rfl, rfl⟩ := hr
                  exact hP .normal ι3 a' w4 hext4 hS' trivial
                · simp at hr; obtain ⟨rfl, rfl⟩ := hr
                  exact wpIn_ret (hP .ret ι3 a' w4 hext4 hS' trivial)
                · rename_i id
                  simp at hr; obtain ⟨rfl, rfl⟩ := hr
                  exact wpIn_exit (hP (.exit id) ι3 a' w4 hext4 hS' rfl)
                · simp at hr
          · simp at hr
        · simp at hr
    · simp at hr
  | _ => intro st x st' ι a w Q hr hS hP; simp [codeA] at hr
end Go.Am
