/-
  Proves that the abstract machine is sound: a call that it carries out ends in the model as it says. Each theorem states its own conditions; there are no others.
-/
import Derived.Test.YtdanfdimpcldiaaGreatDoorAm18
set_option linter.unusedSimpArgs false
set_option linter.unusedVariables false
set_option linter.unusedVariables false
set_option linter.unusedSimpArgs false
set_option linter.unusedSectionVars false
namespace Go.Am
variable [Base]
variable {E : Env}

/-- The mode of a frame on its way out: what can still be recovered. -/
def ModeRel (ι : Inj) (p : Option AV) (u : FrameMode) : Prop :=
  match p with
  | some v => ∃ y, u = .panicking [{ v := y, recovered := false }] ∧ VRel ι v y
  | none => u = .returning ∨ ∃ y, u = .panicking [{ v := y, recovered := true }]
/-- The same once it is settled. -/
def ModeRel' (ι : Inj) (p : Option AV) (u : FrameMode) : Prop :=
  match p with
  | some v => ∃ y, u = .panicking [{ v := y, recovered := false }] ∧ VRel ι v y
  | none => u = .returning
theorem ModeRel'.weak {ι : Inj} {p : Option AV} {u : FrameMode} (h : ModeRel' ι p u) : ModeRel ι p u := by
  cases p with
  | none => exact .inl h
  | some v => exact h
theorem ModeRel.settle {ι : Inj} {p : Option AV} {u : FrameMode} (h : ModeRel ι p u) : ModeRel' ι p (settle u) := by
  cases p with
  | none =>
    rcases h with rfl | ⟨y, rfl⟩
    · rfl
    · rfl
  | some v => obtain ⟨y, rfl, hv⟩ := h; exact ⟨y, rfl, hv⟩
theorem ModeRel.mono {ι ι' : Inj} (hle : ι.le ι') {p : Option AV} {u : FrameMode} (h : ModeRel ι p u) : ModeRel ι' p u := by
  cases p with
  | none => exact h
  | some v => obtain ⟨y, h1, hv⟩ := h; exact ⟨y, h1, hv.mono hle⟩
theorem ModeRel.run {ι : Inj} {p : Option AV} {u : FrameMode} (h : ModeRel ι p u) : u ≠ .run := by
  cases p with
  | none => rcases h with rfl | ⟨y, rfl⟩ <;> simp
  | some v => obtain ⟨y, rfl, _⟩ := h; simp

def PostS (ι : Inj) (st : St) (w : World) (c₀ : Frame) (cs : List Frame) (x : AExit) (st' : St) (p' : Option AV) (Q : Exit → Act → List Frame → World → Prop) : Prop :=
  ∀ e ι' a' u' w', Ext ι st.h w ι' st'.h w' → StRel ι' st' a' w' none → ModeRel ι' p' u' → ExRel ι' x e → Q e a' ({ c₀ with mode := u' } :: cs) w'

theorem opsS_sound (hE : E.Ok) {ops : Array Oper} {c₀ : Frame} {cs : List Frame} {x : AExit} {st' : St} {p' : Option AV} {Q : Exit → Act → List Frame → World → Prop} :
    ∀ {l : List Oper} {k : Nat} {st : St} {p : Option AV} {ι : Inj} {a : Act} {w : World} {u : FrameMode}, (∀ j, l[j]? = ops[k + j]?) → opsS E ops l st p = some (x, st', p') → StRel ι st a w none → ModeRel ι p u →
      PostS ι st w c₀ cs x st' p' Q → wpOpsSIn Fence.wide 0 E.P ops Q (List.range' k l.length) a ({ c₀ with mode := u } :: cs) w
  | [], k, st, p, ι, a, w, u, hl, hr, hS, hM, hP => by
    simp [opsS] at hr; obtain ⟨rfl, rfl, rfl⟩ := hr
    exact hP .normal ι a u w (Ext.refl hS.heap) hS hM trivial
  | o :: l, k, st, p, ι, a, w, u, hl, hr, hS, hM, hP => by
    have h0 : ops[k]? = some o := by simpa using (hl 0).symm
    have hl' : ∀ j, l[j]? = ops[k + 1 + j]? := fun j => by have := hl (j + 1); simpa [Nat.add_assoc, Nat.add_comm 1 j] using this
    simp only [List.length_cons, List.range'_succ, wpOpsSIn, h0]
    refine ⟨fun _ _ => trivial, ?_⟩
    simp only [opsS] at hr
    split at hr
    · simp at hr
    · rename_i hw
      obtain ⟨hw, hd⟩ := wantedA_spec hw hS.reg
      rw [← hS.n] at hd
      rw [hw, if_neg (by simp)]
      exact opsS_sound hE hl' hr ⟨hS.reg.put hd (nilRel _), by rw [put_size]; exact hS.n, hS.heap, by rw [put_defers']; exact hS.ds, hS.rnd⟩ hM hP
    · rename_i hw
      obtain ⟨hw, hd⟩ := wantedA_spec hw hS.reg
      rw [← hS.n] at hd
      rw [hw, if_pos rfl]
      split at hr
      · rename_i v h2 hop
        have hpost := opA_sound hE hS.reg hS.heap hop
        revert hpost
        generalize (execOp a.eval o).run E.P w = res
        intro hpost
        cases res with
        | halt hx w' =>
          cases hx with
          | panic v => obtain ⟨x', hx', _⟩ := hpost; cases hx'
          | _ => exact hpost.elim
        | ok nx w' =>
          cases nx with
          | value y =>
            obtain ⟨v', ι', hv', hv, hext⟩ := hpost
            cases hv'
            refine opsS_sound hE (ι := ι') hl' hr ⟨(hS.reg.mono (hext.le hS.heap)).put hd hv, by rw [put_size]; exact hS.n, hext.rel, by rw [put_defers']; exact hS.ds.mono (hext.le hS.heap), hS.rnd⟩ (hM.mono (hext.le hS.heap)) ?_
            exact fun e ι2 a2 u2 w2 he hs hm hx => hP e ι2 a2 u2 w2 (hext.trans he) hs hm hx
          | skip => obtain ⟨ι', hx', _⟩ := hpost; cases hx'
          | enter f args => obtain ⟨as, hx', _⟩ := hpost; cases hx'
          | round l f tmps as b => obtain ⟨_, _, _, _, _, _, _, _, _, _, _, hx', _⟩ := hpost; cases hx'
          | defer d => obtain ⟨_, _, _, _, hx', _⟩ := hpost; cases hx'
          | recover => obtain ⟨hx', _⟩ := hpost; cases hx'
          | _ => exact hpost.elim
      · rename_i h2 hop
        have hpost := opA_sound hE hS.reg hS.heap hop
        revert hpost
        generalize (execOp a.eval o).run E.P w = res
        intro hpost
        cases res with
        | halt hx w' =>
          cases hx with
          | panic v => obtain ⟨x', hx', _⟩ := hpost; cases hx'
          | _ => exact hpost.elim
        | ok nx w' =>
          cases nx with
          | value y => obtain ⟨v', ι', hv', _⟩ := hpost; cases hv'
          | skip =>
            obtain ⟨ι', _, hext⟩ := hpost
            refine opsS_sound hE (ι := ι') hl' hr ⟨(hS.reg.mono (hext.le hS.heap)).put hd (nilRel _), by rw [put_size]; exact hS.n, hext.rel, by rw [put_defers']; exact hS.ds.mono (hext.le hS.heap), hS.rnd⟩ (hM.mono (hext.le hS.heap)) ?_
            exact fun e ι2 a2 u2 w2 he hs hm hx => hP e ι2 a2 u2 w2 (hext.trans he) hs hm hx
          | enter f args => obtain ⟨as, hx', _⟩ := hpost; cases hx'
          | round l f tmps as b => obtain ⟨_, _, _, _, _, _, _, _, _, _, _, hx', _⟩ := hpost; cases hx'
          | defer d => obtain ⟨_, _, _, _, hx', _⟩ := hpost; cases hx'
          | recover => obtain ⟨hx', _⟩ := hpost; cases hx'
          | _ => exact hpost.elim
      · rename_i h2 hop
        have hpost := opA_sound hE hS.reg hS.heap hop
        revert hpost
        generalize (execOp a.eval o).run E.P w = res
        intro hpost
        cases res with
        | halt hx w' =>
          cases hx with
          | panic v => obtain ⟨x', hx', _⟩ := hpost; cases hx'
          | _ => exact hpost.elim
        | ok nx w' =>
          cases nx with
          | value y => obtain ⟨v', ι', hv', _⟩ := hpost; cases hv'
          | skip => obtain ⟨ι', hx', _⟩ := hpost; cases hx'
          | enter f args => obtain ⟨as, hx', _⟩ := hpost; cases hx'
          | round l f tmps as b => obtain ⟨_, _, _, _, _, _, _, _, _, _, _, hx', _⟩ := hpost; cases hx'
          | defer d => obtain ⟨_, _, _, _, hx', _⟩ := hpost; cases hx'
          | recover =>
            obtain ⟨_, rfl, rfl⟩ := hpost
            cases p with
            | none =>
              have hrec : recoverD ({ c₀ with mode := u } :: cs) = none := by
                rcases hM with rfl | ⟨y, rfl⟩ <;> rfl
              simp only [hrec]
              exact opsS_sound hE hl' hr ⟨hS.reg.put hd .nilIface, by rw [put_size]; exact hS.n, hS.heap, by rw [put_defers']; exact hS.ds, hS.rnd⟩ hM hP
            | some v =>
              obtain ⟨y, rfl, hv⟩ := hM
              have hrec : recoverD ({ c₀ with mode := .panicking [{ v := y, recovered := false }] } :: cs) = some (y, { c₀ with mode := .panicking [{ v := y, recovered := true }] } :: cs) := rfl
              simp only [hrec]
              exact opsS_sound hE hl' hr ⟨hS.reg.put hd hv, by rw [put_size]; exact hS.n, hS.heap, by rw [put_defers']; exact hS.ds, hS.rnd⟩ (.inr ⟨y, rfl⟩) hP
          | _ => exact hpost.elim
      · simp at hr

theorem codeS_plain (hE : E.Ok) {call : CallF} {round : RoundF} (hm : MachOk E call round) {fuel : Nat} {c : Code} {st : St} {x : AExit} {st' : St} {p : Option AV} {ι : Inj} {a : Act} {w : World} {u : FrameMode} {c₀ : Frame} {cs : List Frame} {Q : Exit → Act → List Frame → World → Prop}
    (hr : codeA E call round fuel c st = some (x, st')) (hS : StRel ι st a w none) (hM : ModeRel ι p u) (hP : PostS ι st w c₀ cs x st' p Q) : c.wpSIn Fence.wide 0 E.P Q a ({ c₀ with mode := u } :: cs) w := by
  refine wpSIn_of_wpIn rfl ?_
  show c.wpIn (wideAt none) 0 E.P _ a w
  exact codeA_sound hE hm hr hS fun e ι' a' w' he hs hx => hP e ι' a' u w' he hs (hM.mono (he.le hS.heap)) hx

theorem codeS_sound (hE : E.Ok) {call : CallF} {round : RoundF} (hm : MachOk E call round) {fuel : Nat} {c₀ : Frame} {cs : List Frame} :
    ∀ {c : Code} {st : St} {x : AExit} {st' : St} {p p' : Option AV} {ι : Inj} {a : Act} {w : World} {u : FrameMode} {Q : Exit → Act → List Frame → World → Prop}, codeS E call round fuel c st p = some (x, st', p') → StRel ι st a w none → ModeRel ι p u →
      PostS ι st w c₀ cs x st' p' Q → c.wpSIn Fence.wide 0 E.P Q a ({ c₀ with mode := u } :: cs) w := by
  intro c
  induction c with
  | seq c1 c2 ih1 ih2 =>
    intro st x st' p p' ι a w u Q hr hS hM hP
    simp only [codeS] at hr
    refine wpSIn_seq ?_
    split at hr
    · rename_i st1 p1 hc
      refine ih1 hc hS hM fun e ι1 a1 u1 w1 he hs hm1 hx => ?_
      cases e with
      | normal => exact ih2 hr hs hm1 fun e ι2 a2 u2 w2 he2 hs2 hm2 hx2 => hP e ι2 a2 u2 w2 (he.trans he2) hs2 hm2 hx2
      | _ => exact hx.elim
    · rename_i hne
      refine ih1 hr hS hM fun e ι1 a1 u1 w1 he hs hm1 hx => ?_
      cases x with
      | nrm => exact (hne _ _ hr).elim
      | _ => cases e <;> first | exact hP _ ι1 a1 u1 w1 he hs hm1 hx | exact hx.elim
  | cond o c1 c2 ih1 ih2 =>
    intro st x st' p p' ι a w u Q hr hS hM hP
    simp only [codeS] at hr
    split at hr
    · rename_i hc
      exact wpSIn_cond (evA_rel hS.reg hc).bool_inv (ih1 hr hS hM hP)
    · rename_i hc
      exact wpSIn_cond (evA_rel hS.reg hc).bool_inv (ih2 hr hS hM hP)
    · simp at hr
  | region id ops d =>
    intro st x st' p p' ι a w u Q hr hS hM hP
    cases d with
    | false =>
      simp only [codeS] at hr
      split at hr
      · refine wpSIn_region ?_
        have := opsS_sound hE (ops := ops) (k := 0) (c₀ := c₀) (cs := cs) (fun j => by simp) hr hS hM hP
        rw [List.range_eq_range']
        simpa using this
      · split at hr
        · rename_i e st2 hc
          simp at hr; obtain ⟨rfl, rfl, rfl⟩ := hr
          exact codeS_plain hE hm hc hS hM hP
        · simp at hr
    | true =>
      simp only [codeS] at hr
      split at hr
      · rename_i e st2 hc
        simp at hr; obtain ⟨rfl, rfl, rfl⟩ := hr
        exact codeS_plain hE hm hc hS hM hP
      · simp at hr
  | _ =>
    intro st x st' p p' ι a w u Q hr hS hM hP
    simp only [codeS] at hr
    split at hr
    · rename_i e st2 hc
      simp at hr; obtain ⟨rfl, rfl, rfl⟩ := hr
      exact codeS_plain hE hm hc hS hM hP
    · simp at hr

theorem deferA_sound (hE : E.Ok) {call : CallF} {round : RoundF} (hm : MachOk E call round) {fuel : Nat} {k : FuncId} {args : List AV} {h : AHeap} {p p' : Option AV} {out : Out} {h' : AHeap} {ι : Inj} {w : World} {args' : Array Value} {u : FrameMode}
    (hr : deferA E call round fuel k args h p = some (out, h', p')) (hH : HRel ι h w) (hv : VsRel ι args args'.toList) (hM : ModeRel ι p u) :
    ∃ v, out = .ret v ∧ CallsDIn Fence.wide 0 E.P k args' u w fun e u' w' => ∃ ι' y, e = .returned y ∧ Ext ι h w ι' h' w' ∧ ModeRel ι' p' u' := by
  unfold deferA at hr
  split at hr
  · simp at hr
  · rename_i fn hfn
    split at hr
    · simp at hr
    · rename_i c hbody
      obtain ⟨hf, _⟩ := hE.fn k fn hfn
      split at hr
      · rename_i hlen
        have hsz : args'.size = args.length := by have := hv.1; simp at this; exact this.symm
        have hS0 : StRel ι { rg := argsA args 0 .nil, n := fn.ntmps, h := h, ds := [], rnd := false } { tmps := args' ++ Array.replicate (fn.ntmps - args'.size) undef, defers := [] } w none :=
          ⟨args_reg hv _, by simp; omega, hH, trivial, rfl⟩
        have fin : ∀ {x : AExit} {st : St} {vs : List AV}, codeS E call round fuel c { rg := argsA args 0 .nil, n := fn.ntmps, h := h, ds := [], rnd := false } p = some (x, st, p') → (x = .nrm ∨ x = .ret) → st.ds = [] → resultsA E st.rg st.h fn.results.toList = some vs →
            CallsDIn Fence.wide 0 E.P k args' u w fun e u' w' => ∃ ι' y, e = .returned y ∧ Ext ι h w ι' st.h w' ∧ ModeRel ι' p' u' := by
          intro x st vs hc hx hds hvs
          refine callsDIn_of_wpSIn hf hbody trivial fun c₀ cs hu => ?_
          have : c₀ = { c₀ with mode := u } := by subst hu; rfl
          rw [this]
          refine codeS_sound hE hm hc hS0 hM fun e ι1 a1 u1 w1 he hs hm1 hx1 => ?_
          have hdf : a1.defers = [] := by
            have := hs.ds
            rw [hds] at this
            cases h1 : a1.defers with
            | nil => rfl
            | cons d ds => rw [h1] at this; exact this.elim
          obtain ⟨y, hy, _⟩ := results_sound hE hs.reg hs.heap hvs
          rcases hx with rfl | rfl
          · cases e with
            | normal => exact ⟨hdf, u1, rfl, y, hy, ι1, y, rfl, he, hm1⟩
            | _ => exact hx1.elim
          · cases e with
            | ret => exact ⟨hdf, u1, rfl, y, hy, ι1, y, rfl, he, hm1⟩
            | _ => exact hx1.elim
        split at hr
        · rename_i st p1 hc
          split at hr
          · rename_i vs hds hvs
            simp at hr; obtain ⟨rfl, rfl, rfl⟩ := hr
            exact ⟨_, rfl, fin hc (.inl rfl) hds hvs⟩
          · simp at hr
        · rename_i st p1 hc
          split at hr
          · rename_i vs hds hvs
            simp at hr; obtain ⟨rfl, rfl, rfl⟩ := hr
            exact ⟨_, rfl, fin hc (.inr rfl) hds hvs⟩
          · simp at hr
        · simp at hr
      · simp at hr

theorem run_take {P : Program} {w : World} {r : Nat} (hb : w.heap[r]? = some (.deferred (some []))) : (Instr.takeDeferred r).run P w = .ok [] { w with heap := w.heap.setIfInBounds r (.deferred none) } := by
  have hg : (getObj r).run P w = .ok (.deferred (some [])) w := by simp [getObj, Sem.run, hb]
  have hs : (setObj r (.deferred none)).run P w = .ok () { w with heap := w.heap.setIfInBounds r (.deferred none) } := by simp only [setObj, Sem.run, hb]
  simp only [Instr.takeDeferred, Sem.run_bind, hg, Result.andThen_ok, hs, Sem.run_pure]

theorem leaveA_sound (hE : E.Ok) {call : CallF} {round : RoundF} (hm : MachOk E call round) {fuel : Nat} {fn : Func} {rg : T AV} {tm : Array Value} {out : Out} {h' : AHeap} {ι₀ : Inj} {h₀ : AHeap} {w₀ : World} :
    ∀ {ds : List ADef} {p : Option AV} {h : AHeap} {ι : Inj} {w : World} {dfs : List Deferred} {u : FrameMode}, leaveA E (deferA E call round fuel) fn rg ds p h = some (out, h') → Ext ι₀ h₀ w₀ ι h w → RegRel ι rg tm → DsRel ι ds dfs → ModeRel' ι p u →
      LeavesInM Fence.wide 0 E.P fn tm (fun e w' => ∃ ι', Ext ι₀ h₀ w₀ ι' h' w' ∧ OutRel ι' out e) dfs u w
  | [], p, h, ι, w, dfs, u, hr, hext, hR, hD, hM => by
    cases dfs with
    | cons d ds => exact hD.elim
    | nil =>
      cases p with
      | none =>
        have : u = .returning := hM
        subst this
        simp only [leaveA] at hr
        split at hr
        · rename_i vs hvs
          simp at hr; obtain ⟨rfl, rfl⟩ := hr
          obtain ⟨y, hy, hrel⟩ := results_sound hE hR hext.rel hvs
          exact ⟨y, hy, ι, hext, hrel⟩
        · simp at hr
      | some v =>
        obtain ⟨y, rfl, hv⟩ := hM
        simp [leaveA] at hr; obtain ⟨rfl, rfl⟩ := hr
        exact ⟨ι, hext, y, rfl, hv⟩
  | .mark r :: ds, p, h, ι, w, dfs, u, hr, hext, hR, hD, hM => by
    cases dfs with
    | nil => exact hD.elim
    | cons d dfs =>
      obtain ⟨⟨L, hL, rfl⟩, hD⟩ := hD
      simp only [leaveA] at hr
      split at hr
      · rename_i hg
        obtain ⟨o, ho, hO⟩ := hext.rel.obj r L hL
        rw [hg] at ho; cases ho
        have hb : w.heap[L.b]? = some (.deferred (some [])) := hO
        have hturn : Ext ι h w ι (h.set r .dead) { w with heap := w.heap.setIfInBounds L.b (.deferred none) } := by
          refine hext.rel.turn hL hg rfl trivial (by simp) (fun bb hne => ?_) rfl rfl rfl
          show (w.heap.setIfInBounds L.b _)[bb]? = _
          rw [Array.getElem?_setIfInBounds_ne (fun e => hne e.symm)]
        exact ⟨hM.weak.run, .inl ⟨L.b, _, rfl, run_take hb, leaveA_sound hE hm hr (hext.trans hturn) hR hD hM⟩⟩
      · simp at hr
  | .call f args :: ds, p, h, ι, w, dfs, u, hr, hext, hR, hD, hM => by
    cases dfs with
    | nil => exact hD.elim
    | cons d dfs =>
      obtain ⟨⟨cap, dargs, rfl, hargs⟩, hD⟩ := hD
      simp only [leaveA] at hr
      split at hr
      · rename_i v h2 p2 hdf
        obtain ⟨v', hv', hcall⟩ := deferA_sound hE hm (args' := dargs ++ cap) hdf hext.rel (by simpa using hargs) hM.weak
        have hinv : (invoke (.fn (.func f) cap) dargs).run E.P w = .ok (.enter f (dargs ++ cap)) w := by
          unfold deferA at hdf
          split at hdf
          · simp at hdf
          · rename_i fn' hfn
            split at hdf
            · simp at hdf
            · rename_i c hbody
              obtain ⟨hf, hname⟩ := hE.fn f fn' hfn
              have hbn : fn'.body.isNone = false := by rw [hbody]; rfl
              simp only [invoke, callFunc, Sem.run_bind, run_program, Result.andThen_ok, hf, hname, hbn]
              simp
        refine ⟨hM.weak.run, .inr ⟨fun h => by simp [Fence.wide] at h, .func f, cap, f, dargs ++ cap, rfl, hinv, fun _ _ => trivial, ?_⟩⟩
        refine hcall.mono fun e u' w' he => ?_
        obtain ⟨ι', y, rfl, hext', hM'⟩ := he
        have hle := hext'.le hext.rel
        exact leaveA_sound hE hm hr (hext.trans hext') (hR.mono hle) (hD.mono hle) hM'.settle
      · simp at hr

/-- The functions that are told by a Lean function of their own. -/
def PrimOk (E : Env) : Prop := ∀ {k : FuncId} {f : List AV → AHeap → Option (Out × AHeap)}, E.prim k = some f → ∀ {args : List AV} {h : AHeap} {out : Out} {h' : AHeap} {ι : Inj} {w : World} {args' : Array Value}, f args h = some (out, h') → HRel ι h w → VsRel ι args args'.toList →
    CallsIn Fence.wide 0 E.P k args' w fun e w' => ∃ ι', Ext ι h w ι' h' w' ∧ OutRel ι' out e

theorem bodyA_sound (hE : E.Ok) (hp : PrimOk E) {m : Mach} (hm : MachOk E m.call m.round) {fuel : Nat} {k : FuncId} {args : List AV} {h : AHeap} {out : Out} {h' : AHeap} {ι : Inj} {w : World} {args' : Array Value}
    (hr : bodyA E m fuel k args h = some (out, h')) (hH : HRel ι h w) (hv : VsRel ι args args'.toList) : CallsIn Fence.wide 0 E.P k args' w fun e w' => ∃ ι', Ext ι h w ι' h' w' ∧ OutRel ι' out e := by
  unfold bodyA at hr
  split at hr
  · rename_i r ht
    simp at hr; subst hr
    unfold Env.told at ht
    split at ht
    · rename_i f hf
      exact hp hf ht hH hv
    · cases ht
  · unfold bodyOf at hr
    split at hr
    · simp at hr
    · rename_i fn hfn
      split at hr
      · simp at hr
      · rename_i c hbody
        obtain ⟨hf, _⟩ := hE.fn k fn hfn
        split at hr
        · rename_i hlen
          have hsz : args'.size = args.length := by have := hv.1; simp at this; exact this.symm
          have hS0 : StRel ι { rg := argsA args 0 .nil, n := fn.ntmps, h := h, ds := [], rnd := false } { tmps := args' ++ Array.replicate (fn.ntmps - args'.size) undef, defers := [] } w none :=
            ⟨args_reg hv _, by simp; omega, hH, trivial, rfl⟩
          refine callsIn_of_wp_marks hf hbody trivial ?_
          show c.wpIn (wideAt none) 0 E.P _ _ w
          split at hr
          · rename_i st hc
            refine codeA_sound hE hm hc hS0 fun e ι1 a1 w1 he hs hx => ?_
            cases e with
            | normal => exact leaveA_sound hE hm hr he hs.reg hs.ds rfl
            | _ => exact hx.elim
          · rename_i st hc
            refine codeA_sound hE hm hc hS0 fun e ι1 a1 w1 he hs hx => ?_
            cases e with
            | ret => exact leaveA_sound hE hm hr he hs.reg hs.ds rfl
            | _ => exact hx.elim
          · rename_i v st hc
            refine codeA_sound hE hm hc hS0 fun e ι1 a1 w1 he hs hx => ?_
            cases e with
            | panic chain =>
              obtain ⟨y, rfl, hy⟩ := hx
              exact leaveA_sound hE hm hr he hs.reg hs.ds ⟨y, rfl, hy⟩
            | _ => exact hx.elim
          · simp at hr
        · simp at hr

/-- THE ABSTRACT MACHINE IS SOUND. -/
theorem mach_ok (hE : E.Ok) (hp : PrimOk E) : ∀ n, MachOk E (mach E n).call (mach E n).round
  | 0 => ⟨fun h => by simp [mach] at h, fun h => by simp [mach] at h⟩
  | n + 1 => ⟨fun hr hH hv => bodyA_sound hE hp (mach_ok hE hp n) hr hH hv, fun hr hH hi hl hb hR hv hlen => roundA_sound hE (mach_ok hE hp n) hr hH hi hl hb hR hv hlen⟩

theorem run_calls (hE : E.Ok) (hp : PrimOk E) {n : Nat} {k : FuncId} {args : List AV} {h : AHeap} {out : Out} {h' : AHeap} {ι : Inj} {w : World} {args' : Array Value}
    (hr : (mach E n).call k args h = some (out, h')) (hH : HRel ι h w) (hv : VsRel ι args args'.toList) : Calls E.P k args' w fun e w' => ∃ ι', Ext ι h w ι' h' w' ∧ OutRel ι' out e :=
  callsIn_wide.1 ((mach_ok hE hp n).call hr hH hv)
end Go.Am
