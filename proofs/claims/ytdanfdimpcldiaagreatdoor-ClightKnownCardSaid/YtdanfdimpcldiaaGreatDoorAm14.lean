/-
  Proves that each operation of the abstract machine stands for the model's: calls and the case distinction. Each theorem states its own conditions; there are no others.
-/
import Derived.Test.YtdanfdimpcldiaaGreatDoorAm13
import Derived.Laws.Externs
set_option linter.unusedSimpArgs false
set_option linter.unusedVariables false
set_option linter.unusedVariables false
set_option linter.unusedSimpArgs false
set_option linter.unusedSectionVars false
namespace Go.Am
variable [Base]
variable {E : Env} {ι : Inj} {h h' : AHeap} {w : World} {rg : T AV} {a : Act} {o : Oper} {r : ORes}

theorem copy_sound (hE : E.Ok) (hH : HRel ι h w) {t ty : TypeId} {ats : Array TypeId} {d x z : AV} {u v : Value} (hd : VRel ι d u) (hx : VRel ι x v) (h0 : ats[0]? = some t)
    (ha : copyA E h t d x = some (z, h')) :
    ∃ y w' ι', (Builtin.copy_ ats ty #[u, v]).run E.P w = .ok y w' ∧ VRel ι' z y ∧ Ext ι h w ι' h' w' := by
  unfold copyA at ha
  split at ha
  · rename_i e hu
    have hu' := und_run hE hu w
    split at ha
    · rename_i es i off dl j off' sl hsz
      have hs' := sizeOf_run hE hsz w
      simp only at ha
      split at ha
      · rename_i cs hl
        simp at ha
        obtain ⟨hst, rfl⟩ := ha
        -- the source
        have hsrc : ∃ a' cap ys, v = .slice (some a') sl cap ∧ VsRel ι cs ys ∧ (Builtin.firstCells es (Nat.min sl dl) v).run E.P w = .ok ys.toArray w := by
          rcases hx.slice_inv with ⟨L, cap, hL, hcap, ht, rfl⟩ | ⟨L, ad, hL, ht, rfl, rfl⟩
          · obtain ⟨hn, ys, hrel, hcell⟩ := loadCells_sound hH hL hl
            exact ⟨_, _, ys, rfl, hrel, run_firstCells_some w es _ _ sl cap ys (by rw [← hrel.1]; exact hn) hcell⟩
          · have h00 : Nat.min 0 dl = 0 := Nat.min_eq_left (Nat.zero_le _)
            obtain ⟨hn, ys, hrel, hcell⟩ := loadCells_sound hH hL hl
            rw [h00] at hn ⊢
            have : ys = [] := List.eq_nil_of_length_eq_zero (by rw [← hrel.1, hn]; simp)
            subst this
            exact ⟨_, _, [], rfl, hrel, run_firstCells_some w es 0 _ 0 0 [] (by simp) (by simp)⟩
        obtain ⟨a', cap', ys, rfl, hrel, hfc⟩ := hsrc
        rcases hd.slice_inv with ⟨L, cap, hL, hcap, ht, rfl⟩ | ⟨L, ad, hL, ht, rfl, rfl⟩
        · obtain ⟨w', hrun, hext⟩ := storeCells_sound hH hL hst hrel E.P
          exact ⟨_, w', ι, by simp [Builtin.copy_, h0, hu', Builtin.lenOf, hs', hfc, hrun]; rfl, .int _ _, hext⟩
        · have h00 : Nat.min sl 0 = 0 := Nat.min_eq_right (Nat.zero_le _)
          rw [h00] at hl hfc ⊢
          have hcs : cs = [] := by
            unfold AHeap.loadCells at hl
            split at hl
            · split at hl <;> simp at hl; exact hl
            · simp at hl
          subst hcs
          have : ys = [] := List.eq_nil_of_length_eq_zero hrel.1.symm
          subst this
          obtain ⟨w', hrun, hext⟩ := storeCells_sound hH hL hst hrel E.P
          have : (storeCells ⟨L.b, L.base + off, none⟩ []).run E.P w = .ok () w := rfl
          rw [this] at hrun; cases hrun
          exact ⟨_, w, ι, by simp [Builtin.copy_, h0, hu', Builtin.lenOf, hs', h00, hfc, storeCells]; rfl, .int _ _, hext⟩
      · simp at ha
    · rename_i es p n hsz
      have hs' := sizeOf_run hE hsz w
      simp at ha; obtain ⟨rfl, rfl⟩ := ha
      obtain ⟨-, rfl⟩ := hd.slice_nil_inv
      refine ⟨.int .i64 0, w, ι, ?_, .int _ _, Ext.refl hH⟩
      have hmin : ∀ k, Nat.min k 0 = 0 := fun k => Nat.min_eq_right (Nat.zero_le _)
      cases hx <;> simp [Builtin.copy_, h0, hu', Builtin.lenOf, hs', hmin, Builtin.firstCells, loadCells, loadCellsFrom, goInt]
    · rename_i es p dl hsz
      have hs' := sizeOf_run hE hsz w
      simp at ha; obtain ⟨rfl, rfl⟩ := ha
      obtain ⟨-, rfl⟩ := hx.slice_nil_inv
      refine ⟨.int .i64 0, w, ι, ?_, .int _ _, Ext.refl hH⟩
      have hmin : ∀ k, Nat.min 0 k = 0 := fun k => Nat.min_eq_left (Nat.zero_le _)
      cases hd <;> simp [Builtin.copy_, h0, hu', Builtin.lenOf, hs', hmin, Builtin.firstCells, storeCells, goInt]
    · simp at ha
  · simp at ha

theorem len_sound (hE : E.Ok) (hH : HRel ι h w) {t ty : TypeId} {ats : Array TypeId} {x z : AV} {v : Value} (hx : VRel ι x v) (h0 : ats[0]? = some t) (ha : lenA E h t x = some z) :
    ∃ y, (Builtin.len_ ats ty #[v]).run E.P w = .ok y w ∧ VRel ι z y := by
  unfold lenA at ha
  split at ha
  · rename_i s hu
    simp at ha; subst ha
    rw [hx.str_inv]
    have hsz : (⟨s.toArray⟩ : ByteArray).size = s.length := by simp [ByteArray.size]
    exact ⟨.int .i64 s.length, by simp [Builtin.len_, h0, und_run hE hu, goInt, hsz], .int _ _⟩
  · rename_i n e hu
    simp at ha; subst ha
    exact ⟨.int .i64 n, by simp [Builtin.len_, h0, und_run hE hu, goInt], .int _ _⟩
  · rename_i e p n hu
    simp at ha; subst ha
    refine ⟨.int .i64 n, ?_, .int _ _⟩
    cases hx <;> simp [Builtin.len_, h0, und_run hE hu, goInt]
  · rename_i kt vt hu
    simp at ha; subst ha
    cases hx
    exact ⟨.int .i64 0, by simp [Builtin.len_, h0, und_run hE hu, goInt], .int _ _⟩
  · rename_i kt vt m hu
    split at ha
    · rename_i ents hm
      simp at ha; subst ha
      cases hx with
      | map hL =>
        obtain ⟨o, ho, hO⟩ := hH.obj _ _ hL
        rw [hm] at ho; cases ho
        obtain ⟨es, ck, hb, hsz, _⟩ := hO
        refine ⟨_, ?_, .int _ _⟩
        simp [Builtin.len_, h0, und_run hE hu, run_getMap hb, goInt, hsz]
    · simp at ha
  · simp at ha

theorem op_typeAssert (hE : E.Ok) (hR : RegRel ι rg a.tmps) (hH : HRel ι h w) {xt t : TypeId} {x : Operand} {ok : Bool} (ho : o.op = .typeAssert x xt t ok) (hop : opA E rg h o = some (r, h')) :
    OpPure ι h w r h' ((execOp a.eval o).run E.P w) := by
  simp only [opA, ho] at hop
  split at hop
  · simp at hop
  · rename_i d u v hnot hd hx
    have hxr := evA_rel hR hx
    obtain ⟨v', hxe, hv⟩ : ∃ v', a.eval x = .iface u v' ∧ VRel ι v v' := by
      cases h1 : a.eval x <;> rw [h1] at hxr <;> cases hxr
      exact ⟨_, rfl, ‹_›⟩
    have hni : ∀ ms, d ≠ .interface ms := fun ms e => hnot ms e
    have hexec : (execOp a.eval o).run E.P w = ((Instr.typeAssert (.iface u v') xt t ok).run E.P w).andThen fun v w' => .ok (.value v) w' := by
      simp only [execOp, ho, hxe, Sem.run_bind, Sem.run_pure]
    have hty : (Instr.typeAssert (.iface u v') xt t ok).run E.P w = (if u = t then (pure (if ok then .tuple #[v', .bool true] else v') : Sem Value)
        else if ok then (do pure (.tuple #[← zeroValue t, .bool false])) else runtimePanic (.typeAssertion (some xt) (some u) t "")).run E.P w := by
      simp only [Instr.typeAssert, Sem.run_bind, und_run hE hd, Result.andThen_ok]
    rw [hexec, hty]
    split at hop
    · rename_i hut
      simp at hop; obtain ⟨rfl, rfl⟩ := hop
      rw [if_pos hut]
      cases ok
      · exact .pure hH (by simp) hv
      · exact .pure hH (by simp) (hv.okPair true)
    · rename_i hut
      rw [if_neg hut]
      split at hop
      · rename_i hok
        split at hop
        · rename_i z ag hz hag
          split at hop
          · rename_i q hq
            simp at hop; obtain ⟨rfl, rfl⟩ := hop
            obtain ⟨y, hy, hr⟩ := zeroVal_run hE hz hag hq ι w
            rw [if_pos hok]
            exact .pure hH (by simp only [Sem.run_bind, hy, Result.andThen_ok, Sem.run_pure]) (hr.okPair false)
          · simp at hop
        · simp at hop
      · simp at hop
  · simp at hop

theorem op_panic (hR : RegRel ι rg a.tmps) (hH : HRel ι h w) {x : Operand} (ho : o.op = .panic x) (hop : opA E rg h o = some (r, h')) :
    OpPost ι h w r h' ((execOp a.eval o).run E.P w) := by
  simp only [opA, ho] at hop
  split at hop
  · rename_i t v hx
    simp at hop; obtain ⟨rfl, rfl⟩ := hop
    have hxr := evA_rel hR hx
    obtain ⟨v', hxe, hv⟩ : ∃ v', a.eval x = .iface t v' ∧ VRel ι v v' := by
      cases h1 : a.eval x <;> rw [h1] at hxr <;> cases hxr
      exact ⟨_, rfl, ‹_›⟩
    have : (execOp a.eval o).run E.P w = .halt (.panic (.iface t v')) w := by
      simp [execOp, ho, hxe, Instr.panic, goPanic, Sem.run]
    rw [this]
    exact ⟨_, rfl, .iface _ hv, rfl, rfl⟩
  · simp at hop

theorem op_defer (hR : RegRel ι rg a.tmps) (hH : HRel ι h w) {c : Call} (ho : o.op = .defer c) (hop : opA E rg h o = some (r, h')) :
    OpPost ι h w r h' ((execOp a.eval o).run E.P w) := by
  simp only [opA, ho] at hop
  split at hop
  · rename_i args f hargs hf
    split at hop
    · rename_i k caps hk
      simp at hop; obtain ⟨rfl, rfl⟩ := hop
      have hr := evA_rel hR hk
      obtain ⟨cs, hfe, hcs⟩ : ∃ cs, a.eval f = .func (.func k) #[] cs ∧ VsRel ι caps cs.toList := by
        cases h1 : a.eval f <;> rw [h1] at hr <;> cases hr
        exact ⟨_, rfl, ‹_›, ‹_›⟩
      have : (execOp a.eval o).run E.P w = .ok (.defer { target := .fn (.func k) cs, args := c.args.map a.eval }) w := by
        simp [execOp, ho, resolve, hf, Deferred.ofValue, hfe]
      rw [this]
      exact ⟨_, _, _, _, rfl, rfl, by simpa using (evAs_rel hR hargs).append hcs, rfl, rfl⟩
    · simp at hop
  · simp at hop

theorem evAs_two (hR : RegRel ι rg a.tmps) {c : Call} {x y : AV} (hargs : evAs rg c.args.toList = some [x, y]) : ∃ u v, c.args.map a.eval = #[u, v] ∧ VRel ι x u ∧ VRel ι y v := by
  have h := evAs_rel hR hargs
  obtain ⟨hl, hi⟩ := h
  match hm : c.args.toList.map a.eval with
  | [u, v] =>
    rw [hm] at hi
    exact ⟨u, v, by apply Array.ext'; simpa using hm, hi 0 _ _ rfl rfl, hi 1 _ _ rfl rfl⟩
  | [] => rw [hm] at hl; simp at hl
  | [_] => rw [hm] at hl; simp at hl
  | _ :: _ :: _ :: _ => rw [hm] at hl; simp at hl
theorem evAs_one (hR : RegRel ι rg a.tmps) {c : Call} {x : AV} (hargs : evAs rg c.args.toList = some [x]) : ∃ u, c.args.map a.eval = #[u] ∧ VRel ι x u := by
  have h := evAs_rel hR hargs
  obtain ⟨hl, hi⟩ := h
  match hm : c.args.toList.map a.eval with
  | [u] =>
    rw [hm] at hi
    exact ⟨u, by apply Array.ext'; simpa using hm, hi 0 _ _ rfl rfl⟩
  | [] => rw [hm] at hl; simp at hl
  | _ :: _ :: _ => rw [hm] at hl; simp at hl

/-- A call of a builtin, carried out. -/
theorem exec_builtin {c : Call} {b : Builtin} (ho : o.op = .call c) (hc : c.callee = .builtin b) (s : Sem Value)
    (hb : ∀ consts, builtin b c.argTypes o.type consts (c.args.map a.eval) = (do pure (.value (← s)) : Sem Next)) :
    (execOp a.eval o).run E.P w = (s.run E.P w).andThen fun v w' => .ok (.value v) w' := by
  simp only [execOp, ho, resolve, hc, Sem.run_bind, Sem.run_pure, Result.andThen_ok, invoke, hb]

theorem op_call (hE : E.Ok) (hR : RegRel ι rg a.tmps) (hH : HRel ι h w) {c : Call} (ho : o.op = .call c) (hop : opA E rg h o = some (r, h')) :
    OpPost ι h w r h' ((execOp a.eval o).run E.P w) := by
  simp only [opA, ho] at hop
  split at hop
  · simp at hop
  · rename_i args hargs
    have hrs := evAs_rel hR hargs
    split at hop
    · rename_i f hcal
      split at hop
      · rename_i k caps hf
        split at hop
        · rename_i fn hfn
          split at hop
          · rename_i hbody
            simp at hop; obtain ⟨rfl, rfl⟩ := hop
            have hr := evA_rel hR hf
            obtain ⟨cs, hfe, hcs⟩ : ∃ cs, a.eval f = .func (.func k) #[] cs ∧ VsRel ι caps cs.toList := by
              cases h1 : a.eval f <;> rw [h1] at hr <;> cases hr
              exact ⟨_, rfl, ‹_›, ‹_›⟩
            obtain ⟨hfn', hname⟩ := hE.fn k fn hfn
            have hbn : fn.body.isNone = false := by cases h1 : fn.body <;> simp_all
            have : (execOp a.eval o).run E.P w = .ok (.enter k (c.args.map a.eval ++ cs)) w := by
              simp only [execOp, ho, resolve, hcal, Deferred.ofValue, hfe, invoke, callFunc, Sem.run_bind, Sem.run_pure, Result.andThen_ok, run_program, hfn', hname, hbn]
              simp
            rw [this]
            exact ⟨_, rfl, by simpa using hrs.append hcs, rfl, rfl⟩
          · split at hop
            · rename_i xf hext
              split at hop
              · rename_i v hv
                simp at hop; obtain ⟨rfl, rfl⟩ := hop
                have hr := evA_rel hR hf
                obtain ⟨cs, hfe, hcs⟩ : ∃ cs, a.eval f = .func (.func k) #[] cs ∧ VsRel ι caps cs.toList := by
                  cases h1 : a.eval f <;> rw [h1] at hr <;> cases hr
                  exact ⟨_, rfl, ‹_›, ‹_›⟩
                obtain ⟨fn', e, hfn', hname, hb, hnx, hfd, he⟩ := hE.ext k _ hext
                obtain ⟨y, hy, hyr⟩ := he (args' := c.args.map a.eval ++ cs) (w := w) hv (by simpa using hrs.append hcs)
                have hb' : fn'.body.isNone = true := by rw [hb]; rfl
                have hcf := run_callFunc_extern hfn' hname hb' hnx hfd (c.args.map a.eval ++ cs) w
                have : (execOp a.eval o).run E.P w = .ok (.value y) w := by
                  simp only [execOp, ho, resolve, hcal, Deferred.ofValue, hfe, invoke, Sem.run_bind, Sem.run_pure, Result.andThen_ok]
                  rw [Array.empty_append, hcf, hy]; rfl
                exact .pure hH this hyr
              · simp at hop
            · simp at hop
        · simp at hop
      · rename_i l hf
        split at hop
        · rename_i st pd n rg0 ps as b hl
          split at hop
          · rename_i hlen
            simp at hop; obtain ⟨rfl, rfl⟩ := hop
            have hr := evA_rel hR hf
            obtain ⟨L, hfe, hL⟩ : ∃ L, a.eval f = .func (.yield L.b) #[] #[] ∧ ι l = some L := by
              cases h1 : a.eval f <;> rw [h1] at hr <;> cases hr
              exact ⟨_, rfl, ‹_›⟩
            obtain ⟨ob, hob, hO⟩ := hH.obj l L hL
            rw [hl] at hob; cases hob
            obtain ⟨tm, df, fn, hbk, hreg, hszt⟩ := hO
            have hsz : (c.args.map a.eval).size = ps.size := by
              have := hrs.1
              simp at this ⊢; omega
            have : (execOp a.eval o).run E.P w = .ok (.round L.b fn ((ps.zip (c.args.map a.eval)).foldl (fun t x => t.setIfInBounds x.1 x.2) tm) as b) w := by
              have hsz' : ¬ ((c.args.map a.eval).size ≠ ps.size) := by simp only [hsz]; simp
              simp only [execOp, ho, resolve, hcal, Deferred.ofValue, hfe, invoke, Sem.run_bind, Sem.run_pure, Result.andThen_ok, Instr.yield]
              have hgl : (Instr.getLoop L.b).run E.P w = .ok { state := st, pending := pd, fn := fn, tmps := tm, params := ps, assign := as, body := b, defers := df } w := by
                simp [Instr.getLoop, getObj, Sem.run, hbk, Sem.bind, Bind.bind, Pure.pure, Sem.pure]
              simp only [hgl, Result.andThen_ok]
              simp [hsz]
            have hm : c.args.map a.eval = (List.map a.eval c.args.toList).toArray := by apply Array.ext'; simp
            rw [this]
            exact ⟨_, _, _, _, _, _, _, _, _, _, _, rfl, hL, hl, hbk, hreg, hrs, rfl, by have := hrs.1; simp at this ⊢; omega, by rw [hm], rfl, rfl⟩
          · simp at hop
        · simp at hop
      · simp at hop
    · simp at hop
    · rename_i b hcal
      split at hop
      · -- len
        rename_i x
        obtain ⟨u, hu, hx⟩ := evAs_one hR hargs
        split at hop
        · rename_i t ht
          split at hop
          · rename_i v hv
            simp at hop; obtain ⟨rfl, rfl⟩ := hop
            obtain ⟨y, hy, hr⟩ := len_sound hE hH (ty := o.type) hx ht hv
            exact .pure hH (by rw [exec_builtin ho hcal _ fun _ => by rw [hu]; rfl, hy]; rfl) hr
          · simp at hop
        · simp at hop
      · -- append
        rename_i s x
        obtain ⟨u, v, huv, hs, hx⟩ := evAs_two hR hargs
        split at hop
        · rename_i t tx ht htx
          have fin : ∀ (hk : (∃ e', E.P.underlying tx = some (.slice e')) ∨ E.P.underlying tx = some .string), (match appendA E h t s x with
              | some (v, h') => some (.val v, h')
              | none => none) = some (r, h') → OpPost ι h w r h' ((execOp a.eval o).run E.P w) := fun hk hop => by
            split at hop
            · rename_i z h2 hz
              simp at hop; obtain ⟨rfl, rfl⟩ := hop
              obtain ⟨y, w', ι', hy, hr, hext⟩ := append_sound hE hH (ty := o.type) hs hx hk hz
              have harr : Builtin.append_ c.argTypes o.type #[u, v] = Builtin.append_ #[t, tx] o.type #[u, v] := by
                simp only [Builtin.append_, ht, htx]
                rfl
              exact .val (by rw [exec_builtin ho hcal _ fun _ => by rw [huv]; rfl, harr, hy]; rfl) hr hext
            · simp at hop
          split at hop
          · rename_i e he; exact fin (.inl ⟨e, hE.und _ _ he⟩) hop
          · rename_i he; exact fin (.inr (hE.und _ _ he)) hop
          · simp at hop
        · simp at hop
      · -- copy
        rename_i d x
        obtain ⟨u, v, huv, hs, hx⟩ := evAs_two hR hargs
        split at hop
        · rename_i t ht
          split at hop
          · rename_i z h2 hz
            simp at hop; obtain ⟨rfl, rfl⟩ := hop
            obtain ⟨y, w', ι', hy, hr, hext⟩ := copy_sound hE hH (ty := o.type) hs hx ht hz
            exact .val (by rw [exec_builtin ho hcal _ fun _ => by rw [huv]; rfl, hy]; rfl) hr hext
          · simp at hop
        · simp at hop
      · rename_i k p k' q
        obtain ⟨u, v, huv, hs, hx⟩ := evAs_two hR hargs
        simp at hop; obtain ⟨rfl, rfl⟩ := hop
        have h1 := hs.int_inv; have h2 := hx.int_inv
        subst h1 h2
        exact .pure hH (by rw [exec_builtin ho hcal _ fun _ => by rw [huv]; rfl]; simp [Builtin.max_, Builtin.max2]) (.int _ _)
      · rename_i k p k' q
        obtain ⟨u, v, huv, hs, hx⟩ := evAs_two hR hargs
        simp at hop; obtain ⟨rfl, rfl⟩ := hop
        have h1 := hs.int_inv; have h2 := hx.int_inv
        subst h1 h2
        exact .pure hH (by rw [exec_builtin ho hcal _ fun _ => by rw [huv]; rfl]; simp [Builtin.min_, Builtin.min2]) (.int _ _)
      · simp at hop; obtain ⟨rfl, rfl⟩ := hop
        have : (execOp a.eval o).run E.P w = .ok .recover w := by
          simp [execOp, ho, resolve, hcal, invoke, builtin]
        rw [this]
        exact ⟨rfl, rfl, rfl⟩
      · simp at hop

/-- EVERY OPERATION. -/
theorem op_range (hE : E.Ok) (hR : RegRel ι rg a.tmps) (hH : HRel ι h w) {t : TypeId} {x : Operand} (ho : o.op = .range t x) (hop : opA E rg h o = some (r, h')) :
    OpPost ι h w r h' ((execOp a.eval o).run E.P w) := by
  simp only [opA, ho] at hop
  split at hop
  · rename_i k v m ht hx
    split at hop
    · rename_i hg
      simp at hop; obtain ⟨rfl, rfl⟩ := hop
      obtain ⟨L, hx', hL⟩ : ∃ L, a.eval x = .map (some L.b) ∧ ι m = some L := by
        have hr := evA_rel hR hx
        cases h1 : a.eval x <;> rw [h1] at hr <;> cases hr
        exact ⟨_, rfl, ‹_›⟩
      obtain ⟨ob, hob, hO⟩ := hH.obj m L hL
      rw [hg] at hob; cases hob
      obtain ⟨es, ck, hb, hsz, _⟩ := hO
      have hgo : (getObj L.b).run E.P w = .ok (.map es ck) w := by simp [getObj, Sem.run, hb]
      refine .val (y := .pointer (some ⟨w.heap.size, 0, none⟩)) (w' := w.alloc (.mapIter (some L.b) ck #[] ck)) (ι' := ι.add h.next ⟨w.heap.size, 0, 0, 0, true⟩) ?_ (.ptr (L := ⟨w.heap.size, 0, 0, 0, true⟩) (Inj.add_same _ _ _)) ?_
      · simp [execOp, ho, hx', Instr.range, und_run hE ht, hgo]
      · have hle : ι.le (ι.add h.next ⟨w.heap.size, 0, 0, 0, true⟩) := fun i Li hi => by
          rw [Inj.add_other]; exact hi
          have := hH.lt i Li hi; omega
        exact hH.alloc rfl rfl rfl rfl _ _ _ rfl ⟨L, ck, ck, rfl, hle _ _ hL, heap_alloc_new w _⟩
    · simp at hop
  · simp at hop

theorem op_next (hR : RegRel ι rg a.tmps) (hH : HRel ι h w) {x : Operand} {b : Bool} (ho : o.op = .next x b) (hop : opA E rg h o = some (r, h')) :
    OpPost ι h w r h' ((execOp a.eval o).run E.P w) := by
  cases b with
  | true => simp [opA, ho] at hop
  | false =>
    simp only [opA, ho] at hop
    split at hop
    · rename_i i hx
      split at hop
      · rename_i m hg
        split at hop
        · rename_i hg2
          simp at hop; obtain ⟨rfl, rfl⟩ := hop
          obtain ⟨L, hL, hx'⟩ := (evA_rel hR hx).ptr_inv
          obtain ⟨ob, hob, hO⟩ := hH.obj i L hL
          rw [hg] at hob; cases hob
          obtain ⟨Lm, since, last, h0, hm, hb⟩ := hO
          obtain ⟨om, hom, hOm⟩ := hH.obj m Lm hm
          rw [hg2] at hom; cases hom
          obtain ⟨es, ck, hbm, hsz, _⟩ := hOm
          have hes : es = #[] := by apply Array.eq_empty_of_size_eq_zero; simpa using hsz
          subst hes
          have hgo : (getObj L.b).run E.P w = .ok (.mapIter (some Lm.b) since #[] last) w := by simp [getObj, Sem.run, hb]
          have hgm : (getObj Lm.b).run E.P w = .ok (.map #[] ck) w := by simp [getObj, Sem.run, hbm]
          refine .pure hH (y := .tuple #[.bool false]) ?_ (.tup' (VsRel.cons (.bool false) (VsRel.nil _)))
          rw [h0] at hx'
          simp [execOp, ho, hx', Instr.next, hgo, hgm, Question.forced]
        · simp at hop
      · simp at hop
    · simp at hop

theorem opA_sound (hE : E.Ok) (hR : RegRel ι rg a.tmps) (hH : HRel ι h w) (hop : opA E rg h o = some (r, h')) :
    OpPost ι h w r h' ((execOp a.eval o).run E.P w) := by
  cases ho : o.op with
  | move x => exact (op_move hR hH (.inl ho) hop).post hH
  | assign x => exact (op_move hR hH (.inr ho) hop).post hH
  | pick c x y => exact (op_pick hR hH ho hop).post hH
  | alloc e => exact op_alloc hE hH ho hop
  | box e x => exact op_box hE hR hH ho hop
  | build t ps => exact (op_build hE hR hH ho hop).post hH
  | buildSlice t n ps => exact op_buildSlice hE hR hH ho hop
  | load t x => exact (op_load hE hR hH ho hop).post hH
  | store t x y => exact op_store hE hR hH ho hop
  | nilCheck x => exact (op_nilCheck hR hH ho hop).post hH
  | binOp op t x y u => exact (op_binOp hE hR hH ho hop).post hH
  | unOp op t x => exact (op_unOp hR hH ho hop).post hH
  | convert s d x => exact op_convert hE hR hH ho hop
  | makeInterface t x => exact (op_makeInterface hE hR hH ho hop).post hH
  | makeFunc f x c => exact (op_makeFunc hR hH ho hop).post hH
  | makeMap t x => exact op_makeMap hH ho hop
  | makeSlice t l c => exact op_makeSlice hE hR hH ho hop
  | slice t x l u m => exact (op_slice hE hR hH ho hop).post hH
  | fieldAddr s x f => exact (op_fieldAddr hE hR hH ho hop).post hH
  | field s x f => exact (op_field hE hR hH ho hop).post hH
  | indexAddr t x i => exact (op_indexAddr hE hR hH ho hop).post hH
  | index t x i => exact (op_index hE hR hH ho hop).post hH
  | lookup t x i ok => exact (op_lookup hE hR hH ho hop).post hH
  | mapUpdate t m k x => exact op_mapUpdate hE hR hH ho hop
  | typeAssert x t u ok => exact (op_typeAssert hE hR hH ho hop).post hH
  | extract t i => exact (op_extract hR hH ho hop).post hH
  | call c => exact op_call hE hR hH ho hop
  | defer c => exact op_defer hR hH ho hop
  | panic x => exact op_panic hR hH ho hop
  | range t x => exact op_range hE hR hH ho hop
  | next x b => exact op_next hR hH ho hop
  | _ => simp [opA, ho] at hop
end Go.Am
