/-
  Proves that rounds of a range over a function and results of the abstract machine stand for the model's. Each theorem states its own conditions; there are no others.
-/
import Derived.Test.YtdanfdimpcldiaaGreatDoorAm17
import Derived.RangeFuncLeaves
set_option linter.unusedSimpArgs false
set_option linter.unusedVariables false
set_option linter.unusedVariables false
set_option linter.unusedSimpArgs false
set_option linter.unusedSectionVars false
namespace Go.Am
variable [Base]
variable {E : Env}

/-! ### Arguments, results -/
theorem argsA_get : ∀ (l : List AV) (i : Nat) (t : T AV) (j : Nat), (argsA l i t).get j = if i ≤ j ∧ j < i + l.length then l[j - i]? else t.get j
  | [], i, t, j => by simp only [argsA, List.length_nil]; rw [if_neg (by omega)]
  | v :: r, i, t, j => by
    simp only [argsA]
    rw [argsA_get r (i + 1) (t.set v i) j, T.get_set]
    by_cases h1 : j = i
    · subst h1
      rw [if_neg (by omega), if_pos rfl, if_pos ⟨Nat.le_refl _, by simp⟩]
      simp
    · by_cases h2 : i + 1 ≤ j ∧ j < i + 1 + r.length
      · rw [if_pos h2, if_pos ⟨by omega, by simp; omega⟩]
        have : j - i = (j - (i + 1)) + 1 := by omega
        rw [this]; simp
      · rw [if_neg h2, if_neg h1, if_neg (by simp; omega)]
theorem args_reg {ι : Inj} {args : List AV} {args' : Array Value} (h : VsRel ι args args'.toList) (n : Nat) : RegRel ι (argsA args 0 .nil) (args' ++ Array.replicate (n - args'.size) undef) := by
  intro j x hx
  rw [argsA_get] at hx
  split at hx
  · obtain ⟨y, hy, hr⟩ := h.get hx
    refine ⟨y, ?_, hr⟩
    have hlt := (List.getElem?_eq_some_iff.1 hy).1
    rw [Array.getElem?_append_left (by simpa using hlt)]
    simpa using hy
  · simp [T.get] at hx

def resVal (tm : Array Value) : ResultVar → Sem Value
  | .tmp t => pure (tm.getD t undef)
  | .cell a t => do loadVar t (← asAddr (tm.getD a undef))
theorem resultA_sound (hE : E.Ok) {ι : Inj} {rg : T AV} {tm : Array Value} {h : AHeap} {w : World} {v : AV} (hR : RegRel ι rg tm) (hH : HRel ι h w) : ∀ (rv : ResultVar), resultA E rg h rv = some v →
    ∃ y, (resVal tm rv).run E.P w = .ok y w ∧ VRel ι v y
  | .tmp t, hv => by
    obtain ⟨y, hy, hr⟩ := hR t v hv
    exact ⟨y, by simp [resVal, hy], hr⟩
  | .cell a t, hv => by
    simp only [resultA] at hv
    split at hv
    · rename_i i off n hp hag hs
      obtain ⟨y, hy, hr⟩ := hR a _ hp
      obtain ⟨L, hL, rfl⟩ := hr.ptr_inv
      simp at hv
      obtain ⟨cs, hcs, rfl⟩ := hv
      obtain ⟨hn, ys, hrel, hcell⟩ := loadCells_sound hH hL hcs
      have hl := run_loadCells_list (P := E.P) w _ ys hcell
      have hyl : ys.length = n := by rw [← hrel.1]; exact hn
      rw [hyl] at hl
      exact ⟨.agg ys.toArray, by simp [resVal, hy, asAddr, loadVar, isAgg_run hE hag, sizeOf_run hE hs, hl], .agg' (by simpa using hrel)⟩
    · rename_i i off n hp hag hs
      obtain ⟨y, hy, hr⟩ := hR a _ hp
      obtain ⟨L, hL, rfl⟩ := hr.ptr_inv
      obtain ⟨z, hz, hr⟩ := load1_sound hH hL hv
      exact ⟨z, by simp [resVal, hy, asAddr, loadVar, isAgg_run hE hag, hz], hr⟩
    · simp at hv

theorem resultsL_sound (hE : E.Ok) {ι : Inj} {rg : T AV} {tm : Array Value} {h : AHeap} {w : World} (hR : RegRel ι rg tm) (hH : HRel ι h w) : ∀ (rs : List ResultVar) (vs : List AV), resultsA E rg h rs = some vs →
    ∃ ys, (rs.mapM (resVal tm)).run E.P w = .ok ys w ∧ VsRel ι vs ys
  | [], vs, h => by simp [resultsA] at h; subst h; exact ⟨[], by simp, VsRel.nil _⟩
  | rv :: rs, vs, hv => by
    simp only [resultsA] at hv
    split at hv
    · rename_i v vs' h1 h2
      simp at hv; subst hv
      obtain ⟨y, hy, hr⟩ := resultA_sound hE hR hH rv h1
      obtain ⟨ys, hys, hrs⟩ := resultsL_sound hE hR hH rs vs' h2
      refine ⟨y :: ys, ?_, VsRel.cons hr hrs⟩
      rw [List.mapM_cons, Sem.run_bind, hy, Result.andThen_ok, Sem.run_bind, hys, Result.andThen_ok, Sem.run_pure]
    · simp at hv

theorem results_sound (hE : E.Ok) {ι : Inj} {rg : T AV} {tm : Array Value} {h : AHeap} {w : World} {fn : Func} {vs : List AV} (hR : RegRel ι rg tm) (hH : HRel ι h w) (hv : resultsA E rg h fn.results.toList = some vs) :
    ∃ y, (results fn tm).run E.P w = .ok y w ∧ VRel ι (oneOf vs) y := by
  obtain ⟨ys, hys, hrs⟩ := resultsL_sound hE hR hH _ _ hv
  have hrun : (results fn tm).run E.P w = .ok (if h : ys.toArray.size = 1 then ys.toArray[0] else .tuple ys.toArray) w := by
    have h1 : results fn tm = (fn.results.mapM (resVal tm) >>= fun vs => pure (if h : vs.size = 1 then vs[0] else .tuple vs)) := by
      unfold results
      have : (fun rv : ResultVar => (match rv with | .tmp t => pure (tm.getD t undef) | .cell a t => do loadVar t (← asAddr (tm.getD a undef)) : Sem Value)) = resVal tm := by
        funext rv; cases rv <;> rfl
      rw [← this]
      rfl
    rw [h1, Array.mapM_eq_mapM_toList, Sem.run_bind, Sem.run_map, hys]
    rfl
  refine ⟨_, hrun, ?_⟩
  match vs, ys, hrs with
  | [], [], _ => exact .tup' (VsRel.nil _)
  | [v], [y], hrs => exact hrs.2 0 _ _ rfl rfl
  | v :: v2 :: vs, y :: y2 :: ys, hrs =>
    rw [dif_neg (by simp)]
    exact .tup' (by simpa using hrs)
  | [], _ :: _, hrs => simp [VsRel] at hrs
  | _ :: _, [], hrs => simp [VsRel] at hrs
  | [_], _ :: _ :: _, hrs => simp [VsRel] at hrs
  | _ :: _ :: _, [_], hrs => simp [VsRel] at hrs

/-! ### A round -/
theorem foldPut {ι : Inj} : ∀ (ps : List Tmp) (args : List AV) (vs : List Value) (rg : T AV) (tm : Array Value), RegRel ι rg tm → VsRel ι args vs → vs.length = ps.length → (∀ p ∈ ps, p < tm.size) →
    RegRel ι ((ps.zip args).foldl (fun r x => r.set x.2 x.1) rg) ((ps.zip vs).foldl (fun t x => t.setIfInBounds x.1 x.2) tm) ∧ ((ps.zip vs).foldl (fun t x => t.setIfInBounds x.1 x.2) tm).size = tm.size
  | [], _, _, rg, tm, hR, _, _, _ => ⟨by simpa using hR, by simp⟩
  | p :: ps, [], vs, rg, tm, hR, hv, hl, _ => by have := hv.1; simp at this; simp [← this] at hl
  | p :: ps, x :: args, [], rg, tm, hR, hv, hl, _ => by simp at hl
  | p :: ps, x :: args, y :: vs, rg, tm, hR, hv, hl, hb => by
    simp only [List.zip_cons_cons, List.foldl_cons]
    have hxy : VRel ι x y := hv.2 0 _ _ rfl rfl
    have hvs : VsRel ι args vs := ⟨by have := hv.1; simpa using this, fun i a b ha hb => hv.2 (i + 1) a b (by simpa using ha) (by simpa using hb)⟩
    have hp : p < tm.size := hb p (by simp)
    have := foldPut ps args vs (rg.set x p) (tm.setIfInBounds p y) (RegRel.put (a := { tmps := tm, defers := [] }) (d := some p) hR (by simpa [dstOk] using hp) hxy) hvs (by simpa using hl)
      (fun q hq => by simpa using hb q (by simp [hq]))
    exact ⟨this.1, by rw [this.2]; simp⟩

theorem run_getLoop {P : Program} {w : World} {l : Nat} {r : Loop} (hb : w.heap[l]? = some (.loop r)) : (Instr.getLoop l).run P w = .ok r w := by
  simp [Instr.getLoop, getObj, Sem.run, hb, Sem.bind, Bind.bind, Pure.pure, Sem.pure]
theorem run_setObj {P : Program} {w : World} {l : Nat} {r : Loop} (hb : w.heap[l]? = some (.loop r)) (o' : Obj) : (setObj l o').run P w = .ok () { w with heap := w.heap.setIfInBounds l o' } := by
  simp only [setObj, Sem.run, hb]

theorem HRel.turnLoop {ι : Inj} {h : AHeap} {w : World} (hH : HRel ι h w) {l : Nat} {L : Loc} {st st' : LoopState} {pd pd' : Option Code} {n : Nat} {rg : T AV} {ps : Array Tmp} {as b : Code} {tm : Array Value} {df : Nat} {fn : FuncId}
    (hi : ι l = some L) (hl : h.get l = some (.loop st pd n rg ps as b)) (hb : w.heap[L.b]? = some (.loop { state := st, pending := pd, fn := fn, tmps := tm, params := ps, assign := as, body := b, defers := df })) (hR : RegRel ι rg tm) (hn : tm.size = n) :
    Ext ι h w ι (h.set l (.loop st' pd' n rg ps as b)) { w with heap := w.heap.setIfInBounds L.b (.loop { state := st', pending := pd', fn := fn, tmps := tm, params := ps, assign := as, body := b, defers := df }) } := by
  have hlt : L.b < w.heap.size := (Array.getElem?_eq_some_iff.1 hb).1
  refine hH.turn hi hl rfl ⟨tm, df, fn, by simp [hlt], hR, hn⟩ (by simp) (fun bb hne => ?_) rfl rfl rfl
  show (w.heap.setIfInBounds L.b _)[bb]? = _
  rw [Array.getElem?_setIfInBounds_ne (fun e => hne e.symm)]

theorem roundA_sound (hE : E.Ok) {call : CallF} {round : RoundF} (hm : MachOk E call round) {fuel : Nat}
    {l : Nat} {args : List AV} {h : AHeap} {v : AV} {h' : AHeap} {ι : Inj} {w : World} {L : Loc} {st : LoopState} {pd : Option Code} {n : Nat} {rg : T AV} {ps : Array Tmp} {as b : Code} {tm : Array Value} {df : Nat} {fn : FuncId} {vs : List Value}
    (hr : roundA E call round fuel l args h = some (v, h')) (hH : HRel ι h w) (hi : ι l = some L) (hl : h.get l = some (.loop st pd n rg ps as b))
    (hb : w.heap[L.b]? = some (.loop { state := st, pending := pd, fn := fn, tmps := tm, params := ps, assign := as, body := b, defers := df })) (hR : RegRel ι rg tm) (hv : VsRel ι args vs) (hlen : vs.length = ps.size) :
    RoundIn Fence.wide 0 E.P L.b fn ((ps.zip vs.toArray).foldl (fun t x => t.setIfInBounds x.1 x.2) tm) as b w fun e w' => ∃ ι' y, e = .returned y ∧ Ext ι h w ι' h' w' ∧ VRel ι' v y := by
  have hnsz : tm.size = n := by
    obtain ⟨o, ho, hO⟩ := hH.obj l L hi
    rw [hl] at ho; cases ho
    obtain ⟨tm', df', fn', hb', _, hn'⟩ := hO
    rw [hb] at hb'; cases hb'; exact hn'
  unfold roundA at hr
  simp only [hl] at hr
  cases st with
  | ready =>
    simp only at hr
    split at hr
    · rename_i hc
      obtain ⟨hc1, hc2⟩ := hc
      have hfold := foldPut ps.toList args vs rg tm hR hv (by simpa using hlen) (fun p hp => by
        rw [hnsz]
        have := (Array.all_eq_true.1 hc2)
        obtain ⟨i, hi, rfl⟩ := List.getElem_of_mem hp
        have := this i (by simpa using hi)
        simpa using this)
      have htm : (ps.zip vs.toArray).foldl (fun t x => t.setIfInBounds x.1 x.2) tm = (ps.toList.zip vs).foldl (fun t x => t.setIfInBounds x.1 x.2) tm := by
        rw [← Array.foldl_toList, Array.toList_zip]
      rw [htm]
      split at hr
      · rename_i st1 hcode
        split at hr
        · rename_i pd1 n1 rg1 ps1 as1 b1 hl1
          split at hr
          · rename_i x st2 hbody
            refine roundIn_of_wpIn (F := Fence.wide) trivial ?_
            show as.wpIn (wideAt (some L.b)) 0 E.P _ _ w
            refine codeA_sound hE hm hcode (ι := ι) ⟨hfold.1, by rw [hfold.2]; exact hnsz, hH, trivial, rfl⟩ fun e ι1 a1 w1 he1 hs1 hx1 => ?_
            cases e with
            | normal =>
              have hi1 : ι1 l = some L := by rw [he1.keep l (hH.lt l L hi)]; exact hi
              obtain ⟨o1, ho1, hO1⟩ := hs1.heap.obj l L hi1
              rw [hl1] at ho1; cases ho1
              obtain ⟨tm1, df1, fn1, hb1, hR1, hn1⟩ := hO1
              have hturn := hs1.heap.turnLoop (st' := .busy) (pd' := pd1) hi1 hl1 hb1 hR1 hn1
              refine ⟨{ w1 with heap := w1.heap.setIfInBounds L.b (.loop { state := .busy, pending := pd1, fn := fn1, tmps := tm1, params := ps1, assign := as1, body := b1, defers := df1 }) }, ?_, ?_⟩
              · simp only [Instr.beginRound, Sem.run_bind, run_getLoop hb1, Result.andThen_ok, run_setObj hb1]
                rfl
              · show b.wpIn (wideAt (some L.b)) 0 E.P _ _ _
                refine codeA_sound hE hm hbody (ι := ι1) ⟨hs1.reg, hs1.n, hturn.rel, hs1.ds, hs1.rnd⟩ fun e2 ι2 a2 w2 he2 hs2 hx2 => ?_
                have hi2 : ι2 l = some L := by rw [he2.keep l (hturn.rel.lt l L hi1)]; exact hi1
                have hall := (he1.trans hturn).trans he2
                split at hr
                · rename_i st3 pd3 n3 rg3 ps3 as3 b3 hds hl2
                  obtain ⟨o2, ho2, hO2⟩ := hs2.heap.obj l L hi2
                  rw [hl2] at ho2; cases ho2
                  obtain ⟨tm2, df2, fn2, hb2, hR2, hn2⟩ := hO2
                  have hend : ∀ j : Option Code, (Instr.endRound L.b j).run E.P w2 = .ok (.bool j.isNone) { w2 with heap := w2.heap.setIfInBounds L.b (.loop { state := if j.isNone then .ready else .done, pending := j, fn := fn2, tmps := tm2, params := ps3, assign := as3, body := b3, defers := df2 }) } := fun j => by
                    simp only [Instr.endRound, Sem.run_bind, run_getLoop hb2, Result.andThen_ok, run_setObj hb2, Sem.run_pure]
                  split at hr
                  · cases e2 <;> first | exact hx2.elim | skip
                    simp at hr; obtain ⟨rfl, rfl⟩ := hr
                    exact ⟨_, _, hend none, ι2, _, rfl, hall.trans (hs2.heap.turnLoop hi2 hl2 hb2 hR2 hn2), .bool _⟩
                  · cases e2 <;> first | exact hx2.elim | skip
                    simp at hr; obtain ⟨rfl, rfl⟩ := hr
                    exact ⟨_, _, hend (some .ret), ι2, _, rfl, hall.trans (hs2.heap.turnLoop hi2 hl2 hb2 hR2 hn2), .bool _⟩
                  · rename_i id
                    cases e2 <;> first | exact hx2.elim | skip
                    rename_i id'
                    have : id = id' := hx2
                    subst this
                    simp at hr; obtain ⟨rfl, rfl⟩ := hr
                    exact ⟨_, _, hend (some (.exit id)), ι2, _, rfl, hall.trans (hs2.heap.turnLoop hi2 hl2 hb2 hR2 hn2), .bool _⟩
                  · simp at hr
                · simp at hr
            | _ => exact hx1.elim
          · simp at hr
        · simp at hr
      · simp at hr
    · simp at hr
  | _ => simp at hr
end Go.Am
