/-
  Proves that operands, constants and loads of the abstract machine stand for the model's. Each theorem states its own conditions; there are no others.
-/
import Derived.Test.YtdanfdimpcldiaaGreatDoorAm3
set_option linter.unusedSimpArgs false
set_option linter.unusedVariables false
set_option linter.unusedSectionVars false
namespace Go.Am
variable [Base]

/-- A struct of bools, strings and integers alone, field by field. -/
def FlatOk (P : Program) : List Field → List (Nat × Nat) → Prop
  | [], [] => True
  | f :: fs, (o, k) :: r => f.name ≠ "_" ∧ f.offset = o ∧ ((k = 0 ∧ P.underlying f.type = some .bool) ∨ (k = 1 ∧ P.underlying f.type = some .string) ∨ (k = 2 ∧ ∃ q, P.underlying f.type = some (.int q))) ∧ FlatOk P fs r
  | _, _ => False

/-- A function of the library without a body, told by a Lean function. -/
def ExtOk (P : Program) (k : FuncId) (f : List AV → Option AV) : Prop :=
  ∃ fn e, P.funcs[k]? = some fn ∧ (fn.name == "runtime.NumGoroutine") = false ∧ fn.body = none ∧ Extern.findNext fn = none ∧ Extern.find fn = some e ∧
    ∀ {ι : Inj} {args : List AV} {v : AV} {args' : Array Value} {w : World}, f args = some v → VsRel ι args args'.toList → ∃ y, (e args').run P w = .ok y w ∧ VRel ι v y

structure Env.Ok (E : Env) : Prop where
  ext : ∀ k f, E.ext k = some f → ExtOk E.P k f
  fn : ∀ k f, E.fn k = some f → E.P.funcs[k]? = some f ∧ (f.name == "runtime.NumGoroutine") = false
  und : ∀ t d, E.und t = some d → E.P.underlying t = some d
  siz : ∀ t n, E.siz t = some n → ∃ i, E.P.info? t = some i ∧ i.size = n
  byt : ∀ t n, E.byt t = some n → ∃ i, E.P.info? t = some i ∧ i.bytes ≤ n + 1
  zer : ∀ t l, E.zer t = some l → ∃ i z, E.P.info? t = some i ∧ i.zero = some z ∧ toAVs z.cells.toList = some l ∧ (E.isAgg t = some true → ∃ cs, z = .agg cs) ∧ (E.isAgg t = some false → z.oneCell' = true)
  flat : ∀ t offs, E.flat t = some offs → ∃ fs, E.P.underlying t = some (.struct fs) ∧ E.P.stoodInHeld t = false ∧ E.P.eqGuardType E.P.depth t = false ∧ FlatOk E.P fs.toList offs
  mixed : E.P.follows .mixedOrders = true

variable {E : Env} {ι : Inj} {h : AHeap} {w : World} {rg : T AV} {a : Act}

theorem evA_rel (hR : RegRel ι rg a.tmps) {x : Operand} {v : AV} (h : evA rg x = some v) : VRel ι v (a.eval x) := by
  cases x with
  | tmp t =>
    obtain ⟨y, hy, hr⟩ := hR t v h
    simp only [Act.eval]
    rw [Array.getD_eq_getD_getElem?, hy]
    exact hr
  | const c => exact toAV_rel ι h
  | global g => simp [evA] at h
  | func f => simp [evA] at h; subst h; exact .func f (by simp) (by simp)
theorem evAs_rel (hR : RegRel ι rg a.tmps) : ∀ {xs : List Operand} {vs : List AV}, evAs rg xs = some vs → VsRel ι vs (xs.map a.eval)
  | [], vs, h => by simp [evAs] at h; subst h; exact VsRel.nil _
  | x :: r, vs, h => by
    simp only [evAs] at h
    split at h
    · rename_i u us hu hus
      simp at h; subst h
      exact VsRel.cons (evA_rel hR hu) (evAs_rel hR hus)
    · simp at h

/-- What an operation's run owes. -/
def OpPost (ι : Inj) (h : AHeap) (w : World) (r : ORes) (h' : AHeap) : Result Next → Prop
  | .ok (.value y) w' => ∃ v ι', r = .val v ∧ VRel ι' v y ∧ Ext ι h w ι' h' w'
  | .ok .skip w' => ∃ ι', r = .skip ∧ Ext ι h w ι' h' w'
  | .ok (.enter f args) w' => ∃ as, r = .enter f as ∧ VsRel ι as args.toList ∧ w' = w ∧ h' = h
  | .ok (.round l f tmps as b) w' => ∃ id args L st pd n rg0 ps tm df vs, r = .yield id args ∧ ι id = some L ∧ h.get id = some (.loop st pd n rg0 ps as b) ∧
      w.heap[L.b]? = some (.loop { state := st, pending := pd, fn := f, tmps := tm, params := ps, assign := as, body := b, defers := df }) ∧ RegRel ι rg0 tm ∧ VsRel ι args vs ∧
      l = L.b ∧ vs.length = ps.size ∧ tmps = (ps.zip vs.toArray).foldl (fun t x => t.setIfInBounds x.1 x.2) tm ∧ w' = w ∧ h' = h
  | .ok (.defer d) w' => ∃ f as cap dargs, r = .defer f as ∧ d = { target := .fn (.func f) cap, args := dargs } ∧ VsRel ι as (dargs.toList ++ cap.toList) ∧ w' = w ∧ h' = h
  | .ok .recover w' => r = .recover ∧ w' = w ∧ h' = h
  | .halt (.panic v) w' => ∃ x, r = .panic x ∧ VRel ι x v ∧ w' = w ∧ h' = h
  | _ => False

theorem OpPost.val {r : Result Next} {h' : AHeap} {v : AV} {y : Value} {w' : World} {ι' : Inj} (hr : r = .ok (.value y) w') (hv : VRel ι' v y) (he : Ext ι h w ι' h' w') : OpPost ι h w (.val v) h' r := by
  subst hr; exact ⟨v, ι', rfl, hv, he⟩
/-- A value, nothing else. -/
theorem OpPost.pure (hH : HRel ι h w) {r : Result Next} {v : AV} {y : Value} (hr : r = .ok (.value y) w) (hv : VRel ι v y) : OpPost ι h w (.val v) h r :=
  .val hr hv (Ext.refl hH)

/-- A value, and nothing else. -/
def OpPure (ι : Inj) (h : AHeap) (w : World) (r : ORes) (h' : AHeap) (res : Result Next) : Prop :=
  ∃ v y, r = .val v ∧ h' = h ∧ res = .ok (.value y) w ∧ VRel ι v y
theorem OpPure.pure (hH : HRel ι h w) {r : Result Next} {v : AV} {y : Value} (hr : r = .ok (.value y) w) (hv : VRel ι v y) : OpPure ι h w (.val v) h r := ⟨v, y, rfl, rfl, hr, hv⟩
theorem OpPure.post (hH : HRel ι h w) {r : ORes} {h' : AHeap} {res : Result Next} (hp : OpPure ι h w r h' res) : OpPost ι h w r h' res := by
  obtain ⟨v, y, rfl, rfl, hr, hv⟩ := hp
  exact .pure hH hr hv

/-! ### What the world says of an abstract cell -/
theorem HRel.cells (hH : HRel ι h w) {i : Nat} {L : Loc} {rw : Bool} {es : Nat} {cs : List AV} (hi : ι i = some L) (ho : h.get i = some (.cells rw es cs)) :
    L.rw = rw ∧ L.es = es ∧ L.base + cs.length ≤ L.top ∧ ∃ c e fz, w.heap[L.b]? = some (.cells c e fz) ∧ (rw = true → fz = (0, 0) ∧ L.top = c.size) ∧
      (∀ (i : Nat) (x : AV), cs[i]? = some x → ∃ y : Value, c[L.base + i]? = some y ∧ VRel ι x y) := by
  obtain ⟨o, h1, h2⟩ := hH.obj i L hi
  rw [ho] at h1; cases h1
  exact h2
theorem addr_add (b o n : Nat) : (⟨b, o, none⟩ : Addr).add n = ⟨b, o + n, none⟩ := by
  unfold Addr.add; split <;> simp_all

theorem load1_sound (hH : HRel ι h w) {i off : Nat} {L : Loc} {v : AV} (hi : ι i = some L) (hl : h.load1 i off = some v) :
    ∃ y, w.cell? ⟨L.b, L.base + off, none⟩ = some y ∧ VRel ι v y := by
  unfold AHeap.load1 at hl
  split at hl
  · rename_i rw es cs ho
    obtain ⟨_, _, _, c, e, fz, hb, _, hc⟩ := hH.cells hi ho
    obtain ⟨y, hy, hr⟩ := hc off v hl
    exact ⟨y, by simp [World.cell?, hb, hy], hr⟩
  · simp at hl

theorem loadCells_sound (hH : HRel ι h w) {i off n : Nat} {L : Loc} {vs : List AV} (hi : ι i = some L) (hl : h.loadCells i off n = some vs) :
    vs.length = n ∧ ∃ ys : List Value, VsRel ι vs ys ∧ ∀ j v, ys[j]? = some v → w.cell? ((⟨L.b, L.base + off, none⟩ : Addr).add j) = some v := by
  unfold AHeap.loadCells at hl
  split at hl
  · rename_i rw es cs ho
    split at hl
    · rename_i hlen
      simp at hl; subst hl
      obtain ⟨_, _, _, c, e, fz, hb, _, hc⟩ := hH.cells hi ho
      have hn : ((cs.drop off).take n).length = n := by simp; omega
      refine ⟨hn, (List.range n).map (fun j => c[L.base + off + j]?.getD default), ⟨by simp; omega, ?_⟩, ?_⟩
      · intro j x y hx hy
        rw [List.getElem?_take] at hx
        split at hx
        · rename_i hj
          rw [List.getElem?_drop] at hx
          simp [hj] at hy
          obtain ⟨z, hz, hr⟩ := hc _ x hx
          rw [← hy, ← Nat.add_assoc] at *
          simpa [hz] using hr
        · simp at hx
      · intro j v hv
        have hj : j < n := by
          have := (List.getElem?_eq_some_iff.1 hv).1; simpa using this
        simp [hj] at hv
        have : off + j < cs.length := by omega
        obtain ⟨z, hz, hr⟩ := hc (off + j) cs[off + j] (by simp [this])
        rw [← Nat.add_assoc] at hz
        rw [addr_add, ← hv]
        simp [World.cell?, hb, hz]
    · simp at hl
  · simp at hl

theorem storeCells_sound (hH : HRel ι h w) {i off : Nat} {L : Loc} {vs : List AV} {ys : List Value} {h' : AHeap} (hi : ι i = some L) (hs : h.storeCells i off vs = some h') (hv : VsRel ι vs ys) (P : Program) :
    ∃ w', (storeCells ⟨L.b, L.base + off, none⟩ ys).run P w = .ok () w' ∧ Ext ι h w ι h' w' := by
  unfold AHeap.storeCells at hs
  split at hs
  · rename_i es cs ho
    split at hs
    · rename_i hc
      obtain ⟨hlen, hall⟩ := hc
      simp at hs; subst hs
      obtain ⟨hrw, hes, htop, c, e, fz, hb, hfz, hcs⟩ := hH.cells hi ho
      obtain ⟨rfl, htop'⟩ := hfz rfl
      have h1 : ∀ v ∈ ys, v.oneCell' = true := by
        intro v hv'
        obtain ⟨j, hj, rfl⟩ := List.getElem_of_mem hv'
        have hj' : j < vs.length := by rw [hv.1]; exact hj
        rw [(hv.2 j vs[j] ys[j] (by simp [hj']) (by simp [hj])).scalar]
        exact (List.all_eq_true.1 hall) _ (List.getElem_mem hj')
      have hyl : ys.length = vs.length := hv.1.symm
      have hst := run_storeCells_at P L.b (L.base + off) e ys 0 c w hb (by omega) h1
      simp only [Nat.add_zero] at hst
      refine ⟨_, hst, ?_⟩
      have hlt : L.b < w.heap.size := (Array.getElem?_eq_some_iff.1 hb).1
      refine hH.turn hi ho rfl ?_ ?_ ?_ rfl rfl rfl
      · refine ⟨hrw, hes, ?_, (c.toList.take (L.base + off) ++ ys ++ c.toList.drop (L.base + off + ys.length)).toArray, e, (0, 0), setRow_heap w L.b c _ e _ hb, ?_, ?_⟩
        · simp; omega
        · intro _; refine ⟨rfl, ?_⟩; simp; omega
        · intro j x hx
          simp only [List.getElem?_toArray]
          rw [List.getElem?_append] at hx
          simp only [List.length_take] at hx
          have hmin : min off cs.length = off := by omega
          rw [hmin] at hx
          rw [List.append_assoc, List.getElem?_append]
          have hmin' : (List.take (L.base + off) c.toList).length = L.base + off := by simp; omega
          rw [hmin']
          split at hx
          · rename_i hj
            rw [List.getElem?_take, if_pos hj] at hx
            obtain ⟨y, hy, hr⟩ := hcs j x hx
            rw [if_pos (by omega), List.getElem?_take, if_pos (by omega)]
            exact ⟨y, by simpa using hy, hr⟩
          · rename_i hj
            rw [if_neg (by omega), List.getElem?_append]
            rw [List.getElem?_append] at hx
            split at hx
            · rename_i hj2
              rw [if_pos (by omega)]
              obtain ⟨y, hy, hr⟩ := hv.get hx
              exact ⟨y, by rw [← hy]; congr 1; omega, hr⟩
            · rename_i hj2
              rw [if_neg (by omega), List.getElem?_drop]
              rw [List.getElem?_drop] at hx
              obtain ⟨y, hy, hr⟩ := hcs _ x hx
              refine ⟨y, ?_, hr⟩
              rw [← Array.getElem?_toList] at hy
              rw [← hy]; congr 1; omega
      · simp [World.setRow]
      · intro b hne
        simp only [World.setRow, Array.getElem?_modify]
        rw [if_neg (fun e => hne e.symm)]
    · simp at hs
  · simp at hs

end Go.Am
