/-
  Proves that slice expressions of the abstract machine stand for the model's. Each theorem states its own conditions; there are no others.
-/
import Derived.Test.YtdanfdimpcldiaaGreatDoorAm9
import Derived.Laws.Build
set_option linter.unusedSimpArgs false
set_option linter.unusedVariables false
set_option linter.unusedVariables false
set_option linter.unusedSectionVars false
namespace Go.Am
variable [Base]
variable {E : Env} {ι : Inj} {h h' : AHeap} {w : World} {rg : T AV} {a : Act} {o : Oper} {r : ORes}

theorem VRel.int_inv {k : IntKind} {n : Int} {v : Value} (h : VRel ι (.int k n) v) : v = .int k n := by cases h; rfl
theorem VRel.bool_inv {b : Bool} {v : Value} (h : VRel ι (.bool b) v) : v = .bool b := by cases h; rfl
theorem VRel.str_inv {s : List UInt8} {v : Value} (h : VRel ι (.str s) v) : v = .string ⟨s.toArray⟩ := by cases h; rfl

theorem op_unOp (hR : RegRel ι rg a.tmps) (hH : HRel ι h w) {op : UnOp} {t : TypeId} {x : Operand} (ho : o.op = .unOp op t x) (hop : opA E rg h o = some (r, h')) :
    OpPure ι h w r h' ((execOp a.eval o).run E.P w) := by
  simp only [opA, ho] at hop
  split at hop
  · rename_i p hp
    split at hop
    · rename_i z hz
      simp at hop; obtain ⟨rfl, rfl⟩ := hop
      have hpr := evA_rel hR hp
      unfold unA at hz
      split at hz
      · obtain ⟨v, hv, hr⟩ := pureAV_run hz ι E.P w
        exact .pure hH (y := v) (by simp [execOp, ho, hpr.int_inv, hv]) hr
      · obtain ⟨v, hv, hr⟩ := pureAV_run hz ι E.P w
        exact .pure hH (y := v) (by simp [execOp, ho, hpr.bool_inv, hv]) hr
      · simp at hz
    · simp at hop
  · simp at hop

theorem op_makeInterface (hE : E.Ok) (hR : RegRel ι rg a.tmps) (hH : HRel ι h w) {t : TypeId} {x : Operand} (ho : o.op = .makeInterface t x) (hop : opA E rg h o = some (r, h')) :
    OpPure ι h w r h' ((execOp a.eval o).run E.P w) := by
  simp only [opA, ho] at hop
  split at hop
  · simp at hop
  · rename_i d v hn hu hv
    simp at hop; obtain ⟨rfl, rfl⟩ := hop
    have hc : E.P.concrete t = true := by
      unfold Program.concrete
      rw [hE.und t _ hu]
      cases d <;> simp_all
    exact .pure hH (y := .iface t (a.eval x)) (by simp [execOp, ho, run_makeInterface w t _ hc]) (.iface t (evA_rel hR hv))
  · simp at hop

theorem op_makeFunc (hR : RegRel ι rg a.tmps) (hH : HRel ι h w) {fn : Fn} {first caps : Array Operand} (ho : o.op = .makeFunc fn first caps) (hop : opA E rg h o = some (r, h')) :
    OpPure ι h w r h' ((execOp a.eval o).run E.P w) := by
  cases fn with
  | func f =>
    simp only [opA, ho] at hop
    split at hop
    · rename_i cs hf hcs
      simp at hop; obtain ⟨rfl, rfl⟩ := hop
      have hf' : first = #[] := by cases first; simp_all
      subst hf'
      have hr := evAs_rel hR hcs
      refine .pure hH (y := .func (.func f) #[] (caps.map a.eval)) (by simp [execOp, ho, Instr.makeFunc]) (.func f ?_ ?_)
      · simpa using hr.1
      · simpa using hr.2
    · simp at hop
  | _ => simp [opA, ho] at hop

theorem op_makeMap (hH : HRel ι h w) {t : TypeId} {x : Option Operand} (ho : o.op = .makeMap t x) (hop : opA E rg h o = some (r, h')) :
    OpPost ι h w r h' ((execOp a.eval o).run E.P w) := by
  cases x with
  | none =>
    simp only [opA, ho] at hop
    simp at hop; obtain ⟨rfl, rfl⟩ := hop
    refine .val (y := .map (some w.heap.size)) (w' := w.alloc (.map #[] 0)) (ι' := ι.add h.next ⟨w.heap.size, 0, 0, 0, true⟩) (by simp [execOp, ho, Instr.makeMap]) (.map (L := ⟨w.heap.size, 0, 0, 0, true⟩) (Inj.add_same _ _ _)) ?_
    exact hH.alloc rfl rfl rfl rfl _ _ _ rfl ⟨#[], 0, heap_alloc_new w _, rfl, by simp⟩
  | some x => simp [opA, ho] at hop

theorem op_convert (hE : E.Ok) (hR : RegRel ι rg a.tmps) (hH : HRel ι h w) {s d : TypeId} {x : Operand} (ho : o.op = .convert s d x) (hop : opA E rg h o = some (r, h')) :
    OpPost ι h w r h' ((execOp a.eval o).run E.P w) := by
  simp only [opA, ho] at hop
  split at hop
  · rename_i sd k q n hs hd hx
    split at hop
    · rename_i v hv
      simp at hop; obtain ⟨rfl, rfl⟩ := hop
      obtain ⟨y, hy, hr⟩ := pureAV_run hv ι E.P w
      refine .pure hH (y := y) ?_ hr
      have hx' := (evA_rel hR hx).int_inv
      simp [execOp, ho, hx', convert, und_run hE hs, und_run hE hd, hy]
    · simp at hop
  · rename_i l hs hd hx
    simp at hop; obtain ⟨rfl, rfl⟩ := hop
    have hx' := (evA_rel hR hx).str_inv
    refine .pure hH (y := a.eval x) ?_ (evA_rel hR hx)
    simp [execOp, ho, hx', convert, und_run hE hs, und_run hE hd]
  · rename_i e l hs hd hx
    split at hop
    · rename_i he
      split at hop
      · simp at hop
      · simp at hop; obtain ⟨rfl, rfl⟩ := hop
        have hx' := (evA_rel hR hx).str_inv
        have hsz : ({ data := l.toArray } : ByteArray).size = l.length := by simp [ByteArray.size]
        obtain ⟨cap, hcap, hrun0⟩ : ∃ cap, l.length ≤ cap ∧ (choose (.appendCap ({ data := l.toArray } : ByteArray).size 0 e)).run E.P w = .ok cap w.drew :=
          ⟨grownCap w ({ data := l.toArray } : ByteArray).size 0 e, by have := grownCap_ge w ({ data := l.toArray } : ByteArray).size 0 e; omega, by simp [Question.forced, grownCap]⟩
        obtain ⟨c, hc⟩ : ∃ c : Array Value, c = (l.toArray.map fun b => Value.int .u8 b.toNat) ++ Array.replicate (cap - l.length) (.int .u8 0) := ⟨_, rfl⟩
        have hcs : c.size = cap := by rw [hc]; simp; omega
        have hnew : (w.drew.alloc (.cells c e)).heap[w.heap.size]? = some (.cells c e) := heap_alloc_new w.drew _
        have hsh : (w.drew.alloc (.cells c e)).shape? w.heap.size = some (e, c.size) := by simp only [World.shape?, hnew]
        have hrun : (execOp a.eval o).run E.P w = .ok (.value (.slice (some ⟨w.heap.size, 0, none⟩) l.length cap)) ((w.drew.alloc (.cells c e)).freeze ⟨w.heap.size, c.size, none⟩ 1) := by
          have hsh' : ({ w.drew with heap := w.drew.heap.push (.cells c e) } : World).shape? w.heap.size = some (e, c.size) := hsh
          have hm : (markStringish ⟨w.heap.size, 0, none⟩).run E.P (w.drew.alloc (.cells c e)) = .ok () ((w.drew.alloc (.cells c e)).freeze ⟨w.heap.size, c.size, none⟩ 1) := by
            simp only [markStringish, Sem.run_bind, run_shape, hsh, Result.andThen_ok, run_freeze]
          have hn : (newRow e c).run E.P w.drew = .ok ⟨w.heap.size, 0, none⟩ (w.drew.alloc (.cells c e)) := rfl
          have hx2 : (Conv.stringToBytes e ⟨l.toArray⟩).run E.P w = .ok (.slice (some ⟨w.heap.size, 0, none⟩) l.length cap) ((w.drew.alloc (.cells c e)).freeze ⟨w.heap.size, c.size, none⟩ 1) := by
            simp only [Conv.stringToBytes, Sem.run_bind, hrun0, Result.andThen_ok]
            rw [hsz, ← hc]
            simp only [hn, Result.andThen_ok, hm, Sem.run_pure]
          simp [execOp, ho, hx', convert, und_run hE hs, und_run hE hd, und_run hE he, hx2]
        have hb0 : ((w.drew.alloc (.cells c e)).freeze ⟨w.heap.size, c.size, none⟩ 1).heap[w.heap.size]? = some (.cells c e (c.size, c.size + 1)) := by
          simp only [World.freeze]
          rw [if_neg (by omega)]
          simp only [Array.getElem?_modify]
          rw [if_pos trivial, hnew]; rfl
        have hold : ∀ b, b < w.heap.size → ((w.drew.alloc (.cells c e)).freeze ⟨w.heap.size, c.size, none⟩ 1).heap[b]? = w.heap[b]? := by
          intro b hb
          have : w.heap.size ≠ b := by omega
          simp [World.freeze, Array.getElem?_modify, this]
          exact heap_alloc_old w.drew _ b hb
        have hle : ι.le (ι.add h.next ⟨w.heap.size, 0, c.size, 1, false⟩) := fun i Li hi => by
          rw [Inj.add_other]; exact hi
          have := hH.lt i Li hi; omega
        refine .val hrun (ι' := ι.add h.next ⟨w.heap.size, 0, c.size, 1, false⟩) (.slice (off := 0) (L := ⟨w.heap.size, 0, c.size, 1, false⟩) (Inj.add_same _ _ _) hcap (by simp)) ?_
        refine hH.grow (by simp only [World.freeze]; rw [if_neg (by omega)]; simp only [Array.size_modify]; exact Nat.le_of_lt (Array.getElem?_eq_some_iff.1 hnew).1) hold (by rfl) (by rfl) (by rfl) _ _ (Nat.le_refl _) (Array.getElem?_eq_some_iff.1 hb0).1 ⟨rfl, rfl, by simp [hcs, hcap], c, e, _, hb0, by simp, ?_⟩
        intro i x hx
        simp at hx
        obtain ⟨b, hb, rfl⟩ := hx
        have hi : i < l.length := (List.getElem?_eq_some_iff.1 hb).1
        refine ⟨.int .u8 b.toNat, ?_, .int _ _⟩
        obtain ⟨_, rfl⟩ := List.getElem?_eq_some_iff.1 hb
        rw [hc]
        simp [hi, Array.getElem?_append]
    · simp at hop
  · simp at hop

theorem boundA_run {v : AV} {u : Value} {y n : Nat} (P : Program) (hv : VRel ι v u) (hb : boundA v y = some n) (m : Nat) (hm : y ≤ m) (code : BoundsCode) (w : World) :
    (Instr.sliceBound u m code).run P w = .ok n w ∧ n ≤ y := by
  unfold boundA at hb
  split at hb
  · rename_i k i
    split at hb
    · rename_i hc
      simp at hb; subst hb
      rw [hv.int_inv]
      refine ⟨?_, by omega⟩
      have : 0 ≤ i ∧ i ≤ (m : Int) := ⟨hc.1, by omega⟩
      simp [Instr.sliceBound, asIntOf, this]
    · simp at hb
  · simp at hb

/-- The bounds of a slice expression whose high bound lies within the length. -/
theorem boundsA_run (hR : RegRel ι rg a.tmps) (P : Program) {len cap : Nat} {lo hi : Option Operand} {l r : Nat} (hb : boundsA rg len len lo hi = some (l, r)) (hc : len ≤ cap) (isSlice : Bool) (w : World) :
    (Instr.sliceBounds isSlice len cap (lo.map a.eval) (hi.map a.eval) none).run P w = .ok (l, r, cap) w ∧ l ≤ r ∧ r ≤ len := by
  unfold boundsA at hb
  cases hi with
  | none =>
    simp only at hb
    cases lo with
    | none =>
      simp at hb; obtain ⟨rfl, rfl⟩ := hb
      exact ⟨by simp [Instr.sliceBounds], by omega, by omega⟩
    | some y =>
      simp only at hb
      split at hb
      · rename_i v hv
        split at hb
        · rename_i l' hl
          simp at hb; obtain ⟨rfl, rfl⟩ := hb
          obtain ⟨h2, h3⟩ := boundA_run P (evA_rel hR hv) hl len (Nat.le_refl _) .sliceB w
          exact ⟨by simp [Instr.sliceBounds, h2], h3, by omega⟩
        · simp at hb
      · simp at hb
  | some x =>
    simp only at hb
    split at hb
    · simp at hb
    · rename_i r' hr
      split at hr
      · rename_i v hv
        obtain ⟨h1, h1'⟩ := boundA_run P (evA_rel hR hv) hr cap hc (if isSlice then .sliceAcap else .sliceAlen) w
        cases lo with
        | none =>
          simp at hb; obtain ⟨rfl, rfl⟩ := hb
          exact ⟨by simp [Instr.sliceBounds, h1], by omega, by omega⟩
        | some y =>
          simp only at hb
          split at hb
          · rename_i v hv
            split at hb
            · rename_i l' hl
              simp at hb; obtain ⟨rfl, rfl⟩ := hb
              obtain ⟨h2, h3⟩ := boundA_run P (evA_rel hR hv) hl r' (Nat.le_refl _) .sliceB w
              exact ⟨by simp [Instr.sliceBounds, h1, h2], h3, by omega⟩
            · simp at hb
          · simp at hb
      · simp at hr
end Go.Am
