/-
  Proves of the abstract machine's reading operations what they hang on. Each theorem states its own conditions; there are no others.
-/
import Derived.Test.YtdanfdimpcldiaaGreatDoorAm20
set_option linter.unusedSimpArgs false
set_option linter.unusedVariables false
set_option linter.unusedVariables false
set_option linter.unusedSimpArgs false
set_option linter.unusedSectionVars false
namespace Go.Am
variable [Base]
variable {E : Env} {ι : Inj} {h h' : AHeap} {w : World} {rg : T AV} {a : Act} {o : Oper} {r : ORes}

/-- What an operation that makes an object owes, the object called as one likes. -/
def AllocPost (ι : Inj) (h : AHeap) (w : World) (r : ORes) (h2 : AHeap) (res : Result Next) : Prop :=
  ∃ v obj y w' L, r = .val v ∧ h2 = (h.alloc obj).2 ∧ obj.gone = false ∧ res = .ok (.value y) w' ∧ w.heap.size ≤ w'.heap.size ∧ (∀ b, b < w.heap.size → w'.heap[b]? = w.heap[b]?) ∧ w'.os = w.os ∧ w'.tape = w.tape ∧ w'.output = w.output ∧
    w.heap.size ≤ L.b ∧ ∀ n, ι n = none → ORel (ι.add n L) obj L w' ∧ ∀ v', reid n v = some v' → VRel (ι.add n L) v' y

theorem Inj.le_add {n : Nat} {L : Loc} (hn : ι n = none) : ι.le (ι.add n L) := fun i Li hi => by
  rw [Inj.add_other]; exact hi
  intro e; subst e; rw [hn] at hi; cases hi

theorem AllocPost.cells {w0 : World} (hh : w0.heap = w.heap) (hos : w0.os = w.os) (ht : w0.tape = w.tape) (hout : w0.output = w.output) {es : Nat} {cs : List AV} {c : Array Value} {e : TypeId} {v : AV} {y : Value} {res : Result Next}
    (hr : res = .ok (.value y) (w0.alloc (.cells c e))) (hc : ∀ (i : Nat) (x : AV), cs[i]? = some x → ∃ y : Value, c[i]? = some y ∧ VRel ι x y) (hl : cs.length ≤ c.size)
    (hv : ∀ (ι' : Inj) n, ι' n = some ⟨w.heap.size, 0, c.size, es, true⟩ → ∀ v', reid n v = some v' → VRel ι' v' y) : AllocPost ι h w (.val v) (h.alloc (.cells true es cs)).2 res := by
  refine ⟨v, _, y, w0.alloc (.cells c e), ⟨w.heap.size, 0, c.size, es, true⟩, rfl, rfl, rfl, hr, ?_, fun b hb => ?_, hos, ht, hout, Nat.le_refl _, fun n hn => ⟨⟨rfl, rfl, by simpa using hl, c, e, (0, 0), ?_, fun _ => ⟨rfl, rfl⟩, fun i x hx => ?_⟩, hv _ n (Inj.add_same _ _ _)⟩⟩
  · simp [World.alloc_eq, hh]
  · rw [heap_alloc_old _ _ _ (by rw [hh]; exact hb), hh]
  · show (w0.alloc (.cells c e)).heap[w.heap.size]? = _
    rw [← hh]; exact heap_alloc_new w0 _
  · obtain ⟨y, hy, hr⟩ := hc i x hx
    exact ⟨y, by simpa using hy, hr.mono (Inj.le_add hn)⟩

theorem reid_ptr {i : Nat} {L : Loc} (hb : L.base = 0) : ∀ (ι' : Inj) n, ι' n = some L → ∀ v', reid n (.ptr (some (i, 0))) = some v' → VRel ι' v' (.pointer (some ⟨L.b, 0, none⟩)) := by
  intro ι' n hn v' hv'
  simp [reid] at hv'; subst hv'
  have := VRel.ptr (off := 0) hn
  simpa [hb] using this
theorem reid_slice {i len cap : Nat} {L : Loc} (hb : L.base = 0) (hc : len ≤ cap) (ht : L.rw = true → 0 < L.es → cap * L.es = L.top) : ∀ (ι' : Inj) n, ι' n = some L → ∀ v', reid n (.slice (some (i, 0)) len) = some v' → VRel ι' v' (.slice (some ⟨L.b, 0, none⟩) len cap) := by
  intro ι' n hn v' hv'
  simp [reid] at hv'; subst hv'
  have := VRel.slice (off := 0) hn hc (by simpa [hb] using ht)
  simpa [hb] using this

theorem ap_alloc (hE : E.Ok) {t : TypeId} (ho : o.op = .alloc t) (hop : opA E rg h o = some (r, h')) :
    AllocPost ι h w r h' ((execOp a.eval o).run E.P w) := by
  simp only [opA, ho] at hop
  split at hop
  · rename_i cs hz
    simp at hop; obtain ⟨rfl, rfl⟩ := hop
    obtain ⟨z, hzr, hzl, _, _⟩ := zero_run hE hz w
    obtain ⟨hc, hl⟩ := rel_cells (toAVs_rel ι hzl)
    exact .cells (w0 := w) (e := t) rfl rfl rfl rfl (by simp [execOp, ho, Instr.alloc, hzr, newVar, newRow]) hc hl (reid_ptr rfl)
  · simp at hop

theorem ap_box (hE : E.Ok) (hR : RegRel ι rg a.tmps) {t : TypeId} {x : Operand} (ho : o.op = .box t x) (hop : opA E rg h o = some (r, h')) :
    AllocPost ι h w r h' ((execOp a.eval o).run E.P w) := by
  simp only [opA, ho] at hop
  split at hop
  · rename_i v hv
    split at hop
    · simp at hop; obtain ⟨rfl, rfl⟩ := hop
      obtain ⟨hc, hl⟩ := rel_cells (evA_rel hR hv).cells
      exact .cells (w0 := w) (e := t) rfl rfl rfl rfl (by simp [execOp, ho, Instr.box, newVar, newRow]) hc hl (reid_ptr rfl)
    · simp at hop
  · simp at hop

theorem ap_makeMap {t : TypeId} {x : Option Operand} (ho : o.op = .makeMap t x) (hop : opA E rg h o = some (r, h')) :
    AllocPost ι h w r h' ((execOp a.eval o).run E.P w) := by
  cases x with
  | none =>
    simp only [opA, ho] at hop
    simp at hop; obtain ⟨rfl, rfl⟩ := hop
    refine ⟨_, _, .map (some w.heap.size), w.alloc (.map #[] 0), ⟨w.heap.size, 0, 0, 0, true⟩, rfl, rfl, rfl, by simp [execOp, ho, Instr.makeMap], ?_, fun b hb => heap_alloc_old _ _ _ hb, rfl, rfl, rfl, Nat.le_refl _, fun n hn => ⟨⟨#[], 0, heap_alloc_new w _, rfl, by simp⟩, fun v' hv' => ?_⟩⟩
    · simp [World.alloc_eq]
    · simp [reid] at hv'; subst hv'
      exact .map (L := ⟨w.heap.size, 0, 0, 0, true⟩) (Inj.add_same _ _ _)
  | some x => simp [opA, ho] at hop

theorem ap_buildSlice (hE : E.Ok) (hR : RegRel ι rg a.tmps) {t : TypeId} {len : Nat} {parts : Array (Nat × Operand)} (ho : o.op = .buildSlice t len parts) (hop : opA E rg h o = some (r, h')) :
    AllocPost ι h w r h' ((execOp a.eval o).run E.P w) := by
  simp only [opA, ho] at hop
  split at hop
  · rename_i e ps hu hps
    split at hop
    · rename_i s z hs hz
      split at hop
      · rename_i hc
        obtain ⟨hlen, hs1, hzl⟩ := hc
        split at hop
        · rename_i cs hf
          simp at hop; obtain ⟨rfl, rfl⟩ := hop
          obtain ⟨zv, hzr, hzv, _, _⟩ := zero_run hE hz w
          obtain ⟨h1, h2⟩ := evParts_rel hR hps
          have hzrel := toAVs_rel ι hzv
          have hrep := replicate_cells (len := len) hzrel hzl
          obtain ⟨c', hc', hv'⟩ := fill_sound (ι := ι) (qs := parts.toList.map fun (p : Nat × Operand) => (p.1, a.eval p.2)) h2 (by simpa using h1) hrep hf
          obtain ⟨hcc, hcl⟩ := rel_cells hv'
          have hcs : c'.size = len * (s + 1) := by
            rw [fill_size _ _ hc']; simp
          have hle : len * (s + 1) ≤ 16777216 := by
            have : len * (s + 1) ≤ 1000 * 1001 := Nat.mul_le_mul hlen (by omega)
            omega
          refine .cells (w0 := w) (e := e) (y := .slice (some ⟨w.heap.size, 0, none⟩) len len) rfl rfl rfl rfl ?_ hcc hcl ?_
          · have hn : ¬ (16777216 < len * (s + 1)) := by omega
            simp only [execOp, ho, Instr.buildSlice, Sem.run_bind, und_run hE hu, Result.andThen_ok, sizeOf_run hE hs]
            by_cases h0 : len * (s + 1) = 0
            · have hl0 : len = 0 := by
                rcases Nat.mul_eq_zero.1 h0 with h | h <;> omega
              subst hl0
              have e1 : (Array.range (0 * (s + 1))).map (fun i => zv.cells[i % zv.cells.size]!) = #[] := by simp
              rw [e1] at hc'
              have hc2 : Instr.fill (fun i => some (i * (s + 1), s + 1)) #[] (parts.toList.map fun (p : Nat × Operand) => (p.1, a.eval p.2)) = some c' := hc'
              have e2 : Array.map (fun _ : Nat => (default : Value)) (Array.range 0) = #[] := by apply Array.ext'; simp [Array.toList_range]
              simp [hc2, newRow, e2]
            · simp [hn, h0, hzr, hc', newRow]
          · exact reid_slice rfl (Nat.le_refl _) (fun _ _ => by simp [hcs])
        · simp at hop
      · simp at hop
    · simp at hop
  · simp at hop

theorem ap_makeSlice (hE : E.Ok) (hR : RegRel ι rg a.tmps) {t : TypeId} {x y : Operand} (ho : o.op = .makeSlice t x y) (hop : opA E rg h o = some (r, h')) :
    AllocPost ι h w r h' ((execOp a.eval o).run E.P w) := by
  simp only [opA, ho] at hop
  split at hop
  · rename_i e n n' hu hx hy
    split at hop
    · rename_i s b z hs hb hz
      split at hop
      · rename_i hc
        obtain ⟨rfl, h0, hroom, hzl⟩ := hc
        simp at hop; obtain ⟨rfl, rfl⟩ := hop
        obtain ⟨zv, hzr, hzv, _, _⟩ := zero_run hE hz w
        obtain ⟨i, hi, hib⟩ := hE.byt e b hb
        obtain ⟨i', hi', his⟩ := hE.siz e _ hs
        rw [hi] at hi'; cases hi'
        have hzrel := toAVs_rel ι hzv
        have hrep := replicate_cells (len := n.toNat) hzrel hzl
        obtain ⟨hcc, hcl⟩ := rel_cells hrep
        have hx' := (evA_rel hR hx).int_inv
        have hy' := (evA_rel hR hy).int_inv
        have hroom2 : n.toNat ≤ roomy := Nat.le_trans (Nat.le_mul_of_pos_right _ (by omega)) hroom
        have hr : roomy = 1073741824 := rfl
        have hw : IntKind.i64.wrap n = n := by
          have h1 : n = (n.toNat : Int) := by omega
          rw [IntKind.wrap_i64]; omega
        have hbn : (i.bytes : Int) * n ≤ 1073741824 := by
          have h1 : i.bytes * n.toNat ≤ (b + 1) * n.toNat := Nat.mul_le_mul_right _ hib
          rw [Nat.mul_comm (b + 1)] at h1
          have h2 : i.bytes * n.toNat ≤ 1073741824 := by omega
          have h3 : (n.toNat : Int) = n := by omega
          have h4 : ((i.bytes * n.toNat : Nat) : Int) ≤ ((1073741824 : Nat) : Int) := Int.ofNat_le.2 h2
          rw [Int.natCast_mul, h3] at h4
          exact h4
        have hsz : ((Array.range (n.toNat * (s + 1))).map (fun i => zv.cells[i % zv.cells.size]!)).size = n.toNat * (s + 1) := by simp
        refine .cells (w0 := w) (e := e) (y := .slice (some ⟨w.heap.size, 0, none⟩) n.toNat n.toNat) (c := (Array.range (n.toNat * (s + 1))).map (fun i => zv.cells[i % zv.cells.size]!)) rfl rfl rfl rfl ?_ hcc hcl ?_
        · have hc1 : ¬ (n < 0) := by omega
          have hc2 : ¬ (281474976710656 < (i.bytes : Int) * n) := by omega
          simp only [execOp, ho, hx', hy', Instr.makeSlice, Sem.run_bind, und_run hE hu, Result.andThen_ok, asInt, asIntOf, Sem.run_pure, typeInfo, run_program, hi, hw]
          by_cases hn0 : n.toNat * (s + 1) = 0
          · have hn : n.toNat = 0 := by
              rcases Nat.mul_eq_zero.1 hn0 with h | h <;> omega
            have e2 : ∀ f : Nat → Value, Array.map f (Array.range 0) = #[] := fun f => by apply Array.ext'; simp [Array.toList_range]
            simp [hc1, hc2, sizeOf, typeInfo, hi, hn, newRow, e2]
          · simp [hc1, hc2, sizeOf, typeInfo, hi, his, hn0, hzr, newRow]
        · exact reid_slice rfl (Nat.le_refl _) (fun _ _ => by simp)
      · simp at hop
    · simp at hop
  · simp at hop

theorem ap_convert (hE : E.Ok) (hR : RegRel ι rg a.tmps) {s d : TypeId} {x : Operand} (ho : o.op = .convert s d x) (hc0 : clsOf E o = .alloc) (hop : opA E rg h o = some (r, h')) :
    AllocPost ι h w r h' ((execOp a.eval o).run E.P w) := by
  simp only [opA, ho] at hop
  split at hop
  · rename_i sd k q n hs hd hx
    simp [clsOf, ho, hd] at hc0
  · rename_i l hs hd hx
    simp [clsOf, ho, hd] at hc0
  · rename_i e l hs hd hx
    split at hop
    · rename_i he
      split at hop
      · simp at hop
      · simp at hop; obtain ⟨rfl, rfl⟩ := hop
        have hx' := (evA_rel hR hx).str_inv
        have hsz : ({ data := l.toArray } : ByteArray).size = l.length := by simp [ByteArray.size]
        obtain ⟨cap, hcap, hrun0⟩ : ∃ cap, l.length ≤ cap ∧ (choose (.appendCap ({ data := l.toArray } : ByteArray).size 0 e)).run E.P w = .ok cap w.drew :=
          ⟨grownCap w ({ data := l.toArray } : ByteArray).size 0 e, by have := grownCap_ge w ({ data := l.toArray } : ByteArray).size 0 e; omega, by simp [Question.forced, grownCap]⟩
        obtain ⟨c, hc⟩ : ∃ c : Array Value, c = (l.toArray.map fun b => Value.int .u8 b.toNat) ++ Array.replicate (cap - l.length) (.int .u8 0) := ⟨_, rfl⟩
        have hcs : c.size = cap := by rw [hc]; simp; omega
        have hnew : (w.drew.alloc (.cells c e)).heap[w.heap.size]? = some (.cells c e) := heap_alloc_new w.drew _
        have hsh : (w.drew.alloc (.cells c e)).shape? w.heap.size = some (e, c.size) := by simp only [World.shape?, hnew]
        have hrun : (execOp a.eval o).run E.P w = .ok (.value (.slice (some ⟨w.heap.size, 0, none⟩) l.length cap)) ((w.drew.alloc (.cells c e)).freeze ⟨w.heap.size, c.size, none⟩ 1) := by
          have hsh' : ({ w.drew with heap := w.drew.heap.push (.cells c e) } : World).shape? w.heap.size = some (e, c.size) := hsh
          have hm : (markStringish ⟨w.heap.size, 0, none⟩).run E.P (w.drew.alloc (.cells c e)) = .ok () ((w.drew.alloc (.cells c e)).freeze ⟨w.heap.size, c.size, none⟩ 1) := by
            simp only [markStringish, Sem.run_bind, run_shape, hsh, Result.andThen_ok, run_freeze]
          have hn : (newRow e c).run E.P w.drew = .ok ⟨w.heap.size, 0, none⟩ (w.drew.alloc (.cells c e)) := rfl
          have hx2 : (Conv.stringToBytes e ⟨l.toArray⟩).run E.P w = .ok (.slice (some ⟨w.heap.size, 0, none⟩) l.length cap) ((w.drew.alloc (.cells c e)).freeze ⟨w.heap.size, c.size, none⟩ 1) := by
            simp only [Conv.stringToBytes, Sem.run_bind, hrun0, Result.andThen_ok]
            rw [hsz, ← hc]
            simp only [hn, Result.andThen_ok, hm, Sem.run_pure]
          simp [execOp, ho, hx', convert, und_run hE hs, und_run hE hd, und_run hE he, hx2]
        have hb0 : ((w.drew.alloc (.cells c e)).freeze ⟨w.heap.size, c.size, none⟩ 1).heap[w.heap.size]? = some (.cells c e (c.size, c.size + 1)) := by
          simp only [World.freeze]
          rw [if_neg (by omega)]
          simp only [Array.getElem?_modify]
          rw [if_pos trivial, hnew]; rfl
        have hold : ∀ b, b < w.heap.size → ((w.drew.alloc (.cells c e)).freeze ⟨w.heap.size, c.size, none⟩ 1).heap[b]? = w.heap[b]? := by
          intro b hb
          have : w.heap.size ≠ b := by omega
          simp [World.freeze, Array.getElem?_modify, this]
          exact heap_alloc_old w.drew _ b hb
        refine ⟨_, _, _, _, ⟨w.heap.size, 0, c.size, 1, false⟩, rfl, rfl, rfl, hrun, by simp only [World.freeze]; rw [if_neg (by omega)]; simp only [Array.size_modify]; exact Nat.le_of_lt (Array.getElem?_eq_some_iff.1 hnew).1, hold, by rfl, by rfl, by rfl, Nat.le_refl _,
          fun n hn => ⟨⟨rfl, rfl, by simp [hcs, hcap], c, e, _, hb0, by simp, ?_⟩, reid_slice rfl hcap (by simp) _ n (Inj.add_same _ _ _)⟩⟩
        intro i x hx
        simp at hx
        obtain ⟨b, hb, rfl⟩ := hx
        have hi : i < l.length := (List.getElem?_eq_some_iff.1 hb).1
        refine ⟨.int .u8 b.toNat, ?_, .int _ _⟩
        obtain ⟨_, rfl⟩ := List.getElem?_eq_some_iff.1 hb
        rw [hc]
        simp [hi, Array.getElem?_append]
    · simp at hop
  · simp at hop

theorem ap_any (hE : E.Ok) (hR : RegRel ι rg a.tmps) (hc : clsOf E o = .alloc) (hop : opA E rg h o = some (r, h')) : AllocPost ι h w r h' ((execOp a.eval o).run E.P w) := by
  cases ho : o.op with
  | alloc e => exact ap_alloc hE ho hop
  | box e x => exact ap_box hE hR ho hop
  | buildSlice t n ps => exact ap_buildSlice hE hR ho hop
  | makeMap t x => exact ap_makeMap ho hop
  | makeSlice t l c => exact ap_makeSlice hE hR ho hop
  | convert s d x => exact ap_convert hE hR ho hc hop
  | call c =>
    simp only [clsOf, ho] at hc
    split at hc <;> simp at hc
  | _ => simp [clsOf, ho] at hc
/-- Pure operations and reads leave the world. -/
theorem still_convert (hE : E.Ok) (hR : RegRel ι rg a.tmps) (hH : HRel ι h w) {s d : TypeId} {x : Operand} (ho : o.op = .convert s d x) (hc : clsOf E o ≠ .alloc) (hop : opA E rg h o = some (r, h')) :
    OpPure ι h w r h' ((execOp a.eval o).run E.P w) := by
  simp only [opA, ho] at hop
  split at hop
  · rename_i sd k q n hs hd hx
    split at hop
    · rename_i v hv
      simp at hop; obtain ⟨rfl, rfl⟩ := hop
      obtain ⟨y, hy, hr⟩ := pureAV_run hv ι E.P w
      refine .pure hH (y := y) ?_ hr
      have hx' := (evA_rel hR hx).int_inv
      simp [execOp, ho, hx', convert, und_run hE hs, und_run hE hd, hy]
    · simp at hop
  · rename_i l hs hd hx
    simp at hop; obtain ⟨rfl, rfl⟩ := hop
    have hx' := (evA_rel hR hx).str_inv
    refine .pure hH (y := a.eval x) ?_ (evA_rel hR hx)
    simp [execOp, ho, hx', convert, und_run hE hs, und_run hE hd]
  · rename_i e l hs hd hx
    simp [clsOf, ho, hd] at hc
  · simp at hop

theorem still_call (hE : E.Ok) (hR : RegRel ι rg a.tmps) (hH : HRel ι h w) {c : Call} (ho : o.op = .call c) (hc : clsOf E o = .pure ∨ clsOf E o = .read) (hop : opA E rg h o = some (r, h')) :
    OpPure ι h w r h' ((execOp a.eval o).run E.P w) := by
  cases hcal : c.callee with
  | value f => simp [clsOf, ho, hcal] at hc
  | invoke x m => simp [clsOf, ho, hcal] at hc
  | builtin b =>
    simp only [opA, ho, hcal] at hop
    cases hargs : evAs rg c.args.toList with
    | none => simp [hargs] at hop
    | some args =>
      simp only [hargs] at hop
      cases b <;> first | (simp [clsOf, ho, hcal] at hc; done) | skip
      case len =>
        match args, hop, hargs with
        | [], hop, _ => simp at hop
        | _ :: _ :: _, hop, _ => simp at hop
        | [x], hop, hargs =>
          simp only at hop
          obtain ⟨u, hu, hx⟩ := evAs_one hR hargs
          split at hop
          · rename_i t ht
            split at hop
            · rename_i v hv
              simp at hop; obtain ⟨rfl, rfl⟩ := hop
              obtain ⟨y, hy, hr⟩ := len_sound hE hH (ty := o.type) hx ht hv
              exact .pure hH (by rw [exec_builtin ho hcal _ fun _ => by rw [hu]; rfl, hy]; rfl) hr
            · simp at hop
          · simp at hop
      case max =>
        split at hop
        all_goals first | contradiction | (simp at hop; done) | skip
        obtain ⟨u, v, huv, hs, hx⟩ := evAs_two hR hargs
        simp at hop; obtain ⟨rfl, rfl⟩ := hop
        have h1 := hs.int_inv; have h2 := hx.int_inv
        subst h1 h2
        exact .pure hH (by rw [exec_builtin ho hcal _ fun _ => by rw [huv]; rfl]; simp [Builtin.max_, Builtin.max2]) (.int _ _)
      case min =>
        split at hop
        all_goals first | contradiction | (simp at hop; done) | skip
        obtain ⟨u, v, huv, hs, hx⟩ := evAs_two hR hargs
        simp at hop; obtain ⟨rfl, rfl⟩ := hop
        have h1 := hs.int_inv; have h2 := hx.int_inv
        subst h1 h2
        exact .pure hH (by rw [exec_builtin ho hcal _ fun _ => by rw [huv]; rfl]; simp [Builtin.min_, Builtin.min2]) (.int _ _)

theorem opA_still (hE : E.Ok) (hR : RegRel ι rg a.tmps) (hH : HRel ι h w) (hc : clsOf E o = .pure ∨ clsOf E o = .read) (hop : opA E rg h o = some (r, h')) :
    OpPure ι h w r h' ((execOp a.eval o).run E.P w) := by
  cases ho : o.op with
  | move x => exact op_move hR hH (.inl ho) hop
  | assign x => exact op_move hR hH (.inr ho) hop
  | pick c x y => exact op_pick hR hH ho hop
  | build t ps => exact op_build hE hR hH ho hop
  | load t x => exact op_load hE hR hH ho hop
  | nilCheck x => exact op_nilCheck hR hH ho hop
  | binOp op t x y u => exact op_binOp hE hR hH ho hop
  | unOp op t x => exact op_unOp hR hH ho hop
  | convert s d x => exact still_convert hE hR hH ho (by rcases hc with h | h <;> rw [h] <;> simp) hop
  | makeInterface t x => exact op_makeInterface hE hR hH ho hop
  | makeFunc f x c => exact op_makeFunc hR hH ho hop
  | slice t x l u m => exact op_slice hE hR hH ho hop
  | fieldAddr s x f => exact op_fieldAddr hE hR hH ho hop
  | field s x f => exact op_field hE hR hH ho hop
  | indexAddr t x i => exact op_indexAddr hE hR hH ho hop
  | index t x i => exact op_index hE hR hH ho hop
  | lookup t x i ok => exact op_lookup hE hR hH ho hop
  | typeAssert x t u ok => exact op_typeAssert hE hR hH ho hop
  | extract t i => exact op_extract hR hH ho hop
  | call c => exact still_call hE hR hH ho hc hop
  | _ => simp [clsOf, ho] at hc
end Go.Am
