/-
  Proves that conversions and iterators of the abstract machine stand for the model's. Each theorem states its own conditions; there are no others.
-/
import Derived.Test.YtdanfdimpcldiaaGreatDoorAm10
set_option linter.unusedSimpArgs false
set_option linter.unusedVariables false
set_option linter.unusedVariables false
set_option linter.unusedSectionVars false
namespace Go.Am
variable [Base]
variable {E : Env} {ι : Inj} {h h' : AHeap} {w : World} {rg : T AV} {a : Act} {o : Oper} {r : ORes}

theorem op_makeSlice (hE : E.Ok) (hR : RegRel ι rg a.tmps) (hH : HRel ι h w) {t : TypeId} {x y : Operand} (ho : o.op = .makeSlice t x y) (hop : opA E rg h o = some (r, h')) :
    OpPost ι h w r h' ((execOp a.eval o).run E.P w) := by
  simp only [opA, ho] at hop
  split at hop
  · rename_i e n n' hu hx hy
    split at hop
    · rename_i s b z hs hb hz
      split at hop
      · rename_i hc
        obtain ⟨rfl, h0, hroom, hzl⟩ := hc
        simp at hop; obtain ⟨rfl, rfl⟩ := hop
        obtain ⟨zv, hzr, hzv, _, _⟩ := zero_run hE hz w
        obtain ⟨i, hi, hib⟩ := hE.byt e b hb
        obtain ⟨i', hi', his⟩ := hE.siz e _ hs
        rw [hi] at hi'; cases hi'
        have hzrel := toAVs_rel ι hzv
        have hrep := replicate_cells (len := n.toNat) hzrel hzl
        obtain ⟨hcc, hcl⟩ := rel_cells hrep
        have hx' := (evA_rel hR hx).int_inv
        have hy' := (evA_rel hR hy).int_inv
        have hroom2 : n.toNat ≤ roomy := Nat.le_trans (Nat.le_mul_of_pos_right _ (by omega)) hroom
        have hr : roomy = 1073741824 := rfl
        have hw : IntKind.i64.wrap n = n := by
          have h1 : n = (n.toNat : Int) := by omega
          rw [IntKind.wrap_i64]; omega
        have hbn : (i.bytes : Int) * n ≤ 1073741824 := by
          have h1 : i.bytes * n.toNat ≤ (b + 1) * n.toNat := Nat.mul_le_mul_right _ hib
          rw [Nat.mul_comm (b + 1)] at h1
          have h2 : i.bytes * n.toNat ≤ 1073741824 := by omega
          have h3 : (n.toNat : Int) = n := by omega
          have h4 : ((i.bytes * n.toNat : Nat) : Int) ≤ ((1073741824 : Nat) : Int) := Int.ofNat_le.2 h2
          rw [Int.natCast_mul, h3] at h4
          exact h4
        have hsz : ((Array.range (n.toNat * (s + 1))).map (fun i => zv.cells[i % zv.cells.size]!)).size = n.toNat * (s + 1) := by simp
        refine .val (y := .slice (some ⟨w.heap.size, 0, none⟩) n.toNat n.toNat) (w' := w.alloc (.cells ((Array.range (n.toNat * (s + 1))).map (fun i => zv.cells[i % zv.cells.size]!)) e))
          (ι' := ι.add h.next ⟨w.heap.size, 0, _, s + 1, true⟩) ?_ ?_ (new_cells hH rfl rfl rfl rfl true (s + 1) e hcc hcl)
        · have hc1 : ¬ (n < 0) := by omega
          have hc2 : ¬ (281474976710656 < (i.bytes : Int) * n) := by omega
          simp only [execOp, ho, hx', hy', Instr.makeSlice, Sem.run_bind, und_run hE hu, Result.andThen_ok, asInt, asIntOf, Sem.run_pure, typeInfo, run_program, hi, hw]
          by_cases hn0 : n.toNat * (s + 1) = 0
          · have hn : n.toNat = 0 := by
              rcases Nat.mul_eq_zero.1 hn0 with h | h <;> omega
            have e2 : ∀ f : Nat → Value, Array.map f (Array.range 0) = #[] := fun f => by apply Array.ext'; simp [Array.toList_range]
            simp [hc1, hc2, sizeOf, typeInfo, hi, hn, newRow, e2]
          · simp [hc1, hc2, sizeOf, typeInfo, hi, his, hn0, hzr, newRow]
        · refine .slice (off := 0) (L := ⟨w.heap.size, 0, _, s + 1, true⟩) (Inj.add_same _ _ _) (Nat.le_refl _) (fun _ _ => ?_)
          simp
      · simp at hop
    · simp at hop
  · simp at hop

theorem VRel.slice_inv {i off len : Nat} {v : Value} (h : VRel ι (.slice (some (i, off)) len) v) :
    (∃ L cap, ι i = some L ∧ len ≤ cap ∧ (L.rw = true → 0 < L.es → L.base + off + cap * L.es = L.top) ∧ v = .slice (some ⟨L.b, L.base + off, none⟩) len cap) ∨
    (∃ L a, ι i = some L ∧ (L.rw = true → 0 < L.es → L.base + off = L.top) ∧ len = 0 ∧ v = .slice (some a) 0 0) := by
  cases h with
  | slice h hc ht => exact .inl ⟨_, _, h, hc, ht, rfl⟩
  | sliceEnd h ht => exact .inr ⟨_, _, h, ht, rfl, rfl⟩
theorem VRel.slice_nil_inv {len : Nat} {v : Value} (h : VRel ι (.slice none len) v) : len = 0 ∧ v = .slice none 0 0 := by
  cases h; exact ⟨rfl, rfl⟩

theorem op_slice (hE : E.Ok) (hR : RegRel ι rg a.tmps) (hH : HRel ι h w) {t : TypeId} {x : Operand} {lo hi mx : Option Operand} (ho : o.op = .slice t x lo hi mx) (hop : opA E rg h o = some (r, h')) :
    OpPure ι h w r h' ((execOp a.eval o).run E.P w) := by
  cases mx with
  | some m => simp [opA, ho] at hop
  | none =>
    simp only [opA, ho] at hop
    split at hop
    · rename_i s hu hx
      split at hop
      · rename_i l r' hb
        simp at hop; obtain ⟨rfl, rfl⟩ := hop
        have hx' := (evA_rel hR hx).str_inv
        have hsz : ({ data := s.toArray } : ByteArray).size = s.length := by simp [ByteArray.size]
        obtain ⟨h1, h2, h3⟩ := boundsA_run hR E.P hb (Nat.le_refl _) false w
        refine .pure hH (y := .string ⟨((s.take r').drop l).toArray⟩) ?_ (.str _)
        have hext : ({ data := s.toArray } : ByteArray).extract l r' = ⟨((s.take r').drop l).toArray⟩ := by
          apply ByteArray.ext
          rw [ByteArray.data_extract]
          apply Array.ext'
          simp [List.extract_eq_take_drop, List.drop_take]
        simp [execOp, ho, hx', Instr.sliceAt, Instr.slice, und_run hE hu, hsz, h1, hext]
      · simp at hop
    · rename_i e p len hu hx
      split at hop
      · rename_i s l r' hs hb
        split at hop
        · rename_i i off
          split at hop
          · rename_i rw es cs ho1
            split at hop
            · rename_i hcond
              simp at hop; obtain ⟨rfl, rfl⟩ := hop
              rcases (evA_rel hR hx).slice_inv with ⟨L, cap, hL, hc, ht, hxe⟩ | ⟨L, ad, hL, ht, rfl, hxe⟩
              · obtain ⟨h1, h2, h3⟩ := boundsA_run hR E.P hb hc true w
                obtain ⟨hrw, hes, _, _⟩ := hH.cells hL ho1
                refine .pure hH (y := .slice (some (if cap = l then ⟨L.b, L.base + off, none⟩ else (⟨L.b, L.base + off, none⟩ : Addr).add (l * (s + 1)))) (r' - l) (cap - l)) ?_ ?_
                · simp only [execOp, ho, hxe, Instr.sliceAt, Sem.run_bind, und_run hE hu, Result.andThen_ok, Option.map_none, Instr.slice, h1, sizeOf_run hE hs, Sem.run_pure]
                  split <;> simp_all
                · by_cases hcl : cap = l
                  · rw [if_pos hcl]
                    have e1 : r' - l = 0 := by omega
                    have e2 : cap - l = 0 := by omega
                    rw [e1, e2]
                    refine .sliceEnd hL fun h1 h2 => ?_
                    have hes' : L.es = s + 1 := by
                      rw [hrw] at h1; subst h1; rw [hes] at h2 ⊢
                      simp at hcond; omega
                    have := ht h1 h2
                    rw [hes', hcl] at this; omega
                  · rw [if_neg hcl, addr_add, Nat.add_assoc]
                    refine .slice hL (by omega) fun h1 h2 => ?_
                    have hes' : L.es = s + 1 := by
                      rw [hrw] at h1; subst h1; rw [hes] at h2 ⊢
                      simp at hcond; omega
                    have := ht h1 h2
                    rw [hes'] at this ⊢
                    have hm : cap * (s + 1) = l * (s + 1) + (cap - l) * (s + 1) := by rw [← Nat.add_mul]; congr 1; omega
                    omega
              · obtain ⟨h1, h2, h3⟩ := boundsA_run hR E.P hb (Nat.le_refl 0) true w
                have e1 : l = 0 := by omega
                have e2 : r' = 0 := by omega
                subst e1; subst e2
                refine .pure hH (y := .slice (some ad) 0 0) ?_ (by simpa using VRel.sliceEnd (a := ad) hL ht)
                simp [execOp, ho, hxe, Instr.sliceAt, und_run hE hu, Instr.slice, h1, sizeOf_run hE hs]
            · simp at hop
          · simp at hop
        · simp at hop; obtain ⟨rfl, rfl⟩ := hop
          obtain ⟨rfl, hxe⟩ := (evA_rel hR hx).slice_nil_inv
          obtain ⟨h1, h2, h3⟩ := boundsA_run hR E.P hb (Nat.le_refl 0) true w
          have e1 : l = 0 := by omega
          have e2 : r' = 0 := by omega
          subst e1; subst e2
          refine .pure hH (y := .slice none 0 0) ?_ .sliceNil
          simp [execOp, ho, hxe, Instr.sliceAt, und_run hE hu, Instr.slice, h1, sizeOf_run hE hs]
      · simp at hop
    · rename_i n e i off hu hx
      split at hop
      · rename_i s l r' rw es cs hs hb ho1
        split at hop
        · rename_i hcond
          simp at hop; obtain ⟨rfl, rfl⟩ := hop
          obtain ⟨L, hL, hxe⟩ := (evA_rel hR hx).ptr_inv
          obtain ⟨hrw, hes, _, _⟩ := hH.cells hL ho1
          obtain ⟨h1, h2, h3⟩ := boundsA_run hR E.P hb (Nat.le_refl n) false w
          have hno : L.rw = true → 0 < L.es → False := by
            rw [hrw, hes]; intro h1 h2; simp [h1] at hcond; omega
          refine .pure hH (y := .slice (some (if n = l then ⟨L.b, L.base + off, none⟩ else (⟨L.b, L.base + off, none⟩ : Addr).add (l * (s + 1)))) (r' - l) (n - l)) ?_ ?_
          · simp only [execOp, ho, hxe, Instr.sliceAt, Instr.sureAddr, Sem.run_bind, und_run hE hu, Result.andThen_ok, Option.map_none, h1, sizeOf_run hE hs, Sem.run_pure]
          · by_cases hcl : n = l
            · rw [if_pos hcl]
              have e1 : r' - l = 0 := by omega
              have e2 : n - l = 0 := by omega
              rw [e1, e2]
              exact .sliceEnd hL fun h1 h2 => (hno h1 h2).elim
            · rw [if_neg hcl, addr_add, Nat.add_assoc]
              exact .slice hL (by omega) fun h1 h2 => (hno h1 h2).elim
        · simp at hop
      · simp at hop
    · simp at hop

theorem op_fieldAddr (hE : E.Ok) (hR : RegRel ι rg a.tmps) (hH : HRel ι h w) {t : TypeId} {x : Operand} {f : Nat} (ho : o.op = .fieldAddr t x f) (hop : opA E rg h o = some (r, h')) :
    OpPure ι h w r h' ((execOp a.eval o).run E.P w) := by
  simp only [opA, ho] at hop
  split at hop
  · rename_i fs i off hu hx
    split at hop
    · rename_i fd hf
      split at hop
      · rename_i n hs
        simp at hop; obtain ⟨rfl, rfl⟩ := hop
        obtain ⟨L, hL, hxe⟩ := (evA_rel hR hx).ptr_inv
        have hfp : (fieldPlace ⟨L.b, L.base + off, none⟩ fd).run E.P w = .ok ⟨L.b, L.base + (off + fd.offset), none⟩ w := by
          simp [fieldPlace, sizeOf_run hE hs, addr_add, Nat.add_assoc]
        refine .pure hH (y := .pointer (some ⟨L.b, L.base + (off + fd.offset), none⟩)) ?_ (.ptr hL)
        simp [execOp, ho, hxe, Instr.fieldAt, und_run hE hu, hf, Instr.sureAddr, hfp]
      · simp at hop
    · simp at hop
  · simp at hop

theorem partA_run (hE : E.Ok) {t : TypeId} {cs : List AV} {off : Nat} {v : AV} {c : Array Value} (hc : VsRel ι cs c.toList) (hp : partA E t cs off = some v) (w : World) :
    ∃ y, (part t c off).run E.P w = .ok y w ∧ VRel ι v y := by
  unfold partA at hp
  split at hp
  · rename_i n hag hs
    split at hp
    · rename_i hlen
      simp at hp; subst hp
      refine ⟨.agg (c.extract off (off + n)), by simp [part, isAgg_run hE hag, sizeOf_run hE hs], .agg' ?_⟩
      have : (c.extract off (off + n)).toList = (c.toList.drop off).take n := by
        simp [List.extract_eq_take_drop]
      rw [this]
      exact (hc.drop off).take n
    · simp at hp
  · rename_i n hag hs
    obtain ⟨y, hy, hr⟩ := hc.get hp
    rw [Array.getElem?_toList] at hy
    exact ⟨y, by simp [part, isAgg_run hE hag, hy], hr⟩
  · simp at hp

theorem op_field (hE : E.Ok) (hR : RegRel ι rg a.tmps) (hH : HRel ι h w) {t : TypeId} {x : Operand} {f : Nat} (ho : o.op = .field t x f) (hop : opA E rg h o = some (r, h')) :
    OpPure ι h w r h' ((execOp a.eval o).run E.P w) := by
  simp only [opA, ho] at hop
  split at hop
  · rename_i fs cs hu hx
    split at hop
    · rename_i fd hf
      split at hop
      · rename_i v hv
        simp at hop; obtain ⟨rfl, rfl⟩ := hop
        obtain ⟨c, hxe, hc⟩ := (evA_rel hR hx).agg_inv
        obtain ⟨y, hy, hr⟩ := partA_run hE hc hv w
        exact .pure hH (y := y) (by simp [execOp, ho, hxe, Instr.field, und_run hE hu, hf, asAgg, hy]) hr
      · simp at hop
    · simp at hop
  · simp at hop

theorem op_indexAddr (hE : E.Ok) (hR : RegRel ι rg a.tmps) (hH : HRel ι h w) {t : TypeId} {x ix : Operand} (ho : o.op = .indexAddr t x ix) (hop : opA E rg h o = some (r, h')) :
    OpPure ι h w r h' ((execOp a.eval o).run E.P w) := by
  simp only [opA, ho] at hop
  split at hop
  · rename_i e i off len k n hu hx hi
    split at hop
    · rename_i s hs
      split at hop
      · rename_i hc
        simp at hop; obtain ⟨rfl, rfl⟩ := hop
        have hie := (evA_rel hR hi).int_inv
        rcases (evA_rel hR hx).slice_inv with ⟨L, cap, hL, hcap, ht, hxe⟩ | ⟨L, ad, hL, ht, rfl, hxe⟩
        · refine .pure hH (y := .pointer (some ⟨L.b, L.base + (off + n.toNat * s), none⟩)) ?_ (.ptr hL)
          simp [execOp, ho, hxe, hie, Instr.indexAt, und_run hE hu, asIntOf, hc, sizeOf_run hE hs, addr_add, Nat.add_assoc]
        · omega
      · simp at hop
    · simp at hop
  · rename_i len e i off k n hu hx hi
    split at hop
    · rename_i s hs
      split at hop
      · rename_i hc
        simp at hop; obtain ⟨rfl, rfl⟩ := hop
        have hie := (evA_rel hR hi).int_inv
        obtain ⟨L, hL, hxe⟩ := (evA_rel hR hx).ptr_inv
        refine .pure hH (y := .pointer (some ⟨L.b, L.base + (off + n.toNat * s), none⟩)) ?_ (.ptr hL)
        simp [execOp, ho, hxe, hie, Instr.indexAt, Instr.sureAddr, und_run hE hu, asIntOf, hc, sizeOf_run hE hs, addr_add, Nat.add_assoc]
      · simp at hop
    · simp at hop
  · simp at hop

theorem op_index (hE : E.Ok) (hR : RegRel ι rg a.tmps) (hH : HRel ι h w) {t : TypeId} {x ix : Operand} (ho : o.op = .index t x ix) (hop : opA E rg h o = some (r, h')) :
    OpPure ι h w r h' ((execOp a.eval o).run E.P w) := by
  simp only [opA, ho] at hop
  split at hop
  · rename_i s k n hu hx hi
    split at hop
    · rename_i hn
      split at hop
      · rename_i b hb
        simp at hop; obtain ⟨rfl, rfl⟩ := hop
        have hie := (evA_rel hR hi).int_inv
        have hxe := (evA_rel hR hx).str_inv
        have hget : (⟨s.toArray⟩ : ByteArray)[n.toNat]? = some b := by
          have hlt : n.toNat < s.length := (List.getElem?_eq_some_iff.1 hb).1
          have h2 := (List.getElem?_eq_some_iff.1 hb).2
          have hsz : n.toNat < (⟨s.toArray⟩ : ByteArray).size := by simpa [ByteArray.size] using hlt
          rw [getElem?_pos (⟨s.toArray⟩ : ByteArray) n.toNat hsz]
          simp [ByteArray.getElem_eq_getElem_data, h2]
        exact .pure hH (y := .int .u8 b.toNat) (by simp [execOp, ho, hxe, hie, Instr.index, und_run hE hu, asIntOf, hn, hget]) (.int _ _)
      · simp at hop
    · simp at hop
  · rename_i len e cs k n hu hx hi
    split at hop
    · rename_i s hs
      split at hop
      · rename_i hc
        split at hop
        · rename_i v hv
          simp at hop; obtain ⟨rfl, rfl⟩ := hop
          have hie := (evA_rel hR hi).int_inv
          obtain ⟨c, hxe, hcr⟩ := (evA_rel hR hx).agg_inv
          obtain ⟨y, hy, hr⟩ := partA_run hE hcr hv w
          exact .pure hH (y := y) (by simp [execOp, ho, hxe, hie, Instr.index, und_run hE hu, asIntOf, hc, sizeOf_run hE hs, hy]) hr
        · simp at hop
      · simp at hop
    · simp at hop
  · simp at hop

theorem op_extract (hR : RegRel ι rg a.tmps) (hH : HRel ι h w) {x : Operand} {i : Nat} (ho : o.op = .extract x i) (hop : opA E rg h o = some (r, h')) :
    OpPure ι h w r h' ((execOp a.eval o).run E.P w) := by
  simp only [opA, ho] at hop
  split at hop
  · rename_i vs hx
    split at hop
    · rename_i v hv
      simp at hop; obtain ⟨rfl, rfl⟩ := hop
      obtain ⟨c, hxe, hc⟩ := (evA_rel hR hx).tup_inv
      obtain ⟨y, hy, hr⟩ := hc.get hv
      rw [Array.getElem?_toList] at hy
      exact .pure hH (y := y) (by simp [execOp, ho, hxe, Instr.extract, hy]) hr
    · simp at hop
  · simp at hop
end Go.Am
