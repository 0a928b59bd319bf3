/-
  Proves the abstract machine's forms of some of the library's functions on strings right, where their contracts hold. Each theorem states its own conditions; there are no others.
-/
import Derived.Test.YtdanfdimpcldiaaGreatDoorAm52
import Derived.Lib.SlTrimSet
import Derived.Lib.AtoiAll
import Derived.Lib.ConvBytes
import Derived.Shelf.Strings.Trim
import Derived.Below
set_option linter.unusedSimpArgs false
set_option linter.unusedVariables false
set_option linter.unusedVariables false
set_option linter.unusedSectionVars false
namespace Go.Am

theorem Grew.of_below {w w' : World} (h : RowKit.Below w.heap.size w w') : Grew w w' := ⟨h.size, h.block, h.os, h.tape, h.output⟩
variable [Base]

/-- A function on values alone, as a prim. -/
def valPrim (f : List AV → Option AV) : List AV → AHeap → Option (Out × AHeap) := fun args h =>
  match f args with
  | some v => some (.ret v, h)
  | none => none
theorem valPrim_ok {P : Program} {k : FuncId} {f : List AV → Option AV}
    (hc : ∀ {ι : Inj} {args : List AV} {v : AV} {args' : Array Value} (w : World), f args = some v → VsRel ι args args'.toList → Calls P k args' w fun e w' => (∃ y, e = .returned y ∧ VRel ι v y) ∧ Grew w w')
    {args : List AV} {h : AHeap} {out : Out} {h' : AHeap} {ι : Inj} {w : World} {args' : Array Value} (hf : valPrim f args h = some (out, h')) (hH : HRel ι h w) (hv : VsRel ι args args'.toList) :
    CallsIn Fence.wide 0 P k args' w fun e w' => ∃ ι', Ext ι h w ι' h' w' ∧ OutRel ι' out e := by
  unfold valPrim at hf
  split at hf
  · rename_i v hv1
    simp only [Option.some.injEq, Prod.mk.injEq] at hf
    obtain ⟨rfl, rfl⟩ := hf
    refine prim_of_calls hH ((hc w hv1 hv).mono fun e w' ⟨⟨y, h1, h2⟩, h3⟩ => ⟨?_, h3⟩)
    subst h1
    exact h2
  · cases hf

theorem args2 {ι : Inj} {a b : List UInt8} {args' : Array Value} (h : VsRel ι [.str a, .str b] args'.toList) : args' = #[.string ⟨a.toArray⟩, .string ⟨b.toArray⟩] := by
  obtain ⟨y, ys, e1, h1, hr⟩ := h.inv
  obtain ⟨z, zs, e2, h2, hr2⟩ := hr.inv
  have := hr2.inv_nil
  subst this
  cases h1
  cases h2
  apply Array.ext'; simpa [e2] using e1
theorem args1 {ι : Inj} {a : List UInt8} {args' : Array Value} (h : VsRel ι [.str a] args'.toList) : args' = #[.string ⟨a.toArray⟩] := by
  obtain ⟨y, ys, e1, h1, hr⟩ := h.inv
  have := hr.inv_nil
  subst this
  cases h1
  apply Array.ext'; simpa using e1
theorem argsSC {ι : Inj} {a : List UInt8} {c : Int} {args' : Array Value} (h : VsRel ι [.str a, .int .u8 c] args'.toList) : args' = #[.string ⟨a.toArray⟩, .int .u8 c] := by
  obtain ⟨y, ys, e1, h1, hr⟩ := h.inv
  obtain ⟨z, zs, e2, h2, hr2⟩ := hr.inv
  have := hr2.inv_nil
  subst this
  cases h1
  cases h2
  apply Array.ext'; simpa [e2] using e1

/-! ### strings.IndexByte, Trim, TrimRight, CutPrefix, CutSuffix -/
def ibF : List AV → Option AV
  | [.str s, .int .u8 c] => some (.int .i64 (Lib.indexByte s c.toNat.toUInt8))
  | _ => none
theorem ibF_ok {P : Program} {k : FuncId} (hc : ∀ (s : ByteArray) (c : Int) (w : World), Calls P k #[.string s, .int .u8 c] w fun e w' => e = .returned (.int .i64 (Lib.indexByte s.data.toList c.toNat.toUInt8)) ∧ w' = w)
    {ι : Inj} {args : List AV} {v : AV} {args' : Array Value} (w : World) (hf : ibF args = some v) (hv : VsRel ι args args'.toList) : Calls P k args' w fun e w' => (∃ y, e = .returned y ∧ VRel ι v y) ∧ Grew w w' := by
  unfold ibF at hf
  split at hf
  · simp only [Option.some.injEq] at hf
    subst hf
    rw [argsSC hv]
    exact (hc _ _ w).mono fun e w' ⟨h1, h2⟩ => ⟨⟨_, h1, by simpa using VRel.int _ _⟩, h2 ▸ Grew.refl w⟩
  · cases hf
def ascii (cs : List UInt8) : Bool := cs.all fun b => decide (b.toNat < 128)
def trimF : List AV → Option AV
  | [.str s, .str cs] => if s.length ≤ 9223372036854775807 ∧ cs.length < 4294967281 ∧ ascii cs = true then some (.str (Lib.trimS s cs)) else none
  | _ => none
theorem trimF_ok {P : Program} {k : FuncId} (hc : ∀ (s cs : ByteArray) (w : World), s.size ≤ 9223372036854775807 → cs.size < 4294967281 → (∀ (j : Nat) (b : UInt8), cs.data.toList[j]? = some b → b.toNat < 128) →
      Calls P k #[.string s, .string cs] w fun e w' => e = .returned (.string ⟨(Lib.trimS s.data.toList cs.data.toList).toArray⟩) ∧ RowKit.Below w.heap.size w w')
    {ι : Inj} {args : List AV} {v : AV} {args' : Array Value} (w : World) (hf : trimF args = some v) (hv : VsRel ι args args'.toList) : Calls P k args' w fun e w' => (∃ y, e = .returned y ∧ VRel ι v y) ∧ Grew w w' := by
  unfold trimF at hf
  split at hf
  · rename_i s cs
    split at hf
    · rename_i hif
      simp only [Option.some.injEq] at hf
      subst hf
      rw [args2 hv]
      refine (hc _ _ w (by simpa [ByteArray.size] using hif.1) (by simpa [ByteArray.size] using hif.2.1) (fun j b hb => ?_)).mono fun e w' ⟨h1, h2⟩ => ⟨⟨_, h1, by simpa using VRel.str _⟩, .of_below h2⟩
      have := List.all_eq_true.1 hif.2.2 b (List.mem_of_getElem? (by simpa using hb))
      simpa using this
    · cases hf
  · cases hf
def trimRF : List AV → Option AV
  | [.str s, .str [c]] => if s.length ≤ 9223372036854775807 ∧ c.toNat < 128 then some (.str (Lib.trimRightB s c)) else none
  | _ => none
theorem trimRF_ok {P : Program} {k : FuncId} (hc : ∀ (s : ByteArray) (c : UInt8), c.toNat < 128 → ∀ w : World, s.size ≤ 9223372036854775807 →
      Calls P k #[.string s, .string ⟨#[c]⟩] w fun e w' => e = .returned (.string ⟨(Lib.trimRightB s.data.toList c).toArray⟩) ∧ w' = w)
    {ι : Inj} {args : List AV} {v : AV} {args' : Array Value} (w : World) (hf : trimRF args = some v) (hv : VsRel ι args args'.toList) : Calls P k args' w fun e w' => (∃ y, e = .returned y ∧ VRel ι v y) ∧ Grew w w' := by
  unfold trimRF at hf
  split at hf
  · rename_i s c
    split at hf
    · rename_i hif
      simp only [Option.some.injEq] at hf
      subst hf
      rw [args2 hv]
      exact (hc _ c hif.2 w (by simpa [ByteArray.size] using hif.1)).mono fun e w' ⟨h1, h2⟩ => ⟨⟨_, h1, by simpa using VRel.str _⟩, h2 ▸ Grew.refl w⟩
    · cases hf
  · cases hf
def cutPF : List AV → Option AV
  | [.str s, .str p] => some (.tup [.str (Lib.trimPrefix s p), .bool (Lib.hasPrefix s p)])
  | _ => none
theorem cutPF_ok {P : Program} {k : FuncId} (hc : ∀ (s p : ByteArray) (w : World), Calls P k #[.string s, .string p] w fun e w' =>
      e = .returned (.tuple #[.string ⟨(Lib.trimPrefix s.data.toList p.data.toList).toArray⟩, .bool (Lib.hasPrefix s.data.toList p.data.toList)]) ∧ w' = w)
    {ι : Inj} {args : List AV} {v : AV} {args' : Array Value} (w : World) (hf : cutPF args = some v) (hv : VsRel ι args args'.toList) : Calls P k args' w fun e w' => (∃ y, e = .returned y ∧ VRel ι v y) ∧ Grew w w' := by
  unfold cutPF at hf
  split at hf
  · simp only [Option.some.injEq] at hf
    subst hf
    rw [args2 hv]
    exact (hc _ _ w).mono fun e w' ⟨h1, h2⟩ => ⟨⟨_, h1, by simpa using VRel.tup' (VsRel.cons (.str _) (VsRel.cons (.bool _) (VsRel.nil _)))⟩, h2 ▸ Grew.refl w⟩
  · cases hf
def cutSF : List AV → Option AV
  | [.str s, .str p] => if s.length ≤ 9223372036854775807 then some (.tup [.str (Lib.trimSuffix s p), .bool (Lib.hasSuffix s p)]) else none
  | _ => none
theorem cutSF_ok {P : Program} {k : FuncId} (hc : ∀ (s p : ByteArray) (w : World), s.size ≤ 9223372036854775807 → Calls P k #[.string s, .string p] w fun e w' =>
      e = .returned (.tuple #[.string ⟨(Lib.trimSuffix s.data.toList p.data.toList).toArray⟩, .bool (Lib.hasSuffix s.data.toList p.data.toList)]) ∧ w' = w)
    {ι : Inj} {args : List AV} {v : AV} {args' : Array Value} (w : World) (hf : cutSF args = some v) (hv : VsRel ι args args'.toList) : Calls P k args' w fun e w' => (∃ y, e = .returned y ∧ VRel ι v y) ∧ Grew w w' := by
  unfold cutSF at hf
  split at hf
  · split at hf
    · rename_i hif
      simp only [Option.some.injEq] at hf
      subst hf
      rw [args2 hv]
      exact (hc _ _ w (by simpa [ByteArray.size] using hif)).mono fun e w' ⟨h1, h2⟩ => ⟨⟨_, h1, by simpa using VRel.tup' (VsRel.cons (.str _) (VsRel.cons (.bool _) (VsRel.nil _)))⟩, h2 ▸ Grew.refl w⟩
    · cases hf
  · cases hf

/-! ### strconv.Atoi: the number, or an error whose content is not told -/
/-- The text is no number. -/
def noNum : Lib.NumEnd Int → Bool
  | .ok _ | .range => false
  | _ => true
noncomputable def atoiPrim (T : TypeId) : List AV → AHeap → Option (Out × AHeap)
  | [.str s], h => if s.length ≤ 281474976710656 then match Lib.atoiAll s with
    | .ok v => some (.ret (.tup [.int .i64 v, .nilIface]), h)
    | .range => some (.ret (.tup [.int .i64 (Lib.atoiSat s), .iface T (.ptr (some (h.next, 0)))]), (h.alloc .dead).2)
    | _ => some (.ret (.tup [.int .i64 0, .iface T (.ptr (some (h.next, 0)))]), (h.alloc .dead).2)
    else none
  | _, _ => none
/-- What a package-level variable's cell holds when the run begins it holds ever after. -/
theorem cell_base {g : Nat} {v : Value} (hc : Base.w.cell? ⟨g, 0, none⟩ = some v) {ι : Inj} {h : AHeap} {w : World} (hH : HRel ι h w) : w.cell? ⟨g, 0, none⟩ = some v := by
  unfold World.cell? at hc ⊢
  have hlt : g < Base.w.heap.size := by
    rcases Nat.lt_or_ge g Base.w.heap.size with h1 | h1
    · exact h1
    · simp only [Array.getElem?_eq_none h1] at hc; cases hc
  have := hH.base.old g hlt
  simp only [this]; exact hc
theorem grew_bytesWorld (w : World) (e : TypeId) (s : ByteArray) : Grew w (Lib.bytesWorld w e s) := by
  unfold Lib.bytesWorld World.freeze
  rw [if_neg (by decide)]
  refine ⟨by simp [World.alloc_eq], fun b hb => ?_, rfl, rfl, rfl⟩
  simp only [Array.getElem?_modify]
  rw [if_neg (by omega)]
  exact heap_alloc_old w.drew _ hb
theorem err_ext {ι : Inj} {h : AHeap} {w w' : World} (hH : HRel ι h w) (hB : RowKit.Below w.heap.size w w') {N : Nat} (h1 : w.heap.size ≤ N) (h2 : N < w'.heap.size) :
    Ext ι h w (ι.add h.next ⟨N, 0, 0, 0, false⟩) (h.alloc .dead).2 w' :=
  hH.grow hB.size hB.block hB.os hB.tape hB.output .dead ⟨N, 0, 0, 0, false⟩ h1 h2 trivial
theorem atoiPrim_ok {P : Program} {k : FuncId} {T : TypeId} {g1 g2 : Nat} {e5 t112 : TypeId} {nm : ByteArray}
    (hok : ∀ (s : ByteArray), s.size ≤ 9223372036854775806 → ∀ (v : Int), Lib.atoiAll s.data.toList = .ok v → ∀ w : World, Calls P k #[.string s] w fun e w' => e = .returned (.tuple #[.int .i64 v, .nilIface]) ∧ (w' = w ∨ ∃ t, w' = Lib.bytesWorld w e5 t))
    (hsx : ∀ (s : ByteArray), s.size ≤ 281474976710656 → noNum (Lib.atoiAll s.data.toList) = true → ∀ (ev : Value) (w : World), w.cell? ⟨g1, 0, none⟩ = some ev → (ev = .nilIface ∨ ∃ te pe, ev = .iface te pe) →
      Calls P k #[.string s] w fun e w' => ∃ N, e = .returned (.tuple #[.int .i64 0, .iface T (.pointer (some ⟨N, 0, none⟩))]) ∧ w.heap.size ≤ N ∧ w'.heap[N]? = some (.cells #[.string nm, .string s, ev] t112 (0, 0)) ∧ RowKit.Below w.heap.size w w')
    (hrg : ∀ (s : ByteArray), s.size ≤ 281474976710656 → Lib.atoiAll s.data.toList = .range → ∀ (ev : Value) (w : World), w.cell? ⟨g2, 0, none⟩ = some ev → (ev = .nilIface ∨ ∃ te pe, ev = .iface te pe) →
      Calls P k #[.string s] w fun e w' => ∃ N, e = .returned (.tuple #[.int .i64 (Lib.atoiSat s.data.toList), .iface T (.pointer (some ⟨N, 0, none⟩))]) ∧ w.heap.size ≤ N ∧ w'.heap[N]? = some (.cells #[.string nm, .string s, ev] t112 (0, 0)) ∧ RowKit.Below w.heap.size w w')
    (hb1 : ∃ ev, Base.w.cell? ⟨g1, 0, none⟩ = some ev ∧ (ev = .nilIface ∨ ∃ te pe, ev = .iface te pe)) (hb2 : ∃ ev, Base.w.cell? ⟨g2, 0, none⟩ = some ev ∧ (ev = .nilIface ∨ ∃ te pe, ev = .iface te pe))
    {args : List AV} {h : AHeap} {out : Out} {h' : AHeap} {ι : Inj} {w : World} {args' : Array Value} (hf : atoiPrim T args h = some (out, h')) (hH : HRel ι h w) (hv : VsRel ι args args'.toList) :
    CallsIn Fence.wide 0 P k args' w fun e w' => ∃ ι', Ext ι h w ι' h' w' ∧ OutRel ι' out e := by
  unfold atoiPrim at hf
  split at hf
  · rename_i s
    split at hf
    · rename_i hlen
      rw [args1 hv]
      have hsz : (⟨s.toArray⟩ : ByteArray).size = s.length := by simp [ByteArray.size]
      split at hf
      · rename_i v hav
        simp only [Option.some.injEq, Prod.mk.injEq] at hf
        obtain ⟨rfl, rfl⟩ := hf
        refine prim_of_calls hH ((hok ⟨s.toArray⟩ (by rw [hsz]; omega) v (by simpa using hav) w).mono fun e w' ⟨h1, h2⟩ => ⟨?_, ?_⟩)
        · subst h1; exact VRel.tup' (VsRel.cons (.int _ _) (VsRel.cons .nilIface (VsRel.nil _)))
        · rcases h2 with rfl | ⟨t, rfl⟩
          · exact Grew.refl _
          · exact grew_bytesWorld _ _ _
      · rename_i hav
        simp only [Option.some.injEq, Prod.mk.injEq] at hf
        obtain ⟨rfl, rfl⟩ := hf
        obtain ⟨ev, hev, hev2⟩ := hb2
        refine callsIn_wide.2 ((hrg ⟨s.toArray⟩ (by rw [hsz]; omega) (by simpa using hav) ev w (cell_base hev hH) hev2).mono fun e w' ⟨N, h1, h2, h3, h4⟩ => ?_)
        refine ⟨_, err_ext hH h4 h2 (Array.getElem?_eq_some_iff.1 h3).1, ?_⟩
        subst h1
        exact VRel.tup' (VsRel.cons (by simpa using VRel.int _ _) (VsRel.cons (.iface _ (.ptr (L := ⟨N, 0, 0, 0, false⟩) (Inj.add_same _ _ _))) (VsRel.nil _)))
      · rename_i hno1 hno2
        have hav : noNum (Lib.atoiAll s) = true := by
          cases hx : Lib.atoiAll s with
          | ok v => exact (hno1 v hx).elim
          | range => exact (hno2 hx).elim
          | _ => rfl
        simp only [Option.some.injEq, Prod.mk.injEq] at hf
        obtain ⟨rfl, rfl⟩ := hf
        obtain ⟨ev, hev, hev2⟩ := hb1
        refine callsIn_wide.2 ((hsx ⟨s.toArray⟩ (by rw [hsz]; omega) (by simpa using hav) ev w (cell_base hev hH) hev2).mono fun e w' ⟨N, h1, h2, h3, h4⟩ => ?_)
        refine ⟨_, err_ext hH h4 h2 (Array.getElem?_eq_some_iff.1 h3).1, ?_⟩
        subst h1
        exact VRel.tup' (VsRel.cons (.int _ _) (VsRel.cons (.iface _ (.ptr (L := ⟨N, 0, 0, 0, false⟩) (Inj.add_same _ _ _))) (VsRel.nil _)))
    · cases hf
  · cases hf
end Go.Am
