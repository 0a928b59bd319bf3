/-
  Law 6: a []Struct that comes in, as the abstract machine takes it. Each theorem states its own conditions; there are no others.
-/
import Derived.Test.YtkkhpibnbaepiaaDoorW6
import Derived.Deep.Slices
import Derived.Laws.World
set_option maxRecDepth 100000
set_option linter.unusedSimpArgs false
set_option linter.unusedVariables false
namespace Go.Proofs.YtkkhpibnbaepiaaDoor
open Go.Am Go.Deep
theorem pairs_inv {α : Type} (g1 g2 : α → AV) : ∀ (l : List α) (j : Nat) (x : AV), ((l.map fun a => [g1 a, g2 a]).flatten)[j]? = some x → ∃ a, l[j / 2]? = some a ∧ ((j = j / 2 * 2 ∧ x = g1 a) ∨ (j = j / 2 * 2 + 1 ∧ x = g2 a))
  | [], j, x, h => by simp at h
  | a :: l, 0, x, h => by
    simp only [List.map_cons, List.flatten_cons, List.cons_append, List.nil_append, List.getElem?_cons_zero, Option.some.injEq] at h
    exact ⟨a, rfl, .inl ⟨rfl, h.symm⟩⟩
  | a :: l, 1, x, h => by
    simp only [List.map_cons, List.flatten_cons, List.cons_append, List.nil_append, List.getElem?_cons_succ, List.getElem?_cons_zero, Option.some.injEq] at h
    exact ⟨a, rfl, .inr ⟨rfl, h.symm⟩⟩
  | a :: l, j + 2, x, h => by
    simp only [List.map_cons, List.flatten_cons, List.cons_append, List.nil_append, List.getElem?_cons_succ] at h
    obtain ⟨b, h1, h2⟩ := pairs_inv g1 g2 l j x h
    have e : (j + 2) / 2 = j / 2 + 1 := by omega
    rw [e]
    refine ⟨b, by simpa using h1, ?_⟩
    rcases h2 with ⟨h2, h3⟩ | ⟨h2, h3⟩
    · exact .inl ⟨by omega, h3⟩
    · exact .inr ⟨by omega, h3⟩
/-- A heap of objects that are told. -/
noncomputable def mkH (o : Nat → AObj) : Nat → AHeap
  | 0 => noHeap
  | n + 1 => ((mkH o n).alloc (o n)).2
theorem mkH_next (o : Nat → AObj) : ∀ n, (mkH o n).next = n
  | 0 => rfl
  | n + 1 => by
    show (mkH o n).next + 1 = n + 1
    rw [mkH_next o n]
theorem mkH_get (o : Nat → AObj) : ∀ n i, (mkH o n).get i = if i < n then some (o i) else Option.none
  | 0, i => rfl
  | n + 1, i => by
    show ((mkH o n).alloc (o n)).2.get i = _
    rw [AHeap.get_alloc, mkH_next, mkH_get o n i]
    by_cases h : i = n
    · subst h; rw [if_pos rfl, if_pos (by omega)]
    · rw [if_neg h]
      by_cases h' : i < n
      · rw [if_pos h', if_pos (by omega)]
      · rw [if_neg h', if_neg (by omega)]
theorem mkH_fresh (o : Nat → AObj) (n : Nat) : Fresh (mkH o n) := fun i hi => by
  rw [mkH_next] at hi
  rw [mkH_get, if_neg (by omega)]
theorem mkH_rel (W : World) (o : Nat → AObj) (n : Nat) (ι : Inj) (hi : ∀ i L, ι i = some L → i < n ∧ ORel ι (o i) L W ∧ L.b < W.heap.size ∧ (o i).owned = false) : @HRel ⟨W⟩ ι (mkH o n) W := by
  letI : Base := ⟨W⟩
  have hget : ∀ i L ob, ι i = some L → (mkH o n).get i = some ob → ob = o i := fun i L ob h1 h2 => by
    rw [mkH_get, if_pos (hi i L h1).1] at h2
    injection h2 with h2
    exact h2.symm
  refine ⟨fun i L h => ⟨o i, by rw [mkH_get, if_pos (hi i L h).1], (hi i L h).2.1⟩, ?_, fun i L h => by rw [mkH_next]; exact (hi i L h).1, mkH_fresh o n, fun i L h => (hi i L h).2.2.1, ⟨Nat.le_refl _, fun _ _ => rfl, rfl, ?_⟩⟩
  · intro i j Li Lj oi oj _ h1 h2 h3 h4 h5 h6
    have := hget i Li oi h1 h3
    subst this
    rw [(hi i Li h1).2.2.2] at h5
    cases h5
  · intro i L ob h1 h2 h3
    have := hget i L ob h1 h2
    subst this
    rw [(hi i L h1).2.2.2] at h3
    cases h3
section
variable {H : Type} {enc : TypeId × Value → H} {W : World}
theorem weightsAll_mem {P : Program} {e : TypeId} : ∀ {l : List (DataW H)} {d : DataW H} {m : Nat}, d ∈ l → m ∈ d.weights P e → m ∈ DataW.weightsAll P e l
  | x :: l, d, m, h, hm => by
    simp only [DataW.weightsAll, List.mem_append]
    rcases List.mem_cons.1 h with rfl | h
    · exact .inl hm
    · exact .inr (weightsAll_mem h hm)
/-- A slice of two cells an element. -/
def SlAt (W : World) (sv : Value) (prs : List (Value × Value)) : Prop :=
  (sv = .slice Option.none 0 0 ∧ prs = []) ∨ ∃ a cap, sv = .slice (some a) prs.length cap ∧ prs.length ≤ cap ∧ cap ≤ 9223372036854775807 ∧ (0 < cap → a.spot = Option.none ∧ ∃ c e fz, W.heap[a.block]? = some (.cells c e fz)) ∧
    ∀ i pr, prs[i]? = some pr → W.cell? (a.add (i * 2)) = some pr.1 ∧ W.cell? (a.add (i * 2 + 1)) = some pr.2
theorem cell_block {a : Addr} {v : Value} (h : W.cell? a = some v) : a.spot = Option.none ∧ ∃ c e fz, W.heap[a.block]? = some (.cells c e fz) ∧ c[a.off]? = some v := by
  refine ⟨World.cell?_spot h, ?_⟩
  unfold World.cell? at h
  split at h
  · rename_i c e fz hc
    refine ⟨c, e, fz, hc, ?_⟩
    split at h
    · cases h
    · exact h
  · cases h
theorem openS {t e : TypeId} {fuel : Nat} {cs : List Value} {x : DataW H × List MemPlace} (ht : Tryd.prog.underlying t = some (.slice e)) (hc : Tryd.prog.cellsOf e = 2) (h : DataW.trod enc Tryd.prog W 0 (fun _ => true) true fuel t cs = some x) (hw : ∀ m ∈ x.1.weights Tryd.prog t, m ≤ reachBytes) :
    ∃ sv prs n, cs = [sv] ∧ SlAt W sv prs ∧ ∀ pr ∈ prs, ∃ y, DataW.trod enc Tryd.prog W 0 (fun _ => true) true n e [pr.1, pr.2] = some y ∧ ∀ m ∈ y.1.weights Tryd.prog e, m ≤ reachBytes := by
  rcases open_slice ht h with ⟨rfl, rfl⟩ | ⟨a, len, cap, m, n, D, Pl, rfl, _, hl, hm, hmc, rfl, hel⟩
  · exact ⟨_, [], 0, rfl, .inl ⟨rfl, rfl⟩, fun pr hpr => by cases hpr⟩
  simp only [if_true] at hmc
  have hmc := hmc.symm
  subst hmc
  simp only [hc] at hel
  have hel2 : ∀ i, i < cap → ∃ pr : Value × Value, W.cell? (a.add (i * 2)) = some pr.1 ∧ W.cell? (a.add (i * 2 + 1)) = some pr.2 ∧ DataW.trod enc Tryd.prog W 0 (fun _ => true) true n e [pr.1, pr.2] = some (D i, Pl i) := by
    intro i hi
    obtain ⟨cs', h1, h2⟩ := hel i hi
    obtain ⟨_, h3, h4⟩ := World.cells?_some h1
    match cs', h3 with
    | [u, v], _ =>
      have h5 := h4 0 (by omega)
      have h6 := h4 1 (by omega)
      rw [add_add] at h5 h6
      exact ⟨(u, v), h5, h6, h2⟩
  haveI : Inhabited (Value × Value) := ⟨(.nilIface, .nilIface)⟩
  obtain ⟨f, hf⟩ := choose_lt hel2
  refine ⟨_, (List.range len).map f, n, rfl, .inr ⟨a, cap, by simp, by simpa using hl, hm, fun h0 => ?_, fun i pr hi => ?_⟩, fun pr hpr => ?_⟩
  · have h1 := (hf 0 h0).1
    obtain ⟨h2, c, e, fz, h3, _⟩ := cell_block h1
    exact ⟨h2, c, e, fz, h3⟩
  · simp only [List.getElem?_map, Option.map_eq_some_iff] at hi
    obtain ⟨j, hj, rfl⟩ := hi
    obtain ⟨hj1, hj2⟩ := List.getElem?_eq_some_iff.1 hj
    simp only [List.getElem_range] at hj2
    subst hj2
    simp only [List.length_range] at hj1
    exact ⟨(hf i (by omega)).1, (hf i (by omega)).2.1⟩
  · simp only [List.mem_map, List.mem_range] at hpr
    obtain ⟨i, hi, rfl⟩ := hpr
    refine ⟨_, (hf i (by omega)).2.2, fun m hm => hw m ?_⟩
    simp only [DataW.weights, ht, List.mem_cons, List.mem_append]
    exact .inr (.inl (weightsAll_mem (List.mem_map.2 ⟨i, List.mem_range.2 hi, rfl⟩) hm))
theorem cells9 : Tryd.prog.cellsOf 9 = 1 := by kernel_rfl
theorem cells38 : Tryd.prog.cellsOf 38 = 1 := by kernel_rfl
theorem cells40 : Tryd.prog.cellsOf 40 = 2 := by kernel_rfl
theorem cells55 : Tryd.prog.cellsOf 55 = 2 := by kernel_rfl
theorem openStr {n : Nat} {v : Value} {z : DataW H × List MemPlace} (h : DataW.trod enc Tryd.prog W 0 (fun _ => true) true n 9 [v] = some z) (hw : ∀ m ∈ z.1.weights Tryd.prog 9, m ≤ reachBytes) : ∃ s : List UInt8, v = .string ⟨s.toArray⟩ ∧ s.length ≤ 281474976710656 := by
  obtain ⟨s, h1, rfl, _⟩ := DataW.trod_string Tryd.underlying9 h
  simp only [List.cons.injEq, and_true] at h1
  refine ⟨s.data.toList, by rw [h1], ?_⟩
  have := hw s.data.toList.length (by simp [DataW.weights])
  have h2 : reachBytes = 140737488351232 := rfl
  omega
/-- The parts of a struct of two fields. -/
theorem openTwo {t : TypeId} {f0 f1 : Field} {n : Nat} {u v : Value} {y : DataW H × List MemPlace} (ht : Tryd.prog.underlying t = some (.struct #[f0, f1])) (h0 : f0.offset = 0 ∧ Tryd.prog.cellsOf f0.type = 1) (h1 : f1.offset = 1 ∧ Tryd.prog.cellsOf f1.type = 1)
    (h : DataW.trod enc Tryd.prog W 0 (fun _ => true) true n t [u, v] = some y) (hw : ∀ m ∈ y.1.weights Tryd.prog t, m ≤ reachBytes) :
    ∃ k z0 z1, DataW.trod enc Tryd.prog W 0 (fun _ => true) true k f0.type [u] = some z0 ∧ DataW.trod enc Tryd.prog W 0 (fun _ => true) true k f1.type [v] = some z1 ∧ (∀ m ∈ z0.1.weights Tryd.prog f0.type, m ≤ reachBytes) ∧ (∀ m ∈ z1.1.weights Tryd.prog f1.type, m ≤ reachBytes) := by
  obtain ⟨xs, k, _, rfl, _, hxl, hf⟩ := DataW.trod_struct ht h
  have g0 := hf 0 f0 rfl
  have g1 := hf 1 f1 rfl
  rw [h0.1, h0.2] at g0
  rw [h1.1, h1.2] at g1
  match xs, hxl with
  | [z0, z1], _ =>
    refine ⟨k, z0, z1, g0, g1, fun m hm => hw m ?_, fun m hm => hw m ?_⟩ <;> simp only [DataW.weights, ht, List.map_cons, List.map_nil, DataW.weightsEach, List.mem_append]
    · exact .inl hm
    · exact .inr (.inl hm)

/-- A struct's declaration, and where its fields lie. -/
structure Raw where
  name : List UInt8
  fs : List Fld
  nil : Bool
  loc : Am.Loc
def LocOk (W : World) (L : Am.Loc) (cs : List AV) : Prop :=
  L.rw = false ∧ L.es = 0 ∧ L.base + cs.length ≤ L.top ∧ ∃ c e fz, W.heap[L.b]? = some (.cells c e fz) ∧ ∀ (i : Nat) (x : AV), cs[i]? = some x → ∃ y : Value, c[L.base + i]? = some y ∧ ∀ ι : Inj, VRel ι x y
structure RawOk (W : World) (pr : Value × Value) (r : Raw) : Prop where
  name : pr.1 = .string ⟨r.name.toArray⟩
  len : r.name.length ≤ 281474976710656
  flen : ∀ f ∈ r.fs, f.1.length ≤ 281474976710656 ∧ f.2.length ≤ 281474976710656
  n : r.fs.length ≤ 9223372036854775807
  sl : (r.nil = true ∧ pr.2 = .slice Option.none 0 0 ∧ r.fs = []) ∨ (r.nil = false ∧ LocOk W r.loc (flatF r.fs) ∧ ∀ (ι : Inj) (id : Nat), ι id = some r.loc → VRel ι (.slice (some (id, 0)) r.fs.length) pr.2)
theorem list_choose {α β : Type} {R : α → β → Prop} : ∀ (l : List α), (∀ a ∈ l, ∃ b, R a b) → ∃ m : List β, m.length = l.length ∧ ∀ (i : Nat) a b, l[i]? = some a → m[i]? = some b → R a b
  | [], _ => ⟨[], rfl, fun i a b h => by simp at h⟩
  | a :: l, h => by
    obtain ⟨b, hb⟩ := h a (by simp)
    obtain ⟨m, h1, h2⟩ := list_choose l (fun x hx => h x (by simp [hx]))
    refine ⟨b :: m, by simp [h1], fun i x y hx hy => ?_⟩
    cases i with
    | zero => simp at hx hy; subst hx hy; exact hb
    | succ i => exact h2 i x y (by simpa using hx) (by simpa using hy)
theorem openFld {n : Nat} {u v : Value} {y : DataW H × List MemPlace} (h : DataW.trod enc Tryd.prog W 0 (fun _ => true) true n 55 [u, v] = some y) (hw : ∀ m ∈ y.1.weights Tryd.prog 55, m ≤ reachBytes) :
    ∃ f : Fld, (u = .string ⟨f.1.toArray⟩ ∧ v = .string ⟨f.2.toArray⟩) ∧ f.1.length ≤ 281474976710656 ∧ f.2.length ≤ 281474976710656 := by
  obtain ⟨k, z0, z1, a0, a1, w0, w1⟩ := openTwo Tryd.underlying55 ⟨rfl, cells9⟩ ⟨rfl, cells9⟩ h hw
  obtain ⟨s, rfl, hs⟩ := openStr a0 w0
  obtain ⟨t, rfl, ht⟩ := openStr a1 w1
  exact ⟨(s, t), ⟨rfl, rfl⟩, hs, ht⟩
theorem openSd {n : Nat} {pr : Value × Value} {y : DataW H × List MemPlace} {B : Nat} (hB : ∃ c e fz, W.heap[B]? = some (.cells c e fz)) (h : DataW.trod enc Tryd.prog W 0 (fun _ => true) true n 40 [pr.1, pr.2] = some y) (hw : ∀ m ∈ y.1.weights Tryd.prog 40, m ≤ reachBytes) :
    ∃ r, RawOk W pr r := by
  obtain ⟨u, v⟩ := pr
  obtain ⟨k, z0, z1, a0, a1, w0, w1⟩ := openTwo Tryd.underlying40 ⟨rfl, cells9⟩ ⟨rfl, cells38⟩ h hw
  obtain ⟨s, rfl, hs⟩ := openStr a0 w0
  obtain ⟨sv, prs, m, hsv, hat, hel⟩ := openS Tryd.underlying38 cells55 a1 w1
  simp only [List.cons.injEq, and_true] at hsv
  subst hsv
  obtain ⟨fs, f1, f2⟩ := list_choose (R := fun (pr : Value × Value) (f : Fld) => (pr.1 = .string ⟨f.1.toArray⟩ ∧ pr.2 = .string ⟨f.2.toArray⟩) ∧ f.1.length ≤ 281474976710656 ∧ f.2.length ≤ 281474976710656) prs (fun pr hpr => by
    obtain ⟨y, hy, hyw⟩ := hel pr hpr
    exact openFld hy hyw)
  have hlen : ∀ f ∈ fs, f.1.length ≤ 281474976710656 ∧ f.2.length ≤ 281474976710656 := fun f hf => by
    obtain ⟨i, hi, rfl⟩ := List.mem_iff_getElem.1 hf
    exact (f2 i prs[i] fs[i] (List.getElem?_eq_getElem (by omega)) (List.getElem?_eq_getElem hi)).2
  rcases hat with ⟨rfl, rfl⟩ | ⟨a, cap, rfl, hle, hcap, hblk, hcell⟩
  · have : fs = [] := List.length_eq_zero_iff.1 (by simpa using f1)
    subst this
    exact ⟨⟨s, [], true, ⟨0, 0, 0, 0, false⟩⟩, rfl, hs, (fun f hf => by cases hf), by simp, .inl ⟨rfl, rfl, rfl⟩⟩
  · by_cases h0 : 0 < cap
    · obtain ⟨hsp, c, e, fz, hc⟩ := hblk h0
      refine ⟨⟨s, fs, false, ⟨a.block, a.off, a.off + (flatF fs).length, 0, false⟩⟩, rfl, hs, hlen, by dsimp only; omega, .inr ⟨rfl, ⟨rfl, rfl, Nat.le_refl _, c, e, fz, hc, ?_⟩, ?_⟩⟩
      · intro j x hx
        obtain ⟨f, hf, hx'⟩ := pairs_inv _ _ fs j x hx
        have hlt : j / 2 < prs.length := by
          have := (List.getElem?_eq_some_iff.1 hf).1
          omega
        have hpr := List.getElem?_eq_getElem hlt
        obtain ⟨⟨e1, e2⟩, _⟩ := f2 (j / 2) prs[j / 2] f hpr hf
        obtain ⟨c1, c2⟩ := hcell (j / 2) _ hpr
        have off : ∀ k v, W.cell? (a.add k) = some v → c[a.off + k]? = some v := fun k v hk => by
          obtain ⟨_, c', e', fz', q1, q2⟩ := cell_block hk
          have b1 : (a.add k).block = a.block := by unfold Addr.add; split <;> rfl
          have b2 : (a.add k).off = a.off + k := by unfold Addr.add; split <;> simp_all
          rw [b1, hc] at q1
          injection q1 with q1
          injection q1 with q1 _ _
          rw [b2] at q2
          rw [q1]; exact q2
        rcases hx' with ⟨hj, rfl⟩ | ⟨hj, rfl⟩
        · refine ⟨_, ?_, fun ι => VRel.str _⟩
          rw [hj, ← e1]; exact off _ _ c1
        · refine ⟨_, ?_, fun ι => VRel.str _⟩
          rw [hj, ← e2]; exact off _ _ c2
      · intro ι id hid
        obtain ⟨ab, ao, asp⟩ := a
        dsimp only at hsp
        subst hsp
        dsimp only
        rw [f1]
        exact VRel.slice (off := 0) hid hle (fun e => by cases e)
    · have h1 : cap = 0 := by omega
      subst h1
      have h2 : prs = [] := List.length_eq_zero_iff.1 (by omega)
      subst h2
      have : fs = [] := List.length_eq_zero_iff.1 (by simpa using f1)
      subst this
      obtain ⟨c, e, fz, hc⟩ := hB
      refine ⟨⟨s, [], false, ⟨B, 0, 0, 0, false⟩⟩, rfl, hs, (fun f hf => by cases hf), by simp, .inr ⟨rfl, ⟨rfl, rfl, Nat.le_refl _, c, e, fz, hc, fun j x hx => by simp [flatF] at hx⟩, fun ι id hid => VRel.sliceEnd hid (fun e => by cases e)⟩⟩
/-- The argument as the machine takes it. -/
theorem arg_rel {fuel : Nat} {v : Value} {x : DataW H × List MemPlace} (h : DataW.trod enc Tryd.prog W 0 (fun _ => true) true fuel 27 [v] = some x) (hw : ∀ m ∈ x.1.weights Tryd.prog 27, m ≤ reachBytes) (hz : 0 < W.heap.size) :
    ∃ (l : List Sd) (p : Option (Nat × Nat)) (ι : Inj) (h : AHeap), ArgAt h p l ∧ Fresh h ∧ @HRel ⟨W⟩ ι h W ∧ VRel ι (.slice p l.length) v ∧ ∀ b, ¬ Owned ι h b := by
  obtain ⟨sv, prs, m, hsv, hat, hel⟩ := openS Tryd.underlying27 cells40 h hw
  simp only [List.cons.injEq, and_true] at hsv
  subst hsv
  rcases hat with ⟨rfl, rfl⟩ | ⟨a, cap, rfl, hle, hcap, hblk, hcell⟩
  · refine ⟨[], Option.none, fun _ => Option.none, noHeap, ⟨(fun e => (e rfl).elim), (fun s hs => by cases hs), (fun s hs => by cases hs), by simp⟩, (fun i _ => rfl), mkH_rel W (fun _ => .dead) 0 _ (fun i L hL => by cases hL), VRel.sliceNil, ?_⟩
    rintro b ⟨i, L, o, h1, _⟩
    cases h1
  by_cases h0 : 0 < cap
  · obtain ⟨hsp, c, e, fz, hc⟩ := hblk h0
    obtain ⟨rs, r1, r2⟩ := list_choose (R := RawOk W) prs (fun pr hpr => by
      obtain ⟨y, hy, hyw⟩ := hel pr hpr
      exact openSd ⟨c, e, fz, hc⟩ hy hyw)
    have hlt : a.block < W.heap.size := (Array.getElem?_eq_some_iff.1 hc).1
    have off : ∀ k v, W.cell? (a.add k) = some v → c[a.off + k]? = some v := fun k v hk => by
      obtain ⟨_, c', e', fz', q1, q2⟩ := cell_block hk
      have b1 : (a.add k).block = a.block := by unfold Addr.add; split <;> rfl
      have b2 : (a.add k).off = a.off + k := by unfold Addr.add; split <;> simp_all
      rw [b1, hc] at q1
      injection q1 with q1
      injection q1 with q1 _ _
      rw [b2] at q2
      rw [q1]; exact q2
    obtain ⟨l, hl⟩ : ∃ l : List Sd, l = rs.mapIdx fun i r => ({ name := r.name, fs := r.fs, q := if r.nil = true then Option.none else some (i + 1, 0) } : Sd) := ⟨_, rfl⟩
    have hll : l.length = rs.length := by rw [hl, List.length_mapIdx]
    have hli : ∀ i s, l[i]? = some s → ∃ r, rs[i]? = some r ∧ s = ({ name := r.name, fs := r.fs, q := if r.nil = true then Option.none else some (i + 1, 0) } : Sd) := fun i s hs => by
      rw [hl, List.getElem?_mapIdx, Option.map_eq_some_iff] at hs
      obtain ⟨r, h1, h2⟩ := hs
      exact ⟨r, h1, h2.symm⟩
    have hraw : ∀ i r, rs[i]? = some r → ∃ pr, prs[i]? = some pr ∧ RawOk W pr r := fun i r hr => by
      have h1 := (List.getElem?_eq_some_iff.1 hr).1
      have h2 := List.getElem?_eq_getElem (show i < prs.length by omega)
      exact ⟨_, h2, r2 i _ r h2 hr⟩
    obtain ⟨L0, hL0⟩ : ∃ L0 : Am.Loc, L0 = ⟨a.block, a.off, a.off + (flatS l).length, 0, false⟩ := ⟨_, rfl⟩
    obtain ⟨ι, hι0, hι1⟩ : ∃ ι : Inj, ι 0 = some L0 ∧ ∀ i, ι (i + 1) = (match rs[i]? with | some r => if r.nil = true then Option.none else some r.loc | Option.none => Option.none) :=
      ⟨fun id => match id with | 0 => some L0 | i + 1 => (match rs[i]? with | some r => if r.nil = true then Option.none else some r.loc | Option.none => Option.none), rfl, fun _ => rfl⟩
    obtain ⟨o, ho0, ho1, hod⟩ : ∃ o : Nat → AObj, o 0 = .cells false 0 (flatS l) ∧ (∀ i r, rs[i]? = some r → o (i + 1) = .cells false 0 (flatF r.fs)) ∧ ∀ i, (o i).owned = false :=
      ⟨fun id => match id with | 0 => .cells false 0 (flatS l) | i + 1 => (match rs[i]? with | some r => .cells false 0 (flatF r.fs) | Option.none => .dead), rfl, fun i r hr => by simp only [hr], fun i => by
        cases i with
        | zero => rfl
        | succ i => dsimp only; split <;> rfl⟩
    have hnil : ∀ i r, rs[i]? = some r → r.nil = false → ι (i + 1) = some r.loc := fun i r hr hn => by
      rw [hι1, hr]; simp only [hn, Bool.false_eq_true, if_false]
    refine ⟨l, some (0, 0), ι, mkH o (rs.length + 1), ⟨?_, ?_, ?_, by omega⟩, mkH_fresh _ _, mkH_rel W o _ ι ?_, ?_, ?_⟩
    · intro _
      exact ⟨0, false, 0, rfl, by rw [mkH_get, if_pos (by omega), ho0], by rw [mkH_next]; omega⟩
    · intro s hs hne
      obtain ⟨i, hi, rfl⟩ := List.mem_iff_getElem.1 hs
      obtain ⟨r, h1, h2⟩ := hli i _ (List.getElem?_eq_getElem hi)
      rw [h2] at hne ⊢
      dsimp only at hne ⊢
      obtain ⟨pr, _, hok⟩ := hraw i r h1
      have hn : r.nil = false := by
        rcases hok.sl with ⟨_, _, e⟩ | ⟨e, _⟩
        · exact (hne e).elim
        · exact e
      have hil := (List.getElem?_eq_some_iff.1 h1).1
      refine ⟨i + 1, false, 0, ?_, by rw [mkH_get, if_pos (by omega), ho1 i r h1], by rw [mkH_next]; omega⟩
      rw [hn]; rfl
    · intro s hs
      obtain ⟨i, hi, rfl⟩ := List.mem_iff_getElem.1 hs
      obtain ⟨r, h1, h2⟩ := hli i _ (List.getElem?_eq_getElem hi)
      rw [h2]
      obtain ⟨pr, _, hok⟩ := hraw i r h1
      exact ⟨hok.len, hok.n, hok.flen⟩
    · intro i L hL
      cases i with
      | zero =>
        rw [hι0] at hL
        injection hL with hL
        subst hL
        refine ⟨by omega, ?_, by rw [hL0]; exact hlt, hod 0⟩
        rw [ho0, hL0]
        refine ⟨rfl, rfl, Nat.le_refl _, c, e, fz, hc, (fun e => by cases e), fun j x hx => ?_⟩
        obtain ⟨s, hs, hx'⟩ := pairs_inv _ _ l j x hx
        obtain ⟨r, h1, h2⟩ := hli _ s hs
        obtain ⟨pr, h3, hok⟩ := hraw _ r h1
        obtain ⟨c1, c2⟩ := hcell _ pr h3
        rcases hx' with ⟨hj, rfl⟩ | ⟨hj, rfl⟩
        · refine ⟨pr.1, ?_, ?_⟩
          · dsimp only; rw [hj]; exact off _ _ c1
          · rw [h2, hok.name]; exact VRel.str _
        · refine ⟨pr.2, ?_, ?_⟩
          · dsimp only; rw [hj]; exact off _ _ c2
          · rw [h2]
            dsimp only
            rcases hok.sl with ⟨n1, n2, n3⟩ | ⟨n1, n2, n3⟩
            · rw [n1, n2, n3]; exact VRel.sliceNil
            · rw [n1]; exact n3 ι _ (hnil _ r h1 n1)
      | succ i =>
        rw [hι1] at hL
        cases hr : rs[i]? with
        | none => rw [hr] at hL; cases hL
        | some r =>
          rw [hr] at hL
          obtain ⟨pr, h3, hok⟩ := hraw _ r hr
          rcases hok.sl with ⟨n1, n2, n3⟩ | ⟨n1, ⟨m1, m2, m3, c', e', fz', m4, m5⟩, n3⟩
          · simp only [n1, if_true] at hL; cases hL
          · simp only [n1, Bool.false_eq_true, if_false] at hL
            injection hL with hL
            subst hL
            have hil := (List.getElem?_eq_some_iff.1 hr).1
            refine ⟨by omega, ?_, (Array.getElem?_eq_some_iff.1 m4).1, hod _⟩
            rw [ho1 i r hr]
            exact ⟨m1, m2, m3, c', e', fz', m4, (fun e => by cases e), fun j x hx => let ⟨y, hy, hv⟩ := m5 j x hx; ⟨y, hy, hv ι⟩⟩
    · obtain ⟨ab, ao, asp⟩ := a
      dsimp only at hsp
      subst hsp
      rw [hll, r1]
      have := VRel.slice (off := 0) (ι := ι) (id := 0) (len := prs.length) (cap := cap) hι0 hle (fun e => by rw [hL0] at e; cases e)
      rw [hL0] at this
      exact this
    · rintro b ⟨i, L, ob, h1, h2, h3, _⟩
      rw [mkH_get] at h2
      split at h2
      · injection h2 with h2
        rw [← h2, hod] at h3
        cases h3
      · cases h2
  · have h1 : cap = 0 := by omega
    subst h1
    have h2 : prs = [] := List.length_eq_zero_iff.1 (by omega)
    subst h2
    refine ⟨[], some (0, 0), fun i => if i = 0 then some ⟨0, 0, 0, 0, false⟩ else Option.none, mkH (fun _ => .dead) 1, ⟨(fun e => (e rfl).elim), (fun s hs => by cases hs), (fun s hs => by cases hs), by simp⟩, mkH_fresh _ _, mkH_rel W (fun _ => .dead) 1 _ ?_, ?_, ?_⟩
    · intro i L hL
      split at hL
      · rename_i h0
        subst h0
        injection hL with hL
        subst hL
        exact ⟨by omega, trivial, hz, rfl⟩
      · cases hL
    · exact VRel.sliceEnd (L := ⟨0, 0, 0, 0, false⟩) (by rfl) (fun e => by cases e)
    · rintro b ⟨i, L, ob, h1, h2, h3, _⟩
      rw [mkH_get] at h2
      split at h2
      · injection h2 with h2
        rw [← h2] at h3
        cases h3
      · cases h2
end
end Go.Proofs.YtkkhpibnbaepiaaDoor
