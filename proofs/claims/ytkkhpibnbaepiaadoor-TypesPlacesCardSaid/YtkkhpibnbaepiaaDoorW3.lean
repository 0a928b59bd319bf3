/-
  Law 6 on the abstract machine: measure, Size and Layout. Each theorem states its own conditions; there are no others.
-/
import Derived.Test.YtkkhpibnbaepiaaDoorW2
set_option maxRecDepth 100000
set_option linter.unusedSimpArgs false
set_option linter.unusedVariables false
set_option maxHeartbeats 0
namespace Go.Proofs.YtkkhpibnbaepiaaDoor
open Go.Am

/-- A field and where it stands. -/
structure Plc where
  name : List UInt8
  type : List UInt8
  off : Int
def Plc.cs (p : Plc) : List AV := [.str p.name, .str p.type, .int .i64 p.off]
def flat (ps : List Plc) : List AV := (ps.map Plc.cs).flatten
/-- A struct of the table: its places lie in the object 'obj'. -/
structure Ent where
  name : List UInt8
  obj : Nat
  ps : List Plc
  size : Int
  align : Int
def Ent.val (e : Ent) : AV := .agg [.slice (some (e.obj, 0)) e.ps.length, .int .i64 e.size, .int .i64 e.align]
def Fresh (h : AHeap) : Prop := ∀ i, h.next ≤ i → h.get i = Option.none
def nmMap (l : List (List UInt8)) : List (AV × AV) := l.map fun s => (.str s, .bool true)
def stMap (l : List Ent) : List (AV × AV) := l.map fun e => (.str e.name, e.val)
/-- The table in the heap. -/
structure TabAt (tb nm st : Nat) (h : AHeap) (names : List (List UInt8)) (es : List Ent) : Prop where
  t : h.get tb = some (.cells true 0 [.map (some nm), .map (some st)])
  n : h.get nm = some (.map (nmMap names))
  s : h.get st = some (.map (stMap es))
  o : ∀ e ∈ es, h.get e.obj = some (.cells true 3 (flat e.ps))
  lt : tb < h.next
  ln : nm < h.next
  ls : st < h.next
  lo : ∀ e ∈ es, e.obj < h.next
  ne : nm ≠ st
theorem TabAt.keep {tb nm st : Nat} {h h' : AHeap} {names : List (List UInt8)} {es : List Ent} (H : TabAt tb nm st h names es) (k : Keep h h') : TabAt tb nm st h' names es :=
  ⟨(k.old _ H.lt).trans H.t, (k.old _ H.ln).trans H.n, (k.old _ H.ls).trans H.s, fun e he => (k.old _ (H.lo e he)).trans (H.o e he), Nat.lt_of_lt_of_le H.lt k.next, Nat.lt_of_lt_of_le H.ln k.next, Nat.lt_of_lt_of_le H.ls k.next,
    fun e he => Nat.lt_of_lt_of_le (H.lo e he) k.next, H.ne⟩
theorem keyEq_str (h : AHeap) (a b : List UInt8) : keyEq h (.str a) (.str b) = some (a == b) := by
  simp [keyEq]
theorem find_names (k : List UInt8) : ∀ (l : List (List UInt8)) (i : Nat), (k ∉ l ∧ ∀ H, findA H (.str k) (nmMap l) i = some Option.none) ∨ (k ∈ l ∧ ∃ j, (∀ H, findA H (.str k) (nmMap l) i = some (some (i + j, .bool true))) ∧ l[j]? = some k)
  | [], i => .inl ⟨by simp, fun H => rfl⟩
  | s :: l, i => by
    by_cases h : k = s
    · subst h
      exact .inr ⟨by simp, 0, fun H => by simp only [nmMap, List.map_cons, findA, keyEq_str, beq_self_eq_true, Nat.add_zero], rfl⟩
    · have hb : (k == s) = false := by simpa using h
      rcases find_names k l (i + 1) with ⟨h1, h2⟩ | ⟨h1, j, h2, h3⟩
      · exact .inl ⟨by simp [h, h1], fun H => by simp only [nmMap, List.map_cons, findA, keyEq_str, hb]; exact h2 H⟩
      · exact .inr ⟨by simp [h1], j + 1, fun H => by simp only [nmMap, List.map_cons, findA, keyEq_str, hb]; rw [show i + (j + 1) = i + 1 + j by omega]; exact h2 H, by simpa using h3⟩
def findE (k : List UInt8) : List Ent → Option Ent
  | [] => Option.none
  | e :: es => if e.name = k then some e else findE k es
theorem find_ents (k : List UInt8) : ∀ (l : List Ent) (i : Nat), (findE k l = Option.none ∧ ∀ H, findA H (.str k) (stMap l) i = some Option.none) ∨ (∃ e, findE k l = some e ∧ ∃ j, ∀ H, findA H (.str k) (stMap l) i = some (some (j, e.val)))
  | [], i => .inl ⟨rfl, fun H => rfl⟩
  | s :: l, i => by
    by_cases h : s.name = k
    · exact .inr ⟨s, by simp only [findE, h, if_true], i, fun H => by simp only [stMap, List.map_cons, findA, keyEq_str, h, beq_self_eq_true]⟩
    · have hb : (k == s.name) = false := by simpa using fun e => h e.symm
      rcases find_ents k l (i + 1) with ⟨h1, h2⟩ | ⟨e, h1, j, h2⟩
      · exact .inl ⟨by simp only [findE, h, if_false, h1], fun H => by simp only [stMap, List.map_cons, findA, keyEq_str, hb]; exact h2 H⟩
      · exact .inr ⟨e, by simp only [findE, h, if_false, h1], j, fun H => by simp only [stMap, List.map_cons, findA, keyEq_str, hb]; exact h2 H⟩
/-- What measure answers. -/
def msr (names : List (List UInt8)) (es : List Ent) (f : Fm) : Int × Int × Int :=
  if f.base = kwStructB ∧ f.name ∉ names then (0, 0, 5)
  else if 0 < f.stars then (8, 8, 0)
  else if f.base = kwChar then (1, 1, 0)
  else if f.base = kwInt then (4, 4, 0)
  else if f.base = kwLong then (8, 8, 0)
  else if f.base = kwStructB then match findE f.name es with
    | none => (0, 0, 5)
    | some e => (e.size, e.align, 0)
  else (0, 0, 5)
def retM (x : Int × Int × Int) : Out := .ret (.tup [.int .i64 x.1, .int .i64 x.2.1, .int .i64 x.2.2])
theorem res18 : Tryd.f18.results.toList = [.tmp 4, .tmp 5, .tmp 6] := rfl

theorem measure_w (h : AHeap) (tb nm st : Nat) (names : List (List UInt8)) (es : List Ent) (f : Fm) (hT : TabAt tb nm st h names es) (hF : Fresh h) :
    WCall env 18 [.ptr (some (tb, 0)), f.av] h (fun out h' => out = retM (msr names es f) ∧ Keep h h') := by
  have c1 := hT.t
  have c2 := hT.n
  have c3 := hT.s
  have q1 : (tb = h.next) = False := eq_false (by have := hT.lt; omega)
  have q2 : (nm = h.next) = False := eq_false (by have := hT.ln; omega)
  have q3 : (st = h.next) = False := eq_false (by have := hT.ls; omega)
  have q4 : (tb = h.next + 1 + 14 + 10) = False := eq_false (by have := hT.lt; omega)
  have q5 : (h.next = h.next + 1 + 14 + 10) = False := eq_false (by omega)
  have z1 : h.get (h.next + 1 + 14 + 10) = Option.none := hF _ (by omega)
  have z2 : (h.next + 1 + 14 + 10 = h.next) = False := eq_false (by omega)
  have hn := find_names f.name names 0
  have hs := find_ents f.name es 0
  generalize nmMap names = N at *
  generalize stMap es = SS at *
  clear hT hF
  obtain ⟨base, name, stars, arr, many⟩ := f
  dsimp only at hn hs
  refine WCall.body pr18 fn18 rfl (Nat.le_of_ble_eq_true rfl) ?_
  simp only [argsA]
  by_cases h0 : base = [115, 116, 114, 117, 99, 116]
  · subst h0
    have g1 : (([115, 116, 114, 117, 99, 116] : List UInt8) == [99, 104, 97, 114]) = false := rfl
    have g2 : (([115, 116, 114, 117, 99, 116] : List UInt8) == [105, 110, 116]) = false := rfl
    have g3 : (([115, 116, 114, 117, 99, 116] : List UInt8) == [108, 111, 110, 103]) = false := rfl
    have m1 : ¬ ([115, 116, 114, 117, 99, 116] : List UInt8) = [99, 104, 97, 114] := by decide
    have m2 : ¬ ([115, 116, 114, 117, 99, 116] : List UInt8) = [105, 110, 116] := by decide
    have m3 : ¬ ([115, 116, 114, 117, 99, 116] : List UInt8) = [108, 111, 110, 103] := by decide
    rcases hn with ⟨h1, hf⟩ | ⟨h1, j, hf, _⟩
    · have hm : msr names es ⟨[115, 116, 114, 117, 99, 116], name, stars, arr, many⟩ = (0, 0, 5) := by simp only [msr, kwStructB, h1, not_false_eq_true, and_self, if_true]
      repeat (first
        | ((first | ((with_reducible apply wpOps_valT); exact rfl; exact rfl) | ((with_reducible apply wpOps_storeN); exact rfl; exact rfl) | ((with_reducible apply dw_pureT); exact rfl; exact rfl; exact rfl) | ((with_reducible apply dw_readT); exact rfl; exact rfl; exact rfl)); (simp only [List.getElem?_toArray, List.toList_toArray, bin_eql, bin_neq, bin_lss, bin_leq, bin_gtr, bin_geq, bin_add, bin_sub, bin_mul, un_not, unA, AHeap.get_bump, AHeap.next_bump, opK0, kMove, kPick, kAlloc, kBox, kBuild, kBuildSlice, kLoad, kStore, kNilCheck, kBinOp, kUnOp, kFieldAddr, kField, kIndexAddr, kIndex, kLookup, kMapUpdate, kMakeMap, kExtract, kSlice, kCall, lenA, evA, evAs, evParts, toAV, toAV0, toAVs, T.get_set, T.get_nil, Nat.reduceAdd, Nat.reduceMul, Nat.reduceEqDiff, Nat.zero_add, Nat.add_zero, Nat.mul_one, Nat.zero_mul, AV.cells, List.all_cons, List.all_nil, AV.scalar, Bool.and_true, Bool.true_and, ↓reduceIte, if_true, und_all, Tryd.underlying3, Tryd.underlying4, Tryd.underlying5, Tryd.underlying9, Tryd.underlying23, Tryd.underlying24, Tryd.underlying31, Tryd.underlying38, Tryd.underlying39, Tryd.underlying40, Tryd.underlying41, Tryd.underlying42, Tryd.underlying45, Tryd.underlying46, Tryd.underlying48, Tryd.underlying50, Tryd.underlying55, Tryd.underlying57, Tryd.underlying67, siz3, agg3, zer3, byt3, siz4, agg4, zer4, byt4, siz5, agg5, zer5, byt5, siz9, agg9, zer9, byt9, siz23, agg23, zer23, byt23, siz24, agg24, zer24, byt24, siz31, agg31, zer31, byt31, siz38, agg38, zer38, byt38, siz39, agg39, zer39, byt39, siz40, agg40, zer40, byt40, siz41, agg41, zer41, byt41, siz42, agg42, zer42, byt42, siz45, agg45, zer45, byt45, siz46, agg46, zer46, byt46, siz48, agg48, zer48, byt48, siz50, agg50, zer50, byt50, siz55, agg55, zer55, byt55, siz57, agg57, zer57, byt57, siz67, agg67, zer67, byt67, AHeap.get_alloc, AHeap.get_set, AHeap.next_alloc, AHeap.next_set, AHeap.loadCells, AHeap.load1, AHeap.storeCells, List.getElem?_cons_zero, List.getElem?_cons_succ, List.length_cons, List.length_nil, List.drop_zero, List.take_succ_cons, List.take_zero, List.drop_succ_cons, List.drop_nil, List.take_nil, List.append_nil, List.cons_append, List.nil_append, binA, isConstO, keyOk, ents_some, Bool.or_true, Bool.or_false, Bool.true_or, Bool.false_or, wantedA, dstOk, Option.bind_some, List.append_nil, decide_true, decide_false, beq_self_eq_true, Bool.not_true, Bool.not_false, Bool.false_eq_true, if_false, List.zipIdx_cons, reid, toAV, Fm.av, c1, c2, c3, q1, q2, q3, q4, q5, z1, z2, hf] <;> rfl))
        | ((with_reducible apply wpOps_skipT); exact rfl; exact rfl)
        | ((with_reducible apply wpOps_skipN); exact rfl; exact rfl)
        | ((with_reducible apply dw_skipT); exact rfl; exact rfl)
        | (with_reducible apply aw_seq)
        | (with_reducible apply aw_regionL)
        | (with_reducible apply aw_block)
        | (with_reducible apply aw_scope)
        | (with_reducible apply aw_nil)
        | (with_reducible apply aw_then)
        | (with_reducible apply aw_thenR)
        | (with_reducible apply aw_thenE)
        | (with_reducible apply aw_blockR)
        | (with_reducible apply aw_blockN)
        | (with_reducible apply aw_blockE)
        | (with_reducible apply aw_ret)
        | (with_reducible apply aw_exit)
        | (with_reducible apply aw_skip)
        | ((with_reducible apply aw_condT); exact rfl)
        | ((with_reducible apply aw_condF); exact rfl)
        | ((with_reducible apply aw_drawL); (simp only [List.zipIdx_cons, List.zipIdx_nil, Nat.zero_add, Nat.reduceAdd] <;> rfl); kernel_rfl; kernel_rfl)
        | (with_reducible apply dw_nil)
        | fail)
      refine ⟨rfl, _, rfl, ?_, ?_⟩
      · rw [hm]; rfl
      · skip
        try dsimp only
        repeat (first | exact Keep.refl _ | (with_reducible apply Keep.bump) | (with_reducible apply Keep.alloc) | ((with_reducible apply Keep.set); (first | exact Nat.le_refl _ | (omega)); ((try simp only [AHeap.next_alloc, AHeap.next_bump, AHeap.next_set]); omega)))
    · by_cases h2 : 0 < stars
      · have p1 : (0 < stars) = True := eq_true h2
        have hm : msr names es ⟨[115, 116, 114, 117, 99, 116], name, stars, arr, many⟩ = (8, 8, 0) := by simp only [msr, kwStructB, h1, not_true_eq_false, and_false, if_false, h2, if_true]
        repeat (first
          | ((first | ((with_reducible apply wpOps_valT); exact rfl; exact rfl) | ((with_reducible apply wpOps_storeN); exact rfl; exact rfl) | ((with_reducible apply dw_pureT); exact rfl; exact rfl; exact rfl) | ((with_reducible apply dw_readT); exact rfl; exact rfl; exact rfl)); (simp only [List.getElem?_toArray, List.toList_toArray, bin_eql, bin_neq, bin_lss, bin_leq, bin_gtr, bin_geq, bin_add, bin_sub, bin_mul, un_not, unA, AHeap.get_bump, AHeap.next_bump, opK0, kMove, kPick, kAlloc, kBox, kBuild, kBuildSlice, kLoad, kStore, kNilCheck, kBinOp, kUnOp, kFieldAddr, kField, kIndexAddr, kIndex, kLookup, kMapUpdate, kMakeMap, kExtract, kSlice, kCall, lenA, evA, evAs, evParts, toAV, toAV0, toAVs, T.get_set, T.get_nil, Nat.reduceAdd, Nat.reduceMul, Nat.reduceEqDiff, Nat.zero_add, Nat.add_zero, Nat.mul_one, Nat.zero_mul, AV.cells, List.all_cons, List.all_nil, AV.scalar, Bool.and_true, Bool.true_and, ↓reduceIte, if_true, und_all, Tryd.underlying3, Tryd.underlying4, Tryd.underlying5, Tryd.underlying9, Tryd.underlying23, Tryd.underlying24, Tryd.underlying31, Tryd.underlying38, Tryd.underlying39, Tryd.underlying40, Tryd.underlying41, Tryd.underlying42, Tryd.underlying45, Tryd.underlying46, Tryd.underlying48, Tryd.underlying50, Tryd.underlying55, Tryd.underlying57, Tryd.underlying67, siz3, agg3, zer3, byt3, siz4, agg4, zer4, byt4, siz5, agg5, zer5, byt5, siz9, agg9, zer9, byt9, siz23, agg23, zer23, byt23, siz24, agg24, zer24, byt24, siz31, agg31, zer31, byt31, siz38, agg38, zer38, byt38, siz39, agg39, zer39, byt39, siz40, agg40, zer40, byt40, siz41, agg41, zer41, byt41, siz42, agg42, zer42, byt42, siz45, agg45, zer45, byt45, siz46, agg46, zer46, byt46, siz48, agg48, zer48, byt48, siz50, agg50, zer50, byt50, siz55, agg55, zer55, byt55, siz57, agg57, zer57, byt57, siz67, agg67, zer67, byt67, AHeap.get_alloc, AHeap.get_set, AHeap.next_alloc, AHeap.next_set, AHeap.loadCells, AHeap.load1, AHeap.storeCells, List.getElem?_cons_zero, List.getElem?_cons_succ, List.length_cons, List.length_nil, List.drop_zero, List.take_succ_cons, List.take_zero, List.drop_succ_cons, List.drop_nil, List.take_nil, List.append_nil, List.cons_append, List.nil_append, binA, isConstO, keyOk, ents_some, Bool.or_true, Bool.or_false, Bool.true_or, Bool.false_or, wantedA, dstOk, Option.bind_some, List.append_nil, decide_true, decide_false, beq_self_eq_true, Bool.not_true, Bool.not_false, Bool.false_eq_true, if_false, List.zipIdx_cons, reid, toAV, Fm.av, c1, c2, c3, q1, q2, q3, q4, q5, z1, z2, hf, p1] <;> rfl))
          | ((with_reducible apply wpOps_skipT); exact rfl; exact rfl)
          | ((with_reducible apply wpOps_skipN); exact rfl; exact rfl)
          | ((with_reducible apply dw_skipT); exact rfl; exact rfl)
          | (with_reducible apply aw_seq)
          | (with_reducible apply aw_regionL)
          | (with_reducible apply aw_block)
          | (with_reducible apply aw_scope)
          | (with_reducible apply aw_nil)
          | (with_reducible apply aw_then)
          | (with_reducible apply aw_thenR)
          | (with_reducible apply aw_thenE)
          | (with_reducible apply aw_blockR)
          | (with_reducible apply aw_blockN)
          | (with_reducible apply aw_blockE)
          | (with_reducible apply aw_ret)
          | (with_reducible apply aw_exit)
          | (with_reducible apply aw_skip)
          | ((with_reducible apply aw_condT); exact rfl)
          | ((with_reducible apply aw_condF); exact rfl)
          | ((with_reducible apply aw_drawL); (simp only [List.zipIdx_cons, List.zipIdx_nil, Nat.zero_add, Nat.reduceAdd] <;> rfl); kernel_rfl; kernel_rfl)
          | (with_reducible apply dw_nil)
          | fail)
        refine ⟨rfl, _, rfl, ?_, ?_⟩
        · rw [hm]; rfl
        · skip
          try dsimp only
          repeat (first | exact Keep.refl _ | (with_reducible apply Keep.bump) | (with_reducible apply Keep.alloc) | ((with_reducible apply Keep.set); (first | exact Nat.le_refl _ | (omega)); ((try simp only [AHeap.next_alloc, AHeap.next_bump, AHeap.next_set]); omega)))
      · have p1 : (0 < stars) = False := eq_false h2
        rcases hs with ⟨h3, hg⟩ | ⟨e, h3, j', hg⟩
        · have hm : msr names es ⟨[115, 116, 114, 117, 99, 116], name, stars, arr, many⟩ = (0, 0, 5) := by
            simp only [msr, kwStructB, kwChar, kwInt, kwLong, h1, not_true_eq_false, and_false, if_false, h2, m1, m2, m3, if_true, h3]
          repeat (first
            | ((first | ((with_reducible apply wpOps_valT); exact rfl; exact rfl) | ((with_reducible apply wpOps_storeN); exact rfl; exact rfl) | ((with_reducible apply dw_pureT); exact rfl; exact rfl; exact rfl) | ((with_reducible apply dw_readT); exact rfl; exact rfl; exact rfl)); (simp only [List.getElem?_toArray, List.toList_toArray, bin_eql, bin_neq, bin_lss, bin_leq, bin_gtr, bin_geq, bin_add, bin_sub, bin_mul, un_not, unA, AHeap.get_bump, AHeap.next_bump, opK0, kMove, kPick, kAlloc, kBox, kBuild, kBuildSlice, kLoad, kStore, kNilCheck, kBinOp, kUnOp, kFieldAddr, kField, kIndexAddr, kIndex, kLookup, kMapUpdate, kMakeMap, kExtract, kSlice, kCall, lenA, evA, evAs, evParts, toAV, toAV0, toAVs, T.get_set, T.get_nil, Nat.reduceAdd, Nat.reduceMul, Nat.reduceEqDiff, Nat.zero_add, Nat.add_zero, Nat.mul_one, Nat.zero_mul, AV.cells, List.all_cons, List.all_nil, AV.scalar, Bool.and_true, Bool.true_and, ↓reduceIte, if_true, und_all, Tryd.underlying3, Tryd.underlying4, Tryd.underlying5, Tryd.underlying9, Tryd.underlying23, Tryd.underlying24, Tryd.underlying31, Tryd.underlying38, Tryd.underlying39, Tryd.underlying40, Tryd.underlying41, Tryd.underlying42, Tryd.underlying45, Tryd.underlying46, Tryd.underlying48, Tryd.underlying50, Tryd.underlying55, Tryd.underlying57, Tryd.underlying67, siz3, agg3, zer3, byt3, siz4, agg4, zer4, byt4, siz5, agg5, zer5, byt5, siz9, agg9, zer9, byt9, siz23, agg23, zer23, byt23, siz24, agg24, zer24, byt24, siz31, agg31, zer31, byt31, siz38, agg38, zer38, byt38, siz39, agg39, zer39, byt39, siz40, agg40, zer40, byt40, siz41, agg41, zer41, byt41, siz42, agg42, zer42, byt42, siz45, agg45, zer45, byt45, siz46, agg46, zer46, byt46, siz48, agg48, zer48, byt48, siz50, agg50, zer50, byt50, siz55, agg55, zer55, byt55, siz57, agg57, zer57, byt57, siz67, agg67, zer67, byt67, AHeap.get_alloc, AHeap.get_set, AHeap.next_alloc, AHeap.next_set, AHeap.loadCells, AHeap.load1, AHeap.storeCells, List.getElem?_cons_zero, List.getElem?_cons_succ, List.length_cons, List.length_nil, List.drop_zero, List.take_succ_cons, List.take_zero, List.drop_succ_cons, List.drop_nil, List.take_nil, List.append_nil, List.cons_append, List.nil_append, binA, isConstO, keyOk, ents_some, Bool.or_true, Bool.or_false, Bool.true_or, Bool.false_or, wantedA, dstOk, Option.bind_some, List.append_nil, decide_true, decide_false, beq_self_eq_true, Bool.not_true, Bool.not_false, Bool.false_eq_true, if_false, List.zipIdx_cons, reid, toAV, Fm.av, c1, c2, c3, q1, q2, q3, q4, q5, z1, z2, hf, p1, hg, g1, g2, g3] <;> rfl))
            | ((with_reducible apply wpOps_skipT); exact rfl; exact rfl)
            | ((with_reducible apply wpOps_skipN); exact rfl; exact rfl)
            | ((with_reducible apply dw_allocT); exact rfl; exact rfl; exact rfl; (simp only [List.getElem?_toArray, List.toList_toArray, bin_eql, bin_neq, bin_lss, bin_leq, bin_gtr, bin_geq, bin_add, bin_sub, bin_mul, un_not, unA, AHeap.get_bump, AHeap.next_bump, opK0, kMove, kPick, kAlloc, kBox, kBuild, kBuildSlice, kLoad, kStore, kNilCheck, kBinOp, kUnOp, kFieldAddr, kField, kIndexAddr, kIndex, kLookup, kMapUpdate, kMakeMap, kExtract, kSlice, kCall, lenA, evA, evAs, evParts, toAV, toAV0, toAVs, T.get_set, T.get_nil, Nat.reduceAdd, Nat.reduceMul, Nat.reduceEqDiff, Nat.zero_add, Nat.add_zero, Nat.mul_one, Nat.zero_mul, AV.cells, List.all_cons, List.all_nil, AV.scalar, Bool.and_true, Bool.true_and, ↓reduceIte, if_true, und_all, Tryd.underlying3, Tryd.underlying4, Tryd.underlying5, Tryd.underlying9, Tryd.underlying23, Tryd.underlying24, Tryd.underlying31, Tryd.underlying38, Tryd.underlying39, Tryd.underlying40, Tryd.underlying41, Tryd.underlying42, Tryd.underlying45, Tryd.underlying46, Tryd.underlying48, Tryd.underlying50, Tryd.underlying55, Tryd.underlying57, Tryd.underlying67, siz3, agg3, zer3, byt3, siz4, agg4, zer4, byt4, siz5, agg5, zer5, byt5, siz9, agg9, zer9, byt9, siz23, agg23, zer23, byt23, siz24, agg24, zer24, byt24, siz31, agg31, zer31, byt31, siz38, agg38, zer38, byt38, siz39, agg39, zer39, byt39, siz40, agg40, zer40, byt40, siz41, agg41, zer41, byt41, siz42, agg42, zer42, byt42, siz45, agg45, zer45, byt45, siz46, agg46, zer46, byt46, siz48, agg48, zer48, byt48, siz50, agg50, zer50, byt50, siz55, agg55, zer55, byt55, siz57, agg57, zer57, byt57, siz67, agg67, zer67, byt67, AHeap.get_alloc, AHeap.get_set, AHeap.next_alloc, AHeap.next_set, AHeap.loadCells, AHeap.load1, AHeap.storeCells, List.getElem?_cons_zero, List.getElem?_cons_succ, List.length_cons, List.length_nil, List.drop_zero, List.take_succ_cons, List.take_zero, List.drop_succ_cons, List.drop_nil, List.take_nil, List.append_nil, List.cons_append, List.nil_append, binA, isConstO, keyOk, ents_some, Bool.or_true, Bool.or_false, Bool.true_or, Bool.false_or, wantedA, dstOk, Option.bind_some, List.append_nil, decide_true, decide_false, beq_self_eq_true, Bool.not_true, Bool.not_false, Bool.false_eq_true, if_false, List.zipIdx_cons, reid, toAV, Fm.av, c1, c2, c3, q1, q2, q3, q4, q5, z1, z2, hf, p1, hg, g1, g2, g3] <;> rfl); (simp only [List.getElem?_toArray, List.toList_toArray, bin_eql, bin_neq, bin_lss, bin_leq, bin_gtr, bin_geq, bin_add, bin_sub, bin_mul, un_not, unA, AHeap.get_bump, AHeap.next_bump, opK0, kMove, kPick, kAlloc, kBox, kBuild, kBuildSlice, kLoad, kStore, kNilCheck, kBinOp, kUnOp, kFieldAddr, kField, kIndexAddr, kIndex, kLookup, kMapUpdate, kMakeMap, kExtract, kSlice, kCall, lenA, evA, evAs, evParts, toAV, toAV0, toAVs, T.get_set, T.get_nil, Nat.reduceAdd, Nat.reduceMul, Nat.reduceEqDiff, Nat.zero_add, Nat.add_zero, Nat.mul_one, Nat.zero_mul, AV.cells, List.all_cons, List.all_nil, AV.scalar, Bool.and_true, Bool.true_and, ↓reduceIte, if_true, und_all, Tryd.underlying3, Tryd.underlying4, Tryd.underlying5, Tryd.underlying9, Tryd.underlying23, Tryd.underlying24, Tryd.underlying31, Tryd.underlying38, Tryd.underlying39, Tryd.underlying40, Tryd.underlying41, Tryd.underlying42, Tryd.underlying45, Tryd.underlying46, Tryd.underlying48, Tryd.underlying50, Tryd.underlying55, Tryd.underlying57, Tryd.underlying67, siz3, agg3, zer3, byt3, siz4, agg4, zer4, byt4, siz5, agg5, zer5, byt5, siz9, agg9, zer9, byt9, siz23, agg23, zer23, byt23, siz24, agg24, zer24, byt24, siz31, agg31, zer31, byt31, siz38, agg38, zer38, byt38, siz39, agg39, zer39, byt39, siz40, agg40, zer40, byt40, siz41, agg41, zer41, byt41, siz42, agg42, zer42, byt42, siz45, agg45, zer45, byt45, siz46, agg46, zer46, byt46, siz48, agg48, zer48, byt48, siz50, agg50, zer50, byt50, siz55, agg55, zer55, byt55, siz57, agg57, zer57, byt57, siz67, agg67, zer67, byt67, AHeap.get_alloc, AHeap.get_set, AHeap.next_alloc, AHeap.next_set, AHeap.loadCells, AHeap.load1, AHeap.storeCells, List.getElem?_cons_zero, List.getElem?_cons_succ, List.length_cons, List.length_nil, List.drop_zero, List.take_succ_cons, List.take_zero, List.drop_succ_cons, List.drop_nil, List.take_nil, List.append_nil, List.cons_append, List.nil_append, binA, isConstO, keyOk, ents_some, Bool.or_true, Bool.or_false, Bool.true_or, Bool.false_or, wantedA, dstOk, Option.bind_some, List.append_nil, decide_true, decide_false, beq_self_eq_true, Bool.not_true, Bool.not_false, Bool.false_eq_true, if_false, List.zipIdx_cons, reid, toAV, Fm.av, c1, c2, c3, q1, q2, q3, q4, q5, z1, z2, hf, p1, hg, g1, g2, g3] <;> rfl); (simp only [List.getElem?_toArray, List.toList_toArray, bin_eql, bin_neq, bin_lss, bin_leq, bin_gtr, bin_geq, bin_add, bin_sub, bin_mul, un_not, unA, AHeap.get_bump, AHeap.next_bump, opK0, kMove, kPick, kAlloc, kBox, kBuild, kBuildSlice, kLoad, kStore, kNilCheck, kBinOp, kUnOp, kFieldAddr, kField, kIndexAddr, kIndex, kLookup, kMapUpdate, kMakeMap, kExtract, kSlice, kCall, lenA, evA, evAs, evParts, toAV, toAV0, toAVs, T.get_set, T.get_nil, Nat.reduceAdd, Nat.reduceMul, Nat.reduceEqDiff, Nat.zero_add, Nat.add_zero, Nat.mul_one, Nat.zero_mul, AV.cells, List.all_cons, List.all_nil, AV.scalar, Bool.and_true, Bool.true_and, ↓reduceIte, if_true, und_all, Tryd.underlying3, Tryd.underlying4, Tryd.underlying5, Tryd.underlying9, Tryd.underlying23, Tryd.underlying24, Tryd.underlying31, Tryd.underlying38, Tryd.underlying39, Tryd.underlying40, Tryd.underlying41, Tryd.underlying42, Tryd.underlying45, Tryd.underlying46, Tryd.underlying48, Tryd.underlying50, Tryd.underlying55, Tryd.underlying57, Tryd.underlying67, siz3, agg3, zer3, byt3, siz4, agg4, zer4, byt4, siz5, agg5, zer5, byt5, siz9, agg9, zer9, byt9, siz23, agg23, zer23, byt23, siz24, agg24, zer24, byt24, siz31, agg31, zer31, byt31, siz38, agg38, zer38, byt38, siz39, agg39, zer39, byt39, siz40, agg40, zer40, byt40, siz41, agg41, zer41, byt41, siz42, agg42, zer42, byt42, siz45, agg45, zer45, byt45, siz46, agg46, zer46, byt46, siz48, agg48, zer48, byt48, siz50, agg50, zer50, byt50, siz55, agg55, zer55, byt55, siz57, agg57, zer57, byt57, siz67, agg67, zer67, byt67, AHeap.get_alloc, AHeap.get_set, AHeap.next_alloc, AHeap.next_set, AHeap.loadCells, AHeap.load1, AHeap.storeCells, List.getElem?_cons_zero, List.getElem?_cons_succ, List.length_cons, List.length_nil, List.drop_zero, List.take_succ_cons, List.take_zero, List.drop_succ_cons, List.drop_nil, List.take_nil, List.append_nil, List.cons_append, List.nil_append, binA, isConstO, keyOk, ents_some, Bool.or_true, Bool.or_false, Bool.true_or, Bool.false_or, wantedA, dstOk, Option.bind_some, List.append_nil, decide_true, decide_false, beq_self_eq_true, Bool.not_true, Bool.not_false, Bool.false_eq_true, if_false, List.zipIdx_cons, reid, toAV, Fm.av, c1, c2, c3, q1, q2, q3, q4, q5, z1, z2, hf, p1, hg, g1, g2, g3] <;> rfl); exact rfl)
            | ((with_reducible apply dw_storeN); exact rfl; exact rfl; exact rfl; (simp only [List.getElem?_toArray, List.toList_toArray, bin_eql, bin_neq, bin_lss, bin_leq, bin_gtr, bin_geq, bin_add, bin_sub, bin_mul, un_not, unA, AHeap.get_bump, AHeap.next_bump, opK0, kMove, kPick, kAlloc, kBox, kBuild, kBuildSlice, kLoad, kStore, kNilCheck, kBinOp, kUnOp, kFieldAddr, kField, kIndexAddr, kIndex, kLookup, kMapUpdate, kMakeMap, kExtract, kSlice, kCall, lenA, evA, evAs, evParts, toAV, toAV0, toAVs, T.get_set, T.get_nil, Nat.reduceAdd, Nat.reduceMul, Nat.reduceEqDiff, Nat.zero_add, Nat.add_zero, Nat.mul_one, Nat.zero_mul, AV.cells, List.all_cons, List.all_nil, AV.scalar, Bool.and_true, Bool.true_and, ↓reduceIte, if_true, und_all, Tryd.underlying3, Tryd.underlying4, Tryd.underlying5, Tryd.underlying9, Tryd.underlying23, Tryd.underlying24, Tryd.underlying31, Tryd.underlying38, Tryd.underlying39, Tryd.underlying40, Tryd.underlying41, Tryd.underlying42, Tryd.underlying45, Tryd.underlying46, Tryd.underlying48, Tryd.underlying50, Tryd.underlying55, Tryd.underlying57, Tryd.underlying67, siz3, agg3, zer3, byt3, siz4, agg4, zer4, byt4, siz5, agg5, zer5, byt5, siz9, agg9, zer9, byt9, siz23, agg23, zer23, byt23, siz24, agg24, zer24, byt24, siz31, agg31, zer31, byt31, siz38, agg38, zer38, byt38, siz39, agg39, zer39, byt39, siz40, agg40, zer40, byt40, siz41, agg41, zer41, byt41, siz42, agg42, zer42, byt42, siz45, agg45, zer45, byt45, siz46, agg46, zer46, byt46, siz48, agg48, zer48, byt48, siz50, agg50, zer50, byt50, siz55, agg55, zer55, byt55, siz57, agg57, zer57, byt57, siz67, agg67, zer67, byt67, AHeap.get_alloc, AHeap.get_set, AHeap.next_alloc, AHeap.next_set, AHeap.loadCells, AHeap.load1, AHeap.storeCells, List.getElem?_cons_zero, List.getElem?_cons_succ, List.length_cons, List.length_nil, List.drop_zero, List.take_succ_cons, List.take_zero, List.drop_succ_cons, List.drop_nil, List.take_nil, List.append_nil, List.cons_append, List.nil_append, binA, isConstO, keyOk, ents_some, Bool.or_true, Bool.or_false, Bool.true_or, Bool.false_or, wantedA, dstOk, Option.bind_some, List.append_nil, decide_true, decide_false, beq_self_eq_true, Bool.not_true, Bool.not_false, Bool.false_eq_true, if_false, List.zipIdx_cons, reid, toAV, Fm.av, c1, c2, c3, q1, q2, q3, q4, q5, z1, z2, hf, p1, hg, g1, g2, g3] <;> rfl); kernel_rfl; kernel_rfl)
            | ((with_reducible apply dw_skipT); exact rfl; exact rfl)
            | (with_reducible apply aw_seq)
            | (with_reducible apply aw_regionL)
            | (with_reducible apply aw_block)
            | (with_reducible apply aw_scope)
            | (with_reducible apply aw_nil)
            | (with_reducible apply aw_then)
            | (with_reducible apply aw_thenR)
            | (with_reducible apply aw_thenE)
            | (with_reducible apply aw_blockR)
            | (with_reducible apply aw_blockN)
            | (with_reducible apply aw_blockE)
            | (with_reducible apply aw_ret)
            | (with_reducible apply aw_exit)
            | (with_reducible apply aw_skip)
            | ((with_reducible apply aw_condT); exact rfl)
            | ((with_reducible apply aw_condF); exact rfl)
            | ((with_reducible apply aw_drawL); (simp only [List.zipIdx_cons, List.zipIdx_nil, Nat.zero_add, Nat.reduceAdd] <;> rfl); kernel_rfl; kernel_rfl)
            | (with_reducible apply dw_nil)
            | fail)
          refine ⟨rfl, _, rfl, ?_, ?_⟩
          · rw [hm]; rfl
          · skip
            try dsimp only
            repeat (first | exact Keep.refl _ | (with_reducible apply Keep.bump) | (with_reducible apply Keep.alloc) | ((with_reducible apply Keep.set); (first | exact Nat.le_refl _ | (omega)); ((try simp only [AHeap.next_alloc, AHeap.next_bump, AHeap.next_set]); omega)))
        · have hm : msr names es ⟨[115, 116, 114, 117, 99, 116], name, stars, arr, many⟩ = (e.size, e.align, 0) := by
            simp only [msr, kwStructB, kwChar, kwInt, kwLong, h1, not_true_eq_false, and_false, if_false, h2, m1, m2, m3, if_true, h3]
          simp only [Ent.val] at hg
          repeat (first
            | ((first | ((with_reducible apply wpOps_valT); exact rfl; exact rfl) | ((with_reducible apply wpOps_storeN); exact rfl; exact rfl) | ((with_reducible apply dw_pureT); exact rfl; exact rfl; exact rfl) | ((with_reducible apply dw_readT); exact rfl; exact rfl; exact rfl)); (simp only [List.getElem?_toArray, List.toList_toArray, bin_eql, bin_neq, bin_lss, bin_leq, bin_gtr, bin_geq, bin_add, bin_sub, bin_mul, un_not, unA, AHeap.get_bump, AHeap.next_bump, opK0, kMove, kPick, kAlloc, kBox, kBuild, kBuildSlice, kLoad, kStore, kNilCheck, kBinOp, kUnOp, kFieldAddr, kField, kIndexAddr, kIndex, kLookup, kMapUpdate, kMakeMap, kExtract, kSlice, kCall, lenA, evA, evAs, evParts, toAV, toAV0, toAVs, T.get_set, T.get_nil, Nat.reduceAdd, Nat.reduceMul, Nat.reduceEqDiff, Nat.zero_add, Nat.add_zero, Nat.mul_one, Nat.zero_mul, AV.cells, List.all_cons, List.all_nil, AV.scalar, Bool.and_true, Bool.true_and, ↓reduceIte, if_true, und_all, Tryd.underlying3, Tryd.underlying4, Tryd.underlying5, Tryd.underlying9, Tryd.underlying23, Tryd.underlying24, Tryd.underlying31, Tryd.underlying38, Tryd.underlying39, Tryd.underlying40, Tryd.underlying41, Tryd.underlying42, Tryd.underlying45, Tryd.underlying46, Tryd.underlying48, Tryd.underlying50, Tryd.underlying55, Tryd.underlying57, Tryd.underlying67, siz3, agg3, zer3, byt3, siz4, agg4, zer4, byt4, siz5, agg5, zer5, byt5, siz9, agg9, zer9, byt9, siz23, agg23, zer23, byt23, siz24, agg24, zer24, byt24, siz31, agg31, zer31, byt31, siz38, agg38, zer38, byt38, siz39, agg39, zer39, byt39, siz40, agg40, zer40, byt40, siz41, agg41, zer41, byt41, siz42, agg42, zer42, byt42, siz45, agg45, zer45, byt45, siz46, agg46, zer46, byt46, siz48, agg48, zer48, byt48, siz50, agg50, zer50, byt50, siz55, agg55, zer55, byt55, siz57, agg57, zer57, byt57, siz67, agg67, zer67, byt67, AHeap.get_alloc, AHeap.get_set, AHeap.next_alloc, AHeap.next_set, AHeap.loadCells, AHeap.load1, AHeap.storeCells, List.getElem?_cons_zero, List.getElem?_cons_succ, List.length_cons, List.length_nil, List.drop_zero, List.take_succ_cons, List.take_zero, List.drop_succ_cons, List.drop_nil, List.take_nil, List.append_nil, List.cons_append, List.nil_append, binA, isConstO, keyOk, ents_some, Bool.or_true, Bool.or_false, Bool.true_or, Bool.false_or, wantedA, dstOk, Option.bind_some, List.append_nil, decide_true, decide_false, beq_self_eq_true, Bool.not_true, Bool.not_false, Bool.false_eq_true, if_false, List.zipIdx_cons, reid, toAV, Fm.av, c1, c2, c3, q1, q2, q3, q4, q5, z1, z2, hf, p1, hg, g1, g2, g3] <;> rfl))
            | ((with_reducible apply wpOps_skipT); exact rfl; exact rfl)
            | ((with_reducible apply wpOps_skipN); exact rfl; exact rfl)
            | ((with_reducible apply dw_allocT); exact rfl; exact rfl; exact rfl; (simp only [List.getElem?_toArray, List.toList_toArray, bin_eql, bin_neq, bin_lss, bin_leq, bin_gtr, bin_geq, bin_add, bin_sub, bin_mul, un_not, unA, AHeap.get_bump, AHeap.next_bump, opK0, kMove, kPick, kAlloc, kBox, kBuild, kBuildSlice, kLoad, kStore, kNilCheck, kBinOp, kUnOp, kFieldAddr, kField, kIndexAddr, kIndex, kLookup, kMapUpdate, kMakeMap, kExtract, kSlice, kCall, lenA, evA, evAs, evParts, toAV, toAV0, toAVs, T.get_set, T.get_nil, Nat.reduceAdd, Nat.reduceMul, Nat.reduceEqDiff, Nat.zero_add, Nat.add_zero, Nat.mul_one, Nat.zero_mul, AV.cells, List.all_cons, List.all_nil, AV.scalar, Bool.and_true, Bool.true_and, ↓reduceIte, if_true, und_all, Tryd.underlying3, Tryd.underlying4, Tryd.underlying5, Tryd.underlying9, Tryd.underlying23, Tryd.underlying24, Tryd.underlying31, Tryd.underlying38, Tryd.underlying39, Tryd.underlying40, Tryd.underlying41, Tryd.underlying42, Tryd.underlying45, Tryd.underlying46, Tryd.underlying48, Tryd.underlying50, Tryd.underlying55, Tryd.underlying57, Tryd.underlying67, siz3, agg3, zer3, byt3, siz4, agg4, zer4, byt4, siz5, agg5, zer5, byt5, siz9, agg9, zer9, byt9, siz23, agg23, zer23, byt23, siz24, agg24, zer24, byt24, siz31, agg31, zer31, byt31, siz38, agg38, zer38, byt38, siz39, agg39, zer39, byt39, siz40, agg40, zer40, byt40, siz41, agg41, zer41, byt41, siz42, agg42, zer42, byt42, siz45, agg45, zer45, byt45, siz46, agg46, zer46, byt46, siz48, agg48, zer48, byt48, siz50, agg50, zer50, byt50, siz55, agg55, zer55, byt55, siz57, agg57, zer57, byt57, siz67, agg67, zer67, byt67, AHeap.get_alloc, AHeap.get_set, AHeap.next_alloc, AHeap.next_set, AHeap.loadCells, AHeap.load1, AHeap.storeCells, List.getElem?_cons_zero, List.getElem?_cons_succ, List.length_cons, List.length_nil, List.drop_zero, List.take_succ_cons, List.take_zero, List.drop_succ_cons, List.drop_nil, List.take_nil, List.append_nil, List.cons_append, List.nil_append, binA, isConstO, keyOk, ents_some, Bool.or_true, Bool.or_false, Bool.true_or, Bool.false_or, wantedA, dstOk, Option.bind_some, List.append_nil, decide_true, decide_false, beq_self_eq_true, Bool.not_true, Bool.not_false, Bool.false_eq_true, if_false, List.zipIdx_cons, reid, toAV, Fm.av, c1, c2, c3, q1, q2, q3, q4, q5, z1, z2, hf, p1, hg, g1, g2, g3] <;> rfl); (simp only [List.getElem?_toArray, List.toList_toArray, bin_eql, bin_neq, bin_lss, bin_leq, bin_gtr, bin_geq, bin_add, bin_sub, bin_mul, un_not, unA, AHeap.get_bump, AHeap.next_bump, opK0, kMove, kPick, kAlloc, kBox, kBuild, kBuildSlice, kLoad, kStore, kNilCheck, kBinOp, kUnOp, kFieldAddr, kField, kIndexAddr, kIndex, kLookup, kMapUpdate, kMakeMap, kExtract, kSlice, kCall, lenA, evA, evAs, evParts, toAV, toAV0, toAVs, T.get_set, T.get_nil, Nat.reduceAdd, Nat.reduceMul, Nat.reduceEqDiff, Nat.zero_add, Nat.add_zero, Nat.mul_one, Nat.zero_mul, AV.cells, List.all_cons, List.all_nil, AV.scalar, Bool.and_true, Bool.true_and, ↓reduceIte, if_true, und_all, Tryd.underlying3, Tryd.underlying4, Tryd.underlying5, Tryd.underlying9, Tryd.underlying23, Tryd.underlying24, Tryd.underlying31, Tryd.underlying38, Tryd.underlying39, Tryd.underlying40, Tryd.underlying41, Tryd.underlying42, Tryd.underlying45, Tryd.underlying46, Tryd.underlying48, Tryd.underlying50, Tryd.underlying55, Tryd.underlying57, Tryd.underlying67, siz3, agg3, zer3, byt3, siz4, agg4, zer4, byt4, siz5, agg5, zer5, byt5, siz9, agg9, zer9, byt9, siz23, agg23, zer23, byt23, siz24, agg24, zer24, byt24, siz31, agg31, zer31, byt31, siz38, agg38, zer38, byt38, siz39, agg39, zer39, byt39, siz40, agg40, zer40, byt40, siz41, agg41, zer41, byt41, siz42, agg42, zer42, byt42, siz45, agg45, zer45, byt45, siz46, agg46, zer46, byt46, siz48, agg48, zer48, byt48, siz50, agg50, zer50, byt50, siz55, agg55, zer55, byt55, siz57, agg57, zer57, byt57, siz67, agg67, zer67, byt67, AHeap.get_alloc, AHeap.get_set, AHeap.next_alloc, AHeap.next_set, AHeap.loadCells, AHeap.load1, AHeap.storeCells, List.getElem?_cons_zero, List.getElem?_cons_succ, List.length_cons, List.length_nil, List.drop_zero, List.take_succ_cons, List.take_zero, List.drop_succ_cons, List.drop_nil, List.take_nil, List.append_nil, List.cons_append, List.nil_append, binA, isConstO, keyOk, ents_some, Bool.or_true, Bool.or_false, Bool.true_or, Bool.false_or, wantedA, dstOk, Option.bind_some, List.append_nil, decide_true, decide_false, beq_self_eq_true, Bool.not_true, Bool.not_false, Bool.false_eq_true, if_false, List.zipIdx_cons, reid, toAV, Fm.av, c1, c2, c3, q1, q2, q3, q4, q5, z1, z2, hf, p1, hg, g1, g2, g3] <;> rfl); (simp only [List.getElem?_toArray, List.toList_toArray, bin_eql, bin_neq, bin_lss, bin_leq, bin_gtr, bin_geq, bin_add, bin_sub, bin_mul, un_not, unA, AHeap.get_bump, AHeap.next_bump, opK0, kMove, kPick, kAlloc, kBox, kBuild, kBuildSlice, kLoad, kStore, kNilCheck, kBinOp, kUnOp, kFieldAddr, kField, kIndexAddr, kIndex, kLookup, kMapUpdate, kMakeMap, kExtract, kSlice, kCall, lenA, evA, evAs, evParts, toAV, toAV0, toAVs, T.get_set, T.get_nil, Nat.reduceAdd, Nat.reduceMul, Nat.reduceEqDiff, Nat.zero_add, Nat.add_zero, Nat.mul_one, Nat.zero_mul, AV.cells, List.all_cons, List.all_nil, AV.scalar, Bool.and_true, Bool.true_and, ↓reduceIte, if_true, und_all, Tryd.underlying3, Tryd.underlying4, Tryd.underlying5, Tryd.underlying9, Tryd.underlying23, Tryd.underlying24, Tryd.underlying31, Tryd.underlying38, Tryd.underlying39, Tryd.underlying40, Tryd.underlying41, Tryd.underlying42, Tryd.underlying45, Tryd.underlying46, Tryd.underlying48, Tryd.underlying50, Tryd.underlying55, Tryd.underlying57, Tryd.underlying67, siz3, agg3, zer3, byt3, siz4, agg4, zer4, byt4, siz5, agg5, zer5, byt5, siz9, agg9, zer9, byt9, siz23, agg23, zer23, byt23, siz24, agg24, zer24, byt24, siz31, agg31, zer31, byt31, siz38, agg38, zer38, byt38, siz39, agg39, zer39, byt39, siz40, agg40, zer40, byt40, siz41, agg41, zer41, byt41, siz42, agg42, zer42, byt42, siz45, agg45, zer45, byt45, siz46, agg46, zer46, byt46, siz48, agg48, zer48, byt48, siz50, agg50, zer50, byt50, siz55, agg55, zer55, byt55, siz57, agg57, zer57, byt57, siz67, agg67, zer67, byt67, AHeap.get_alloc, AHeap.get_set, AHeap.next_alloc, AHeap.next_set, AHeap.loadCells, AHeap.load1, AHeap.storeCells, List.getElem?_cons_zero, List.getElem?_cons_succ, List.length_cons, List.length_nil, List.drop_zero, List.take_succ_cons, List.take_zero, List.drop_succ_cons, List.drop_nil, List.take_nil, List.append_nil, List.cons_append, List.nil_append, binA, isConstO, keyOk, ents_some, Bool.or_true, Bool.or_false, Bool.true_or, Bool.false_or, wantedA, dstOk, Option.bind_some, List.append_nil, decide_true, decide_false, beq_self_eq_true, Bool.not_true, Bool.not_false, Bool.false_eq_true, if_false, List.zipIdx_cons, reid, toAV, Fm.av, c1, c2, c3, q1, q2, q3, q4, q5, z1, z2, hf, p1, hg, g1, g2, g3] <;> rfl); exact rfl)
            | ((with_reducible apply dw_storeN); exact rfl; exact rfl; exact rfl; (simp only [List.getElem?_toArray, List.toList_toArray, bin_eql, bin_neq, bin_lss, bin_leq, bin_gtr, bin_geq, bin_add, bin_sub, bin_mul, un_not, unA, AHeap.get_bump, AHeap.next_bump, opK0, kMove, kPick, kAlloc, kBox, kBuild, kBuildSlice, kLoad, kStore, kNilCheck, kBinOp, kUnOp, kFieldAddr, kField, kIndexAddr, kIndex, kLookup, kMapUpdate, kMakeMap, kExtract, kSlice, kCall, lenA, evA, evAs, evParts, toAV, toAV0, toAVs, T.get_set, T.get_nil, Nat.reduceAdd, Nat.reduceMul, Nat.reduceEqDiff, Nat.zero_add, Nat.add_zero, Nat.mul_one, Nat.zero_mul, AV.cells, List.all_cons, List.all_nil, AV.scalar, Bool.and_true, Bool.true_and, ↓reduceIte, if_true, und_all, Tryd.underlying3, Tryd.underlying4, Tryd.underlying5, Tryd.underlying9, Tryd.underlying23, Tryd.underlying24, Tryd.underlying31, Tryd.underlying38, Tryd.underlying39, Tryd.underlying40, Tryd.underlying41, Tryd.underlying42, Tryd.underlying45, Tryd.underlying46, Tryd.underlying48, Tryd.underlying50, Tryd.underlying55, Tryd.underlying57, Tryd.underlying67, siz3, agg3, zer3, byt3, siz4, agg4, zer4, byt4, siz5, agg5, zer5, byt5, siz9, agg9, zer9, byt9, siz23, agg23, zer23, byt23, siz24, agg24, zer24, byt24, siz31, agg31, zer31, byt31, siz38, agg38, zer38, byt38, siz39, agg39, zer39, byt39, siz40, agg40, zer40, byt40, siz41, agg41, zer41, byt41, siz42, agg42, zer42, byt42, siz45, agg45, zer45, byt45, siz46, agg46, zer46, byt46, siz48, agg48, zer48, byt48, siz50, agg50, zer50, byt50, siz55, agg55, zer55, byt55, siz57, agg57, zer57, byt57, siz67, agg67, zer67, byt67, AHeap.get_alloc, AHeap.get_set, AHeap.next_alloc, AHeap.next_set, AHeap.loadCells, AHeap.load1, AHeap.storeCells, List.getElem?_cons_zero, List.getElem?_cons_succ, List.length_cons, List.length_nil, List.drop_zero, List.take_succ_cons, List.take_zero, List.drop_succ_cons, List.drop_nil, List.take_nil, List.append_nil, List.cons_append, List.nil_append, binA, isConstO, keyOk, ents_some, Bool.or_true, Bool.or_false, Bool.true_or, Bool.false_or, wantedA, dstOk, Option.bind_some, List.append_nil, decide_true, decide_false, beq_self_eq_true, Bool.not_true, Bool.not_false, Bool.false_eq_true, if_false, List.zipIdx_cons, reid, toAV, Fm.av, c1, c2, c3, q1, q2, q3, q4, q5, z1, z2, hf, p1, hg, g1, g2, g3] <;> rfl); kernel_rfl; kernel_rfl)
            | ((with_reducible apply dw_skipT); exact rfl; exact rfl)
            | (with_reducible apply aw_seq)
            | (with_reducible apply aw_regionL)
            | (with_reducible apply aw_block)
            | (with_reducible apply aw_scope)
            | (with_reducible apply aw_nil)
            | (with_reducible apply aw_then)
            | (with_reducible apply aw_thenR)
            | (with_reducible apply aw_thenE)
            | (with_reducible apply aw_blockR)
            | (with_reducible apply aw_blockN)
            | (with_reducible apply aw_blockE)
            | (with_reducible apply aw_ret)
            | (with_reducible apply aw_exit)
            | (with_reducible apply aw_skip)
            | ((with_reducible apply aw_condT); exact rfl)
            | ((with_reducible apply aw_condF); exact rfl)
            | ((with_reducible apply aw_drawL); (simp only [List.zipIdx_cons, List.zipIdx_nil, Nat.zero_add, Nat.reduceAdd] <;> rfl); kernel_rfl; kernel_rfl)
            | (with_reducible apply dw_nil)
            | fail)
          refine ⟨rfl, _, rfl, ?_, ?_⟩
          · rw [hm]; rfl
          · skip
            try dsimp only
            repeat (first | exact Keep.refl _ | (with_reducible apply Keep.bump) | (with_reducible apply Keep.alloc) | ((with_reducible apply Keep.set); (first | exact Nat.le_refl _ | (omega)); ((try simp only [AHeap.next_alloc, AHeap.next_bump, AHeap.next_set]); omega)))
  · have g0 : (base == [115, 116, 114, 117, 99, 116]) = false := by simpa using h0
    by_cases h2 : 0 < stars
    · have p1 : (0 < stars) = True := eq_true h2
      have hm : msr names es ⟨base, name, stars, arr, many⟩ = (8, 8, 0) := by simp only [msr, kwStructB, h0, false_and, if_false, h2, if_true]
      repeat (first
        | ((first | ((with_reducible apply wpOps_valT); exact rfl; exact rfl) | ((with_reducible apply wpOps_storeN); exact rfl; exact rfl) | ((with_reducible apply dw_pureT); exact rfl; exact rfl; exact rfl) | ((with_reducible apply dw_readT); exact rfl; exact rfl; exact rfl)); (simp only [List.getElem?_toArray, List.toList_toArray, bin_eql, bin_neq, bin_lss, bin_leq, bin_gtr, bin_geq, bin_add, bin_sub, bin_mul, un_not, unA, AHeap.get_bump, AHeap.next_bump, opK0, kMove, kPick, kAlloc, kBox, kBuild, kBuildSlice, kLoad, kStore, kNilCheck, kBinOp, kUnOp, kFieldAddr, kField, kIndexAddr, kIndex, kLookup, kMapUpdate, kMakeMap, kExtract, kSlice, kCall, lenA, evA, evAs, evParts, toAV, toAV0, toAVs, T.get_set, T.get_nil, Nat.reduceAdd, Nat.reduceMul, Nat.reduceEqDiff, Nat.zero_add, Nat.add_zero, Nat.mul_one, Nat.zero_mul, AV.cells, List.all_cons, List.all_nil, AV.scalar, Bool.and_true, Bool.true_and, ↓reduceIte, if_true, und_all, Tryd.underlying3, Tryd.underlying4, Tryd.underlying5, Tryd.underlying9, Tryd.underlying23, Tryd.underlying24, Tryd.underlying31, Tryd.underlying38, Tryd.underlying39, Tryd.underlying40, Tryd.underlying41, Tryd.underlying42, Tryd.underlying45, Tryd.underlying46, Tryd.underlying48, Tryd.underlying50, Tryd.underlying55, Tryd.underlying57, Tryd.underlying67, siz3, agg3, zer3, byt3, siz4, agg4, zer4, byt4, siz5, agg5, zer5, byt5, siz9, agg9, zer9, byt9, siz23, agg23, zer23, byt23, siz24, agg24, zer24, byt24, siz31, agg31, zer31, byt31, siz38, agg38, zer38, byt38, siz39, agg39, zer39, byt39, siz40, agg40, zer40, byt40, siz41, agg41, zer41, byt41, siz42, agg42, zer42, byt42, siz45, agg45, zer45, byt45, siz46, agg46, zer46, byt46, siz48, agg48, zer48, byt48, siz50, agg50, zer50, byt50, siz55, agg55, zer55, byt55, siz57, agg57, zer57, byt57, siz67, agg67, zer67, byt67, AHeap.get_alloc, AHeap.get_set, AHeap.next_alloc, AHeap.next_set, AHeap.loadCells, AHeap.load1, AHeap.storeCells, List.getElem?_cons_zero, List.getElem?_cons_succ, List.length_cons, List.length_nil, List.drop_zero, List.take_succ_cons, List.take_zero, List.drop_succ_cons, List.drop_nil, List.take_nil, List.append_nil, List.cons_append, List.nil_append, binA, isConstO, keyOk, ents_some, Bool.or_true, Bool.or_false, Bool.true_or, Bool.false_or, wantedA, dstOk, Option.bind_some, List.append_nil, decide_true, decide_false, beq_self_eq_true, Bool.not_true, Bool.not_false, Bool.false_eq_true, if_false, List.zipIdx_cons, reid, toAV, Fm.av, c1, c2, c3, q1, q2, q3, q4, q5, z1, z2, g0, p1] <;> rfl))
        | ((with_reducible apply wpOps_skipT); exact rfl; exact rfl)
        | ((with_reducible apply wpOps_skipN); exact rfl; exact rfl)
        | ((with_reducible apply dw_skipT); exact rfl; exact rfl)
        | (with_reducible apply aw_seq)
        | (with_reducible apply aw_regionL)
        | (with_reducible apply aw_block)
        | (with_reducible apply aw_scope)
        | (with_reducible apply aw_nil)
        | (with_reducible apply aw_then)
        | (with_reducible apply aw_thenR)
        | (with_reducible apply aw_thenE)
        | (with_reducible apply aw_blockR)
        | (with_reducible apply aw_blockN)
        | (with_reducible apply aw_blockE)
        | (with_reducible apply aw_ret)
        | (with_reducible apply aw_exit)
        | (with_reducible apply aw_skip)
        | ((with_reducible apply aw_condT); exact rfl)
        | ((with_reducible apply aw_condF); exact rfl)
        | ((with_reducible apply aw_drawL); (simp only [List.zipIdx_cons, List.zipIdx_nil, Nat.zero_add, Nat.reduceAdd] <;> rfl); kernel_rfl; kernel_rfl)
        | (with_reducible apply dw_nil)
        | fail)
      refine ⟨rfl, _, rfl, ?_, ?_⟩
      · rw [hm]; rfl
      · skip
        try dsimp only
        repeat (first | exact Keep.refl _ | (with_reducible apply Keep.bump) | (with_reducible apply Keep.alloc) | ((with_reducible apply Keep.set); (first | exact Nat.le_refl _ | (omega)); ((try simp only [AHeap.next_alloc, AHeap.next_bump, AHeap.next_set]); omega)))
    · have p1 : (0 < stars) = False := eq_false h2
      by_cases h3 : base = [99, 104, 97, 114]
      · subst h3
        have hm : msr names es ⟨[99, 104, 97, 114], name, stars, arr, many⟩ = (1, 1, 0) := by simp only [msr, kwStructB, kwChar, h0, false_and, if_false, h2, if_true]
        repeat (first
          | ((first | ((with_reducible apply wpOps_valT); exact rfl; exact rfl) | ((with_reducible apply wpOps_storeN); exact rfl; exact rfl) | ((with_reducible apply dw_pureT); exact rfl; exact rfl; exact rfl) | ((with_reducible apply dw_readT); exact rfl; exact rfl; exact rfl)); (simp only [List.getElem?_toArray, List.toList_toArray, bin_eql, bin_neq, bin_lss, bin_leq, bin_gtr, bin_geq, bin_add, bin_sub, bin_mul, un_not, unA, AHeap.get_bump, AHeap.next_bump, opK0, kMove, kPick, kAlloc, kBox, kBuild, kBuildSlice, kLoad, kStore, kNilCheck, kBinOp, kUnOp, kFieldAddr, kField, kIndexAddr, kIndex, kLookup, kMapUpdate, kMakeMap, kExtract, kSlice, kCall, lenA, evA, evAs, evParts, toAV, toAV0, toAVs, T.get_set, T.get_nil, Nat.reduceAdd, Nat.reduceMul, Nat.reduceEqDiff, Nat.zero_add, Nat.add_zero, Nat.mul_one, Nat.zero_mul, AV.cells, List.all_cons, List.all_nil, AV.scalar, Bool.and_true, Bool.true_and, ↓reduceIte, if_true, und_all, Tryd.underlying3, Tryd.underlying4, Tryd.underlying5, Tryd.underlying9, Tryd.underlying23, Tryd.underlying24, Tryd.underlying31, Tryd.underlying38, Tryd.underlying39, Tryd.underlying40, Tryd.underlying41, Tryd.underlying42, Tryd.underlying45, Tryd.underlying46, Tryd.underlying48, Tryd.underlying50, Tryd.underlying55, Tryd.underlying57, Tryd.underlying67, siz3, agg3, zer3, byt3, siz4, agg4, zer4, byt4, siz5, agg5, zer5, byt5, siz9, agg9, zer9, byt9, siz23, agg23, zer23, byt23, siz24, agg24, zer24, byt24, siz31, agg31, zer31, byt31, siz38, agg38, zer38, byt38, siz39, agg39, zer39, byt39, siz40, agg40, zer40, byt40, siz41, agg41, zer41, byt41, siz42, agg42, zer42, byt42, siz45, agg45, zer45, byt45, siz46, agg46, zer46, byt46, siz48, agg48, zer48, byt48, siz50, agg50, zer50, byt50, siz55, agg55, zer55, byt55, siz57, agg57, zer57, byt57, siz67, agg67, zer67, byt67, AHeap.get_alloc, AHeap.get_set, AHeap.next_alloc, AHeap.next_set, AHeap.loadCells, AHeap.load1, AHeap.storeCells, List.getElem?_cons_zero, List.getElem?_cons_succ, List.length_cons, List.length_nil, List.drop_zero, List.take_succ_cons, List.take_zero, List.drop_succ_cons, List.drop_nil, List.take_nil, List.append_nil, List.cons_append, List.nil_append, binA, isConstO, keyOk, ents_some, Bool.or_true, Bool.or_false, Bool.true_or, Bool.false_or, wantedA, dstOk, Option.bind_some, List.append_nil, decide_true, decide_false, beq_self_eq_true, Bool.not_true, Bool.not_false, Bool.false_eq_true, if_false, List.zipIdx_cons, reid, toAV, Fm.av, c1, c2, c3, q1, q2, q3, q4, q5, z1, z2, g0, p1] <;> rfl))
          | ((with_reducible apply wpOps_skipT); exact rfl; exact rfl)
          | ((with_reducible apply wpOps_skipN); exact rfl; exact rfl)
          | ((with_reducible apply dw_skipT); exact rfl; exact rfl)
          | (with_reducible apply aw_seq)
          | (with_reducible apply aw_regionL)
          | (with_reducible apply aw_block)
          | (with_reducible apply aw_scope)
          | (with_reducible apply aw_nil)
          | (with_reducible apply aw_then)
          | (with_reducible apply aw_thenR)
          | (with_reducible apply aw_thenE)
          | (with_reducible apply aw_blockR)
          | (with_reducible apply aw_blockN)
          | (with_reducible apply aw_blockE)
          | (with_reducible apply aw_ret)
          | (with_reducible apply aw_exit)
          | (with_reducible apply aw_skip)
          | ((with_reducible apply aw_condT); exact rfl)
          | ((with_reducible apply aw_condF); exact rfl)
          | ((with_reducible apply aw_drawL); (simp only [List.zipIdx_cons, List.zipIdx_nil, Nat.zero_add, Nat.reduceAdd] <;> rfl); kernel_rfl; kernel_rfl)
          | (with_reducible apply dw_nil)
          | fail)
        refine ⟨rfl, _, rfl, ?_, ?_⟩
        · rw [hm]; rfl
        · skip
          try dsimp only
          repeat (first | exact Keep.refl _ | (with_reducible apply Keep.bump) | (with_reducible apply Keep.alloc) | ((with_reducible apply Keep.set); (first | exact Nat.le_refl _ | (omega)); ((try simp only [AHeap.next_alloc, AHeap.next_bump, AHeap.next_set]); omega)))
      · have g1 : (base == [99, 104, 97, 114]) = false := by simpa using h3
        by_cases h4 : base = [105, 110, 116]
        · subst h4
          have hm : msr names es ⟨[105, 110, 116], name, stars, arr, many⟩ = (4, 4, 0) := by simp only [msr, kwStructB, kwChar, kwInt, h0, h3, false_and, if_false, h2, if_true]
          repeat (first
            | ((first | ((with_reducible apply wpOps_valT); exact rfl; exact rfl) | ((with_reducible apply wpOps_storeN); exact rfl; exact rfl) | ((with_reducible apply dw_pureT); exact rfl; exact rfl; exact rfl) | ((with_reducible apply dw_readT); exact rfl; exact rfl; exact rfl)); (simp only [List.getElem?_toArray, List.toList_toArray, bin_eql, bin_neq, bin_lss, bin_leq, bin_gtr, bin_geq, bin_add, bin_sub, bin_mul, un_not, unA, AHeap.get_bump, AHeap.next_bump, opK0, kMove, kPick, kAlloc, kBox, kBuild, kBuildSlice, kLoad, kStore, kNilCheck, kBinOp, kUnOp, kFieldAddr, kField, kIndexAddr, kIndex, kLookup, kMapUpdate, kMakeMap, kExtract, kSlice, kCall, lenA, evA, evAs, evParts, toAV, toAV0, toAVs, T.get_set, T.get_nil, Nat.reduceAdd, Nat.reduceMul, Nat.reduceEqDiff, Nat.zero_add, Nat.add_zero, Nat.mul_one, Nat.zero_mul, AV.cells, List.all_cons, List.all_nil, AV.scalar, Bool.and_true, Bool.true_and, ↓reduceIte, if_true, und_all, Tryd.underlying3, Tryd.underlying4, Tryd.underlying5, Tryd.underlying9, Tryd.underlying23, Tryd.underlying24, Tryd.underlying31, Tryd.underlying38, Tryd.underlying39, Tryd.underlying40, Tryd.underlying41, Tryd.underlying42, Tryd.underlying45, Tryd.underlying46, Tryd.underlying48, Tryd.underlying50, Tryd.underlying55, Tryd.underlying57, Tryd.underlying67, siz3, agg3, zer3, byt3, siz4, agg4, zer4, byt4, siz5, agg5, zer5, byt5, siz9, agg9, zer9, byt9, siz23, agg23, zer23, byt23, siz24, agg24, zer24, byt24, siz31, agg31, zer31, byt31, siz38, agg38, zer38, byt38, siz39, agg39, zer39, byt39, siz40, agg40, zer40, byt40, siz41, agg41, zer41, byt41, siz42, agg42, zer42, byt42, siz45, agg45, zer45, byt45, siz46, agg46, zer46, byt46, siz48, agg48, zer48, byt48, siz50, agg50, zer50, byt50, siz55, agg55, zer55, byt55, siz57, agg57, zer57, byt57, siz67, agg67, zer67, byt67, AHeap.get_alloc, AHeap.get_set, AHeap.next_alloc, AHeap.next_set, AHeap.loadCells, AHeap.load1, AHeap.storeCells, List.getElem?_cons_zero, List.getElem?_cons_succ, List.length_cons, List.length_nil, List.drop_zero, List.take_succ_cons, List.take_zero, List.drop_succ_cons, List.drop_nil, List.take_nil, List.append_nil, List.cons_append, List.nil_append, binA, isConstO, keyOk, ents_some, Bool.or_true, Bool.or_false, Bool.true_or, Bool.false_or, wantedA, dstOk, Option.bind_some, List.append_nil, decide_true, decide_false, beq_self_eq_true, Bool.not_true, Bool.not_false, Bool.false_eq_true, if_false, List.zipIdx_cons, reid, toAV, Fm.av, c1, c2, c3, q1, q2, q3, q4, q5, z1, z2, g0, g1, p1] <;> rfl))
            | ((with_reducible apply wpOps_skipT); exact rfl; exact rfl)
            | ((with_reducible apply wpOps_skipN); exact rfl; exact rfl)
            | ((with_reducible apply dw_skipT); exact rfl; exact rfl)
            | (with_reducible apply aw_seq)
            | (with_reducible apply aw_regionL)
            | (with_reducible apply aw_block)
            | (with_reducible apply aw_scope)
            | (with_reducible apply aw_nil)
            | (with_reducible apply aw_then)
            | (with_reducible apply aw_thenR)
            | (with_reducible apply aw_thenE)
            | (with_reducible apply aw_blockR)
            | (with_reducible apply aw_blockN)
            | (with_reducible apply aw_blockE)
            | (with_reducible apply aw_ret)
            | (with_reducible apply aw_exit)
            | (with_reducible apply aw_skip)
            | ((with_reducible apply aw_condT); exact rfl)
            | ((with_reducible apply aw_condF); exact rfl)
            | ((with_reducible apply aw_drawL); (simp only [List.zipIdx_cons, List.zipIdx_nil, Nat.zero_add, Nat.reduceAdd] <;> rfl); kernel_rfl; kernel_rfl)
            | (with_reducible apply dw_nil)
            | fail)
          refine ⟨rfl, _, rfl, ?_, ?_⟩
          · rw [hm]; rfl
          · skip
            try dsimp only
            repeat (first | exact Keep.refl _ | (with_reducible apply Keep.bump) | (with_reducible apply Keep.alloc) | ((with_reducible apply Keep.set); (first | exact Nat.le_refl _ | (omega)); ((try simp only [AHeap.next_alloc, AHeap.next_bump, AHeap.next_set]); omega)))
        · have g2 : (base == [105, 110, 116]) = false := by simpa using h4
          by_cases h5 : base = [108, 111, 110, 103]
          · subst h5
            have hm : msr names es ⟨[108, 111, 110, 103], name, stars, arr, many⟩ = (8, 8, 0) := by simp only [msr, kwStructB, kwChar, kwInt, kwLong, h0, h3, h4, false_and, if_false, h2, if_true]
            repeat (first
              | ((first | ((with_reducible apply wpOps_valT); exact rfl; exact rfl) | ((with_reducible apply wpOps_storeN); exact rfl; exact rfl) | ((with_reducible apply dw_pureT); exact rfl; exact rfl; exact rfl) | ((with_reducible apply dw_readT); exact rfl; exact rfl; exact rfl)); (simp only [List.getElem?_toArray, List.toList_toArray, bin_eql, bin_neq, bin_lss, bin_leq, bin_gtr, bin_geq, bin_add, bin_sub, bin_mul, un_not, unA, AHeap.get_bump, AHeap.next_bump, opK0, kMove, kPick, kAlloc, kBox, kBuild, kBuildSlice, kLoad, kStore, kNilCheck, kBinOp, kUnOp, kFieldAddr, kField, kIndexAddr, kIndex, kLookup, kMapUpdate, kMakeMap, kExtract, kSlice, kCall, lenA, evA, evAs, evParts, toAV, toAV0, toAVs, T.get_set, T.get_nil, Nat.reduceAdd, Nat.reduceMul, Nat.reduceEqDiff, Nat.zero_add, Nat.add_zero, Nat.mul_one, Nat.zero_mul, AV.cells, List.all_cons, List.all_nil, AV.scalar, Bool.and_true, Bool.true_and, ↓reduceIte, if_true, und_all, Tryd.underlying3, Tryd.underlying4, Tryd.underlying5, Tryd.underlying9, Tryd.underlying23, Tryd.underlying24, Tryd.underlying31, Tryd.underlying38, Tryd.underlying39, Tryd.underlying40, Tryd.underlying41, Tryd.underlying42, Tryd.underlying45, Tryd.underlying46, Tryd.underlying48, Tryd.underlying50, Tryd.underlying55, Tryd.underlying57, Tryd.underlying67, siz3, agg3, zer3, byt3, siz4, agg4, zer4, byt4, siz5, agg5, zer5, byt5, siz9, agg9, zer9, byt9, siz23, agg23, zer23, byt23, siz24, agg24, zer24, byt24, siz31, agg31, zer31, byt31, siz38, agg38, zer38, byt38, siz39, agg39, zer39, byt39, siz40, agg40, zer40, byt40, siz41, agg41, zer41, byt41, siz42, agg42, zer42, byt42, siz45, agg45, zer45, byt45, siz46, agg46, zer46, byt46, siz48, agg48, zer48, byt48, siz50, agg50, zer50, byt50, siz55, agg55, zer55, byt55, siz57, agg57, zer57, byt57, siz67, agg67, zer67, byt67, AHeap.get_alloc, AHeap.get_set, AHeap.next_alloc, AHeap.next_set, AHeap.loadCells, AHeap.load1, AHeap.storeCells, List.getElem?_cons_zero, List.getElem?_cons_succ, List.length_cons, List.length_nil, List.drop_zero, List.take_succ_cons, List.take_zero, List.drop_succ_cons, List.drop_nil, List.take_nil, List.append_nil, List.cons_append, List.nil_append, binA, isConstO, keyOk, ents_some, Bool.or_true, Bool.or_false, Bool.true_or, Bool.false_or, wantedA, dstOk, Option.bind_some, List.append_nil, decide_true, decide_false, beq_self_eq_true, Bool.not_true, Bool.not_false, Bool.false_eq_true, if_false, List.zipIdx_cons, reid, toAV, Fm.av, c1, c2, c3, q1, q2, q3, q4, q5, z1, z2, g0, g1, g2, p1] <;> rfl))
              | ((with_reducible apply wpOps_skipT); exact rfl; exact rfl)
              | ((with_reducible apply wpOps_skipN); exact rfl; exact rfl)
              | ((with_reducible apply dw_skipT); exact rfl; exact rfl)
              | (with_reducible apply aw_seq)
              | (with_reducible apply aw_regionL)
              | (with_reducible apply aw_block)
              | (with_reducible apply aw_scope)
              | (with_reducible apply aw_nil)
              | (with_reducible apply aw_then)
              | (with_reducible apply aw_thenR)
              | (with_reducible apply aw_thenE)
              | (with_reducible apply aw_blockR)
              | (with_reducible apply aw_blockN)
              | (with_reducible apply aw_blockE)
              | (with_reducible apply aw_ret)
              | (with_reducible apply aw_exit)
              | (with_reducible apply aw_skip)
              | ((with_reducible apply aw_condT); exact rfl)
              | ((with_reducible apply aw_condF); exact rfl)
              | ((with_reducible apply aw_drawL); (simp only [List.zipIdx_cons, List.zipIdx_nil, Nat.zero_add, Nat.reduceAdd] <;> rfl); kernel_rfl; kernel_rfl)
              | (with_reducible apply dw_nil)
              | fail)
            refine ⟨rfl, _, rfl, ?_, ?_⟩
            · rw [hm]; rfl
            · skip
              try dsimp only
              repeat (first | exact Keep.refl _ | (with_reducible apply Keep.bump) | (with_reducible apply Keep.alloc) | ((with_reducible apply Keep.set); (first | exact Nat.le_refl _ | (omega)); ((try simp only [AHeap.next_alloc, AHeap.next_bump, AHeap.next_set]); omega)))
          · have g3 : (base == [108, 111, 110, 103]) = false := by simpa using h5
            have hm : msr names es ⟨base, name, stars, arr, many⟩ = (0, 0, 5) := by simp only [msr, kwStructB, kwChar, kwInt, kwLong, h0, h3, h4, h5, false_and, if_false, h2]
            repeat (first
              | ((first | ((with_reducible apply wpOps_valT); exact rfl; exact rfl) | ((with_reducible apply wpOps_storeN); exact rfl; exact rfl) | ((with_reducible apply dw_pureT); exact rfl; exact rfl; exact rfl) | ((with_reducible apply dw_readT); exact rfl; exact rfl; exact rfl)); (simp only [List.getElem?_toArray, List.toList_toArray, bin_eql, bin_neq, bin_lss, bin_leq, bin_gtr, bin_geq, bin_add, bin_sub, bin_mul, un_not, unA, AHeap.get_bump, AHeap.next_bump, opK0, kMove, kPick, kAlloc, kBox, kBuild, kBuildSlice, kLoad, kStore, kNilCheck, kBinOp, kUnOp, kFieldAddr, kField, kIndexAddr, kIndex, kLookup, kMapUpdate, kMakeMap, kExtract, kSlice, kCall, lenA, evA, evAs, evParts, toAV, toAV0, toAVs, T.get_set, T.get_nil, Nat.reduceAdd, Nat.reduceMul, Nat.reduceEqDiff, Nat.zero_add, Nat.add_zero, Nat.mul_one, Nat.zero_mul, AV.cells, List.all_cons, List.all_nil, AV.scalar, Bool.and_true, Bool.true_and, ↓reduceIte, if_true, und_all, Tryd.underlying3, Tryd.underlying4, Tryd.underlying5, Tryd.underlying9, Tryd.underlying23, Tryd.underlying24, Tryd.underlying31, Tryd.underlying38, Tryd.underlying39, Tryd.underlying40, Tryd.underlying41, Tryd.underlying42, Tryd.underlying45, Tryd.underlying46, Tryd.underlying48, Tryd.underlying50, Tryd.underlying55, Tryd.underlying57, Tryd.underlying67, siz3, agg3, zer3, byt3, siz4, agg4, zer4, byt4, siz5, agg5, zer5, byt5, siz9, agg9, zer9, byt9, siz23, agg23, zer23, byt23, siz24, agg24, zer24, byt24, siz31, agg31, zer31, byt31, siz38, agg38, zer38, byt38, siz39, agg39, zer39, byt39, siz40, agg40, zer40, byt40, siz41, agg41, zer41, byt41, siz42, agg42, zer42, byt42, siz45, agg45, zer45, byt45, siz46, agg46, zer46, byt46, siz48, agg48, zer48, byt48, siz50, agg50, zer50, byt50, siz55, agg55, zer55, byt55, siz57, agg57, zer57, byt57, siz67, agg67, zer67, byt67, AHeap.get_alloc, AHeap.get_set, AHeap.next_alloc, AHeap.next_set, AHeap.loadCells, AHeap.load1, AHeap.storeCells, List.getElem?_cons_zero, List.getElem?_cons_succ, List.length_cons, List.length_nil, List.drop_zero, List.take_succ_cons, List.take_zero, List.drop_succ_cons, List.drop_nil, List.take_nil, List.append_nil, List.cons_append, List.nil_append, binA, isConstO, keyOk, ents_some, Bool.or_true, Bool.or_false, Bool.true_or, Bool.false_or, wantedA, dstOk, Option.bind_some, List.append_nil, decide_true, decide_false, beq_self_eq_true, Bool.not_true, Bool.not_false, Bool.false_eq_true, if_false, List.zipIdx_cons, reid, toAV, Fm.av, c1, c2, c3, q1, q2, q3, q4, q5, z1, z2, g0, g1, g2, g3, p1] <;> rfl))
              | ((with_reducible apply wpOps_skipT); exact rfl; exact rfl)
              | ((with_reducible apply wpOps_skipN); exact rfl; exact rfl)
              | ((with_reducible apply dw_skipT); exact rfl; exact rfl)
              | (with_reducible apply aw_seq)
              | (with_reducible apply aw_regionL)
              | (with_reducible apply aw_block)
              | (with_reducible apply aw_scope)
              | (with_reducible apply aw_nil)
              | (with_reducible apply aw_then)
              | (with_reducible apply aw_thenR)
              | (with_reducible apply aw_thenE)
              | (with_reducible apply aw_blockR)
              | (with_reducible apply aw_blockN)
              | (with_reducible apply aw_blockE)
              | (with_reducible apply aw_ret)
              | (with_reducible apply aw_exit)
              | (with_reducible apply aw_skip)
              | ((with_reducible apply aw_condT); exact rfl)
              | ((with_reducible apply aw_condF); exact rfl)
              | ((with_reducible apply aw_drawL); (simp only [List.zipIdx_cons, List.zipIdx_nil, Nat.zero_add, Nat.reduceAdd] <;> rfl); kernel_rfl; kernel_rfl)
              | (with_reducible apply dw_nil)
              | fail)
            refine ⟨rfl, _, rfl, ?_, ?_⟩
            · rw [hm]; rfl
            · skip
              try dsimp only
              repeat (first | exact Keep.refl _ | (with_reducible apply Keep.bump) | (with_reducible apply Keep.alloc) | ((with_reducible apply Keep.set); (first | exact Nat.le_refl _ | (omega)); ((try simp only [AHeap.next_alloc, AHeap.next_bump, AHeap.next_set]); omega)))

theorem parseUint10_ge : ∀ (l : List UInt8) (acc u : Nat), Lib.parseUint10 acc l = .ok u → acc ≤ u
  | [], acc, u, h => by
    simp only [Lib.parseUint10] at h
    injection h with h
    omega
  | c :: r, acc, u, h => by
    simp only [Lib.parseUint10] at h
    split at h
    · split at h
      · cases h
      · split at h
        · cases h
        · have := parseUint10_ge r _ u h
          omega
    · cases h
theorem trim_head {c : UInt8} {ds cs : List UInt8} (h : Lib.trimS (c :: ds) cs = []) : cs.contains c = true := by
  cases hc : cs.contains c with
  | true => rfl
  | false =>
    exfalso
    unfold Lib.trimS Lib.trimLeftS Lib.trimRightS at h
    rw [List.reverse_cons, List.dropWhile_append] at h
    split at h
    · simp only [List.dropWhile_cons, hc, List.dropWhile_nil, Bool.false_eq_true, if_false, List.reverse_cons, List.reverse_nil, List.nil_append] at h
      cases h
    · simp only [List.reverse_append, List.reverse_cons, List.reverse_nil, List.nil_append, List.cons_append, List.dropWhile_cons, hc, Bool.false_eq_true, if_false] at h
      cases h
theorem manyF_ge {c : UInt8} {ds : List UInt8} (hc : c ≠ 48) (h : Lib.trimS (c :: ds) digits = []) : 1 ≤ manyF (c :: ds) ∧ manyF (c :: ds) ≤ 65537 := by
  have hd := trim_head h
  have hr : 49 ≤ c.toNat ∧ c.toNat ≤ 57 := by
    have h0 : c.toNat ≠ 48 := fun e => hc (UInt8.toNat.inj (by rw [e]; rfl))
    simp only [digits, List.contains_iff_mem, List.mem_cons, List.not_mem_nil, or_false] at hd
    rcases hd with e | e | e | e | e | e | e | e | e | e <;> subst e <;> first | (exact ⟨by decide, by decide⟩) | exact absurd rfl hc
  unfold manyF
  split
  · rename_i v hv
    have h1 : 1 ≤ v := by
      simp only [Lib.atoiAll] at hv
      rw [if_neg (by omega)] at hv
      split at hv
      · cases hv
      · cases hv
      · rename_i u hu
        have hu1 : 1 ≤ u := by
          simp only [Lib.parseMag, List.cons_ne_nil, if_false, Lib.parseUint10] at hu
          rw [if_pos (by omega), if_neg (by omega), if_neg (by omega)] at hu
          have := parseUint10_ge _ _ _ hu
          omega
        split at hv
        · cases hv
        · split at hv
          · cases hv
          · injection hv with hv
            rw [if_neg (by omega)] at hv
            omega
    split <;> omega
  · omega
theorem rd_many {s : List UInt8} (ha : (rd s).1.arr = true) : 1 ≤ (rd s).1.many ∧ (rd s).1.many ≤ 65537 := by
  cases hr : rdArr s with
  | none => simp only [rd, hr] at ha; cases ha
  | some p =>
    obtain ⟨a, m⟩ := p
    simp only [rd, hr] at ha ⊢
    have h1 : (rdTail (cutF s).1 a m).1.arr = a ∧ (rdTail (cutF s).1 a m).1.many = m := by
      unfold rdTail
      dsimp only
      split <;> exact ⟨rfl, rfl⟩
    rw [h1.1] at ha
    rw [h1.2]
    subst ha
    unfold rdArr at hr
    split at hr
    · unfold figF at hr
      split at hr
      · split at hr
        · cases hr
        · rename_i c ds _
          split at hr
          · cases hr
          · rename_i h48
            split at hr
            · rename_i ht
              simp only [Option.map] at hr
              injection hr with hr
              injection hr with _ hr
              subst hr
              exact manyF_ge h48 ht
            · cases hr
      · cases hr
    · injection hr with hr
      injection hr with hr _
      cases hr
/-- What Size answers. -/
def szF (names : List (List UInt8)) (es : List Ent) (s : List UInt8) : Int × Int × Int :=
  if (rd s).2 = true then
    if (msr names es (rd s).1).2.2 = 0 then
      if (rd s).1.arr = true then
        if Int.tdiv 65536 (msr names es (rd s).1).1 < (rd s).1.many then (0, 0, 2)
        else ((msr names es (rd s).1).1 * (rd s).1.many, (msr names es (rd s).1).2.1, 0)
      else ((msr names es (rd s).1).1, (msr names es (rd s).1).2.1, 0)
    else (0, 0, (msr names es (rd s).1).2.2)
  else (0, 0, 5)
def Fits (es : List Ent) : Prop := ∀ e ∈ es, 1 ≤ e.size ∧ e.size ≤ 65536 ∧ (e.align = 1 ∨ e.align = 4 ∨ e.align = 8) ∧ e.size % e.align = 0
theorem findE_mem {k : List UInt8} : ∀ {es : List Ent} {e : Ent}, findE k es = some e → e ∈ es ∧ e.name = k
  | [], e, h => by cases h
  | x :: es, e, h => by
    simp only [findE] at h
    split at h
    · rename_i hx
      injection h with h
      subst h
      exact ⟨by simp, hx⟩
    · have := findE_mem h
      exact ⟨by simp [this.1], this.2⟩
theorem msr_fits {names : List (List UInt8)} {es : List Ent} {f : Fm} (hE : Fits es) (h0 : (msr names es f).2.2 = 0) :
    1 ≤ (msr names es f).1 ∧ (msr names es f).1 ≤ 65536 ∧ ((msr names es f).2.1 = 1 ∨ (msr names es f).2.1 = 4 ∨ (msr names es f).2.1 = 8) ∧ (msr names es f).1 % (msr names es f).2.1 = 0 := by
  unfold msr at h0 ⊢
  split
  · rename_i h; rw [if_pos h] at h0; cases h0
  · rename_i h; rw [if_neg h] at h0
    split
    · exact ⟨by decide, by decide, .inr (.inr rfl), rfl⟩
    · rename_i h; rw [if_neg h] at h0
      split
      · exact ⟨by decide, by decide, .inl rfl, rfl⟩
      · rename_i h; rw [if_neg h] at h0
        split
        · exact ⟨by decide, by decide, .inr (.inl rfl), rfl⟩
        · rename_i h; rw [if_neg h] at h0
          split
          · exact ⟨by decide, by decide, .inr (.inr rfl), rfl⟩
          · rename_i h; rw [if_neg h] at h0
            split
            · rename_i h; rw [if_pos h] at h0
              split
              · rename_i hn; simp only [hn] at h0; cases h0
              · rename_i e he; exact hE e (findE_mem he).1
            · rename_i h; rw [if_neg h] at h0; cases h0
theorem msr_err (names : List (List UInt8)) (es : List Ent) (f : Fm) : (msr names es f).2.2 = 0 ∨ (msr names es f).2.2 = 5 := by
  unfold msr
  repeat' split
  all_goals first | exact .inl rfl | exact .inr rfl
theorem szF_err (names : List (List UInt8)) (es : List Ent) (s : List UInt8) : (szF names es s).2.2 = 0 ∨ (szF names es s).2.2 = 2 ∨ (szF names es s).2.2 = 5 := by
  unfold szF
  split
  · split
    · split
      · split
        · exact .inr (.inl rfl)
        · exact .inl rfl
      · exact .inl rfl
    · rcases msr_err names es (rd s).1 with e | e
      · rename_i h; exact (h e).elim
      · exact .inr (.inr e)
  · exact .inr (.inr rfl)
theorem szF_fits {names : List (List UInt8)} {es : List Ent} {s : List UInt8} (hE : Fits es) (h0 : (szF names es s).2.2 = 0) :
    1 ≤ (szF names es s).1 ∧ (szF names es s).1 ≤ 65536 ∧ ((szF names es s).2.1 = 1 ∨ (szF names es s).2.1 = 4 ∨ (szF names es s).2.1 = 8) := by
  unfold szF at h0 ⊢
  split
  · rename_i h; rw [if_pos h] at h0
    split
    · rename_i h1; rw [if_pos h1] at h0
      obtain ⟨a1, a2, a3, a4⟩ := msr_fits hE h1
      split
      · rename_i h2; rw [if_pos h2] at h0
        have hm := rd_many h2
        split
        · rename_i h3; rw [if_pos h3] at h0; cases h0
        · rename_i h3
          refine ⟨?_, ?_, a3⟩
          · have := Int.mul_le_mul a1 hm.1 (by omega) (by omega); omega
          · have h4 : (rd s).1.many ≤ Int.tdiv 65536 (msr names es (rd s).1).1 := by omega
            have h5 := Int.mul_le_mul_of_nonneg_left h4 (show 0 ≤ (msr names es (rd s).1).1 by omega)
            rw [Int.tdiv_eq_ediv_of_nonneg (by omega)] at h5
            have h7 := Int.mul_ediv_self_le (x := 65536) (k := (msr names es (rd s).1).1) (by omega)
            omega
      · exact ⟨a1, a2, a3⟩
    · rename_i h1; rw [if_neg h1] at h0; exact (h1 h0).elim
  · rename_i h; rw [if_neg h] at h0; cases h0
theorem res9 : Tryd.f9.results.toList = [.tmp 4, .tmp 5, .tmp 6] := rfl

theorem size_w (h : AHeap) (tb nm st : Nat) (names : List (List UInt8)) (es : List Ent) (s : List UInt8) (hT : TabAt tb nm st h names es) (hF : Fresh h) (hE : Fits es) (hs : s.length ≤ 281474976710656) :
    WCall env 9 [.ptr (some (tb, 0)), .str s] h (fun out h' => out = retM (szF names es s) ∧ Keep h h') := by
  have hma := @rd_many s
  refine WCall.body pr9 fn9 rfl (Nat.le_of_ble_eq_true rfl) ?_
  simp only [argsA]
  repeat (first
    | ((first | ((with_reducible apply wpOps_valT); exact rfl; exact rfl) | ((with_reducible apply wpOps_storeN); exact rfl; exact rfl) | ((with_reducible apply dw_pureT); exact rfl; exact rfl; exact rfl) | ((with_reducible apply dw_readT); exact rfl; exact rfl; exact rfl)); (simp only [List.getElem?_toArray, List.toList_toArray, bin_eql, bin_neq, bin_lss, bin_leq, bin_gtr, bin_geq, bin_add, bin_sub, bin_mul, un_not, unA, AHeap.get_bump, AHeap.next_bump, opK0, kMove, kPick, kAlloc, kBox, kBuild, kBuildSlice, kLoad, kStore, kNilCheck, kBinOp, kUnOp, kFieldAddr, kField, kIndexAddr, kIndex, kLookup, kMapUpdate, kMakeMap, kExtract, kSlice, kCall, lenA, evA, evAs, evParts, toAV, toAV0, toAVs, T.get_set, T.get_nil, Nat.reduceAdd, Nat.reduceMul, Nat.reduceEqDiff, Nat.zero_add, Nat.add_zero, Nat.mul_one, Nat.zero_mul, AV.cells, List.all_cons, List.all_nil, AV.scalar, Bool.and_true, Bool.true_and, ↓reduceIte, if_true, und_all, Tryd.underlying3, Tryd.underlying4, Tryd.underlying5, Tryd.underlying9, Tryd.underlying23, Tryd.underlying24, Tryd.underlying31, Tryd.underlying38, Tryd.underlying39, Tryd.underlying40, Tryd.underlying41, Tryd.underlying42, Tryd.underlying45, Tryd.underlying46, Tryd.underlying48, Tryd.underlying50, Tryd.underlying55, Tryd.underlying57, Tryd.underlying67, siz3, agg3, zer3, byt3, siz4, agg4, zer4, byt4, siz5, agg5, zer5, byt5, siz9, agg9, zer9, byt9, siz23, agg23, zer23, byt23, siz24, agg24, zer24, byt24, siz31, agg31, zer31, byt31, siz38, agg38, zer38, byt38, siz39, agg39, zer39, byt39, siz40, agg40, zer40, byt40, siz41, agg41, zer41, byt41, siz42, agg42, zer42, byt42, siz45, agg45, zer45, byt45, siz46, agg46, zer46, byt46, siz48, agg48, zer48, byt48, siz50, agg50, zer50, byt50, siz55, agg55, zer55, byt55, siz57, agg57, zer57, byt57, siz67, agg67, zer67, byt67, AHeap.get_alloc, AHeap.get_set, AHeap.next_alloc, AHeap.next_set, AHeap.loadCells, AHeap.load1, AHeap.storeCells, List.getElem?_cons_zero, List.getElem?_cons_succ, List.length_cons, List.length_nil, List.drop_zero, List.take_succ_cons, List.take_zero, List.drop_succ_cons, List.drop_nil, List.take_nil, List.append_nil, List.cons_append, List.nil_append, binA, isConstO, keyOk, ents_some, Bool.or_true, Bool.or_false, Bool.true_or, Bool.false_or, wantedA, dstOk, Option.bind_some, List.append_nil, decide_true, decide_false, beq_self_eq_true, Bool.not_true, Bool.not_false, Bool.false_eq_true, if_false, List.zipIdx_cons, reid, toAV] <;> rfl))
    | ((with_reducible apply wpOps_skipT); exact rfl; exact rfl)
    | ((with_reducible apply wpOps_skipN); exact rfl; exact rfl)
    | ((with_reducible apply dw_skipT); exact rfl; exact rfl)
    | (with_reducible apply aw_seq)
    | (with_reducible apply aw_regionL)
    | (with_reducible apply aw_block)
    | (with_reducible apply aw_scope)
    | (with_reducible apply aw_nil)
    | (with_reducible apply aw_then)
    | (with_reducible apply aw_thenR)
    | (with_reducible apply aw_thenE)
    | (with_reducible apply aw_blockR)
    | (with_reducible apply aw_blockN)
    | (with_reducible apply aw_blockE)
    | (with_reducible apply aw_ret)
    | (with_reducible apply aw_exit)
    | (with_reducible apply aw_skip)
    | ((with_reducible apply aw_condT); exact rfl)
    | ((with_reducible apply aw_condF); exact rfl)
    | ((with_reducible apply aw_drawL); (simp only [List.zipIdx_cons, List.zipIdx_nil, Nat.zero_add, Nat.reduceAdd] <;> rfl); kernel_rfl; kernel_rfl)
    | (with_reducible apply dw_nil)
    | fail)

  (with_reducible apply wpOps_callT); exact rfl; exact rfl; (simp only [List.getElem?_toArray, List.toList_toArray, bin_eql, bin_neq, bin_lss, bin_leq, bin_gtr, bin_geq, bin_add, bin_sub, bin_mul, un_not, unA, AHeap.get_bump, AHeap.next_bump, opK0, kMove, kPick, kAlloc, kBox, kBuild, kBuildSlice, kLoad, kStore, kNilCheck, kBinOp, kUnOp, kFieldAddr, kField, kIndexAddr, kIndex, kLookup, kMapUpdate, kMakeMap, kExtract, kSlice, kCall, lenA, evA, evAs, evParts, toAV, toAV0, toAVs, T.get_set, T.get_nil, Nat.reduceAdd, Nat.reduceMul, Nat.reduceEqDiff, Nat.zero_add, Nat.add_zero, Nat.mul_one, Nat.zero_mul, AV.cells, List.all_cons, List.all_nil, AV.scalar, Bool.and_true, Bool.true_and, ↓reduceIte, if_true, und_all, Tryd.underlying3, Tryd.underlying4, Tryd.underlying5, Tryd.underlying9, Tryd.underlying23, Tryd.underlying24, Tryd.underlying31, Tryd.underlying38, Tryd.underlying39, Tryd.underlying40, Tryd.underlying41, Tryd.underlying42, Tryd.underlying45, Tryd.underlying46, Tryd.underlying48, Tryd.underlying50, Tryd.underlying55, Tryd.underlying57, Tryd.underlying67, siz3, agg3, zer3, byt3, siz4, agg4, zer4, byt4, siz5, agg5, zer5, byt5, siz9, agg9, zer9, byt9, siz23, agg23, zer23, byt23, siz24, agg24, zer24, byt24, siz31, agg31, zer31, byt31, siz38, agg38, zer38, byt38, siz39, agg39, zer39, byt39, siz40, agg40, zer40, byt40, siz41, agg41, zer41, byt41, siz42, agg42, zer42, byt42, siz45, agg45, zer45, byt45, siz46, agg46, zer46, byt46, siz48, agg48, zer48, byt48, siz50, agg50, zer50, byt50, siz55, agg55, zer55, byt55, siz57, agg57, zer57, byt57, siz67, agg67, zer67, byt67, AHeap.get_alloc, AHeap.get_set, AHeap.next_alloc, AHeap.next_set, AHeap.loadCells, AHeap.load1, AHeap.storeCells, List.getElem?_cons_zero, List.getElem?_cons_succ, List.length_cons, List.length_nil, List.drop_zero, List.take_succ_cons, List.take_zero, List.drop_succ_cons, List.drop_nil, List.take_nil, List.append_nil, List.cons_append, List.nil_append, binA, isConstO, keyOk, ents_some, Bool.or_true, Bool.or_false, Bool.true_or, Bool.false_or, wantedA, dstOk, Option.bind_some, List.append_nil, decide_true, decide_false, beq_self_eq_true, Bool.not_true, Bool.not_false, Bool.false_eq_true, if_false, List.zipIdx_cons, reid, toAV] <;> rfl)

  refine (read_w h s hs).mono fun out h2 hq => ?_
  obtain ⟨rfl, k1⟩ := hq
  dsimp only
  unfold szF
  generalize rd s = r at *
  obtain ⟨f, ok⟩ := r
  dsimp only at hma ⊢
  cases ok with
  | false =>
    repeat (first
      | ((first | ((with_reducible apply wpOps_valT); exact rfl; exact rfl) | ((with_reducible apply wpOps_storeN); exact rfl; exact rfl) | ((with_reducible apply dw_pureT); exact rfl; exact rfl; exact rfl) | ((with_reducible apply dw_readT); exact rfl; exact rfl; exact rfl)); (simp only [List.getElem?_toArray, List.toList_toArray, bin_eql, bin_neq, bin_lss, bin_leq, bin_gtr, bin_geq, bin_add, bin_sub, bin_mul, un_not, unA, AHeap.get_bump, AHeap.next_bump, opK0, kMove, kPick, kAlloc, kBox, kBuild, kBuildSlice, kLoad, kStore, kNilCheck, kBinOp, kUnOp, kFieldAddr, kField, kIndexAddr, kIndex, kLookup, kMapUpdate, kMakeMap, kExtract, kSlice, kCall, lenA, evA, evAs, evParts, toAV, toAV0, toAVs, T.get_set, T.get_nil, Nat.reduceAdd, Nat.reduceMul, Nat.reduceEqDiff, Nat.zero_add, Nat.add_zero, Nat.mul_one, Nat.zero_mul, AV.cells, List.all_cons, List.all_nil, AV.scalar, Bool.and_true, Bool.true_and, ↓reduceIte, if_true, und_all, Tryd.underlying3, Tryd.underlying4, Tryd.underlying5, Tryd.underlying9, Tryd.underlying23, Tryd.underlying24, Tryd.underlying31, Tryd.underlying38, Tryd.underlying39, Tryd.underlying40, Tryd.underlying41, Tryd.underlying42, Tryd.underlying45, Tryd.underlying46, Tryd.underlying48, Tryd.underlying50, Tryd.underlying55, Tryd.underlying57, Tryd.underlying67, siz3, agg3, zer3, byt3, siz4, agg4, zer4, byt4, siz5, agg5, zer5, byt5, siz9, agg9, zer9, byt9, siz23, agg23, zer23, byt23, siz24, agg24, zer24, byt24, siz31, agg31, zer31, byt31, siz38, agg38, zer38, byt38, siz39, agg39, zer39, byt39, siz40, agg40, zer40, byt40, siz41, agg41, zer41, byt41, siz42, agg42, zer42, byt42, siz45, agg45, zer45, byt45, siz46, agg46, zer46, byt46, siz48, agg48, zer48, byt48, siz50, agg50, zer50, byt50, siz55, agg55, zer55, byt55, siz57, agg57, zer57, byt57, siz67, agg67, zer67, byt67, AHeap.get_alloc, AHeap.get_set, AHeap.next_alloc, AHeap.next_set, AHeap.loadCells, AHeap.load1, AHeap.storeCells, List.getElem?_cons_zero, List.getElem?_cons_succ, List.length_cons, List.length_nil, List.drop_zero, List.take_succ_cons, List.take_zero, List.drop_succ_cons, List.drop_nil, List.take_nil, List.append_nil, List.cons_append, List.nil_append, binA, isConstO, keyOk, ents_some, Bool.or_true, Bool.or_false, Bool.true_or, Bool.false_or, wantedA, dstOk, Option.bind_some, List.append_nil, decide_true, decide_false, beq_self_eq_true, Bool.not_true, Bool.not_false, Bool.false_eq_true, if_false, List.zipIdx_cons, reid, toAV, Fm.av] <;> rfl))
      | ((with_reducible apply wpOps_skipT); exact rfl; exact rfl)
      | ((with_reducible apply wpOps_skipN); exact rfl; exact rfl)
      | ((with_reducible apply dw_skipT); exact rfl; exact rfl)
      | (with_reducible apply aw_seq)
      | (with_reducible apply aw_regionL)
      | (with_reducible apply aw_block)
      | (with_reducible apply aw_scope)
      | (with_reducible apply aw_nil)
      | (with_reducible apply aw_then)
      | (with_reducible apply aw_thenR)
      | (with_reducible apply aw_thenE)
      | (with_reducible apply aw_blockR)
      | (with_reducible apply aw_blockN)
      | (with_reducible apply aw_blockE)
      | (with_reducible apply aw_ret)
      | (with_reducible apply aw_exit)
      | (with_reducible apply aw_skip)
      | ((with_reducible apply aw_condT); exact rfl)
      | ((with_reducible apply aw_condF); exact rfl)
      | ((with_reducible apply aw_drawL); (simp only [List.zipIdx_cons, List.zipIdx_nil, Nat.zero_add, Nat.reduceAdd] <;> rfl); kernel_rfl; kernel_rfl)
      | (with_reducible apply dw_nil)
      | fail)

    refine ⟨rfl, _, rfl, rfl, ?_⟩
    try dsimp only
    repeat (first | exact Keep.refl _ | exact k1 | (with_reducible apply Keep.bump) | (with_reducible apply Keep.alloc) | ((with_reducible apply Keep.set); (first | exact Nat.le_refl _ | (have := Keep.next k1; omega)); ((try simp only [AHeap.next_alloc, AHeap.next_bump, AHeap.next_set]); have := Keep.next k1; omega)))

  | true =>
    simp only [if_true]
    repeat (first
      | ((first | ((with_reducible apply wpOps_valT); exact rfl; exact rfl) | ((with_reducible apply wpOps_storeN); exact rfl; exact rfl) | ((with_reducible apply dw_pureT); exact rfl; exact rfl; exact rfl) | ((with_reducible apply dw_readT); exact rfl; exact rfl; exact rfl)); (simp only [List.getElem?_toArray, List.toList_toArray, bin_eql, bin_neq, bin_lss, bin_leq, bin_gtr, bin_geq, bin_add, bin_sub, bin_mul, un_not, unA, AHeap.get_bump, AHeap.next_bump, opK0, kMove, kPick, kAlloc, kBox, kBuild, kBuildSlice, kLoad, kStore, kNilCheck, kBinOp, kUnOp, kFieldAddr, kField, kIndexAddr, kIndex, kLookup, kMapUpdate, kMakeMap, kExtract, kSlice, kCall, lenA, evA, evAs, evParts, toAV, toAV0, toAVs, T.get_set, T.get_nil, Nat.reduceAdd, Nat.reduceMul, Nat.reduceEqDiff, Nat.zero_add, Nat.add_zero, Nat.mul_one, Nat.zero_mul, AV.cells, List.all_cons, List.all_nil, AV.scalar, Bool.and_true, Bool.true_and, ↓reduceIte, if_true, und_all, Tryd.underlying3, Tryd.underlying4, Tryd.underlying5, Tryd.underlying9, Tryd.underlying23, Tryd.underlying24, Tryd.underlying31, Tryd.underlying38, Tryd.underlying39, Tryd.underlying40, Tryd.underlying41, Tryd.underlying42, Tryd.underlying45, Tryd.underlying46, Tryd.underlying48, Tryd.underlying50, Tryd.underlying55, Tryd.underlying57, Tryd.underlying67, siz3, agg3, zer3, byt3, siz4, agg4, zer4, byt4, siz5, agg5, zer5, byt5, siz9, agg9, zer9, byt9, siz23, agg23, zer23, byt23, siz24, agg24, zer24, byt24, siz31, agg31, zer31, byt31, siz38, agg38, zer38, byt38, siz39, agg39, zer39, byt39, siz40, agg40, zer40, byt40, siz41, agg41, zer41, byt41, siz42, agg42, zer42, byt42, siz45, agg45, zer45, byt45, siz46, agg46, zer46, byt46, siz48, agg48, zer48, byt48, siz50, agg50, zer50, byt50, siz55, agg55, zer55, byt55, siz57, agg57, zer57, byt57, siz67, agg67, zer67, byt67, AHeap.get_alloc, AHeap.get_set, AHeap.next_alloc, AHeap.next_set, AHeap.loadCells, AHeap.load1, AHeap.storeCells, List.getElem?_cons_zero, List.getElem?_cons_succ, List.length_cons, List.length_nil, List.drop_zero, List.take_succ_cons, List.take_zero, List.drop_succ_cons, List.drop_nil, List.take_nil, List.append_nil, List.cons_append, List.nil_append, binA, isConstO, keyOk, ents_some, Bool.or_true, Bool.or_false, Bool.true_or, Bool.false_or, wantedA, dstOk, Option.bind_some, List.append_nil, decide_true, decide_false, beq_self_eq_true, Bool.not_true, Bool.not_false, Bool.false_eq_true, if_false, List.zipIdx_cons, reid, toAV, Fm.av] <;> rfl))
      | ((with_reducible apply wpOps_skipT); exact rfl; exact rfl)
      | ((with_reducible apply wpOps_skipN); exact rfl; exact rfl)
      | ((with_reducible apply dw_skipT); exact rfl; exact rfl)
      | (with_reducible apply aw_seq)
      | (with_reducible apply aw_regionL)
      | (with_reducible apply aw_block)
      | (with_reducible apply aw_scope)
      | (with_reducible apply aw_nil)
      | (with_reducible apply aw_then)
      | (with_reducible apply aw_thenR)
      | (with_reducible apply aw_thenE)
      | (with_reducible apply aw_blockR)
      | (with_reducible apply aw_blockN)
      | (with_reducible apply aw_blockE)
      | (with_reducible apply aw_ret)
      | (with_reducible apply aw_exit)
      | (with_reducible apply aw_skip)
      | ((with_reducible apply aw_condT); exact rfl)
      | ((with_reducible apply aw_condF); exact rfl)
      | ((with_reducible apply aw_drawL); (simp only [List.zipIdx_cons, List.zipIdx_nil, Nat.zero_add, Nat.reduceAdd] <;> rfl); kernel_rfl; kernel_rfl)
      | (with_reducible apply dw_nil)
      | fail)

    (with_reducible apply wpOps_callT); exact rfl; exact rfl; (simp only [List.getElem?_toArray, List.toList_toArray, bin_eql, bin_neq, bin_lss, bin_leq, bin_gtr, bin_geq, bin_add, bin_sub, bin_mul, un_not, unA, AHeap.get_bump, AHeap.next_bump, opK0, kMove, kPick, kAlloc, kBox, kBuild, kBuildSlice, kLoad, kStore, kNilCheck, kBinOp, kUnOp, kFieldAddr, kField, kIndexAddr, kIndex, kLookup, kMapUpdate, kMakeMap, kExtract, kSlice, kCall, lenA, evA, evAs, evParts, toAV, toAV0, toAVs, T.get_set, T.get_nil, Nat.reduceAdd, Nat.reduceMul, Nat.reduceEqDiff, Nat.zero_add, Nat.add_zero, Nat.mul_one, Nat.zero_mul, AV.cells, List.all_cons, List.all_nil, AV.scalar, Bool.and_true, Bool.true_and, ↓reduceIte, if_true, und_all, Tryd.underlying3, Tryd.underlying4, Tryd.underlying5, Tryd.underlying9, Tryd.underlying23, Tryd.underlying24, Tryd.underlying31, Tryd.underlying38, Tryd.underlying39, Tryd.underlying40, Tryd.underlying41, Tryd.underlying42, Tryd.underlying45, Tryd.underlying46, Tryd.underlying48, Tryd.underlying50, Tryd.underlying55, Tryd.underlying57, Tryd.underlying67, siz3, agg3, zer3, byt3, siz4, agg4, zer4, byt4, siz5, agg5, zer5, byt5, siz9, agg9, zer9, byt9, siz23, agg23, zer23, byt23, siz24, agg24, zer24, byt24, siz31, agg31, zer31, byt31, siz38, agg38, zer38, byt38, siz39, agg39, zer39, byt39, siz40, agg40, zer40, byt40, siz41, agg41, zer41, byt41, siz42, agg42, zer42, byt42, siz45, agg45, zer45, byt45, siz46, agg46, zer46, byt46, siz48, agg48, zer48, byt48, siz50, agg50, zer50, byt50, siz55, agg55, zer55, byt55, siz57, agg57, zer57, byt57, siz67, agg67, zer67, byt67, AHeap.get_alloc, AHeap.get_set, AHeap.next_alloc, AHeap.next_set, AHeap.loadCells, AHeap.load1, AHeap.storeCells, List.getElem?_cons_zero, List.getElem?_cons_succ, List.length_cons, List.length_nil, List.drop_zero, List.take_succ_cons, List.take_zero, List.drop_succ_cons, List.drop_nil, List.take_nil, List.append_nil, List.cons_append, List.nil_append, binA, isConstO, keyOk, ents_some, Bool.or_true, Bool.or_false, Bool.true_or, Bool.false_or, wantedA, dstOk, Option.bind_some, List.append_nil, decide_true, decide_false, beq_self_eq_true, Bool.not_true, Bool.not_false, Bool.false_eq_true, if_false, List.zipIdx_cons, reid, toAV, Fm.av] <;> rfl)

    have e0 : ∀ h' : AHeap, h2.next < h'.next → (∀ i, i < h2.next → h'.get i = h2.get i) → ((∀ i, h2.next ≤ i → h2.get i = Option.none) → ∀ i, h'.next ≤ i → h'.get i = Option.none) → Keep h h' :=
      fun h' a b c => k1.trans ⟨Nat.le_of_lt a, b, c⟩
    have k2 : Keep h2 ((h2.alloc (AObj.cells true 0 [AV.str [], AV.str [], AV.int IntKind.i64 0, AV.bool false, AV.int IntKind.i64 0])).2.set h2.next (AObj.cells true 0 [AV.str f.base, AV.str f.name, AV.int IntKind.i64 f.stars, AV.bool f.arr, AV.int IntKind.i64 f.many])) :=
      Keep.set _ (Nat.le_refl _) (Nat.lt_succ_self _) (Keep.alloc _ (Keep.refl _))
    have c2 : ((h2.alloc (AObj.cells true 0 [AV.str [], AV.str [], AV.int IntKind.i64 0, AV.bool false, AV.int IntKind.i64 0])).2.set h2.next (AObj.cells true 0 [AV.str f.base, AV.str f.name, AV.int IntKind.i64 f.stars, AV.bool f.arr, AV.int IntKind.i64 f.many])).get h2.next = some (AObj.cells true 0 [AV.str f.base, AV.str f.name, AV.int IntKind.i64 f.stars, AV.bool f.arr, AV.int IntKind.i64 f.many]) := by
      rw [AHeap.get_set, if_pos rfl]
    have n2 : h2.next < ((h2.alloc (AObj.cells true 0 [AV.str [], AV.str [], AV.int IntKind.i64 0, AV.bool false, AV.int IntKind.i64 0])).2.set h2.next (AObj.cells true 0 [AV.str f.base, AV.str f.name, AV.int IntKind.i64 f.stars, AV.bool f.arr, AV.int IntKind.i64 f.many])).next := Nat.lt_succ_self _
    revert k2 c2 n2
    generalize (h2.alloc (AObj.cells true 0 [AV.str [], AV.str [], AV.int IntKind.i64 0, AV.bool false, AV.int IntKind.i64 0])).2.set h2.next (AObj.cells true 0 [AV.str f.base, AV.str f.name, AV.int IntKind.i64 f.stars, AV.bool f.arr, AV.int IntKind.i64 f.many]) = h3
    intro k2 c2 n2
    refine (measure_w h3 tb nm st names es f (hT.keep (k1.trans k2)) ((k1.trans k2).fresh hF)).mono fun out h4 hq => ?_
    obtain ⟨rfl, k4⟩ := hq
    have k5 : Keep h h4 := (k1.trans k2).trans k4
    replace c2 := (k4.old _ n2).trans c2
    clear e0 k1 k2 k4 n2 hT hF
    dsimp only [retM]
    have mf := @msr_fits names es f hE
    generalize msr names es f = r at *
    obtain ⟨sz, al, er⟩ := r
    obtain ⟨base, name, stars, arr, many⟩ := f
    dsimp only at *
    by_cases h0 : er = 0
    · subst h0
      obtain ⟨a1, a2, a3, a4⟩ := mf rfl
      clear mf
      simp only [if_true]
      cases arr with
      | false =>
        simp only [Bool.false_eq_true, if_false]
        repeat (first
          | ((first | ((with_reducible apply wpOps_valT); exact rfl; exact rfl) | ((with_reducible apply wpOps_storeN); exact rfl; exact rfl) | ((with_reducible apply dw_pureT); exact rfl; exact rfl; exact rfl) | ((with_reducible apply dw_readT); exact rfl; exact rfl; exact rfl)); (simp only [List.getElem?_toArray, List.toList_toArray, bin_eql, bin_neq, bin_lss, bin_leq, bin_gtr, bin_geq, bin_add, bin_sub, bin_mul, un_not, unA, AHeap.get_bump, AHeap.next_bump, opK0, kMove, kPick, kAlloc, kBox, kBuild, kBuildSlice, kLoad, kStore, kNilCheck, kBinOp, kUnOp, kFieldAddr, kField, kIndexAddr, kIndex, kLookup, kMapUpdate, kMakeMap, kExtract, kSlice, kCall, lenA, evA, evAs, evParts, toAV, toAV0, toAVs, T.get_set, T.get_nil, Nat.reduceAdd, Nat.reduceMul, Nat.reduceEqDiff, Nat.zero_add, Nat.add_zero, Nat.mul_one, Nat.zero_mul, AV.cells, List.all_cons, List.all_nil, AV.scalar, Bool.and_true, Bool.true_and, ↓reduceIte, if_true, und_all, Tryd.underlying3, Tryd.underlying4, Tryd.underlying5, Tryd.underlying9, Tryd.underlying23, Tryd.underlying24, Tryd.underlying31, Tryd.underlying38, Tryd.underlying39, Tryd.underlying40, Tryd.underlying41, Tryd.underlying42, Tryd.underlying45, Tryd.underlying46, Tryd.underlying48, Tryd.underlying50, Tryd.underlying55, Tryd.underlying57, Tryd.underlying67, siz3, agg3, zer3, byt3, siz4, agg4, zer4, byt4, siz5, agg5, zer5, byt5, siz9, agg9, zer9, byt9, siz23, agg23, zer23, byt23, siz24, agg24, zer24, byt24, siz31, agg31, zer31, byt31, siz38, agg38, zer38, byt38, siz39, agg39, zer39, byt39, siz40, agg40, zer40, byt40, siz41, agg41, zer41, byt41, siz42, agg42, zer42, byt42, siz45, agg45, zer45, byt45, siz46, agg46, zer46, byt46, siz48, agg48, zer48, byt48, siz50, agg50, zer50, byt50, siz55, agg55, zer55, byt55, siz57, agg57, zer57, byt57, siz67, agg67, zer67, byt67, AHeap.get_alloc, AHeap.get_set, AHeap.next_alloc, AHeap.next_set, AHeap.loadCells, AHeap.load1, AHeap.storeCells, List.getElem?_cons_zero, List.getElem?_cons_succ, List.length_cons, List.length_nil, List.drop_zero, List.take_succ_cons, List.take_zero, List.drop_succ_cons, List.drop_nil, List.take_nil, List.append_nil, List.cons_append, List.nil_append, binA, isConstO, keyOk, ents_some, Bool.or_true, Bool.or_false, Bool.true_or, Bool.false_or, wantedA, dstOk, Option.bind_some, List.append_nil, decide_true, decide_false, beq_self_eq_true, Bool.not_true, Bool.not_false, Bool.false_eq_true, if_false, List.zipIdx_cons, reid, toAV, c2, bne_self_eq_false] <;> rfl))
          | ((with_reducible apply wpOps_skipT); exact rfl; exact rfl)
          | ((with_reducible apply wpOps_skipN); exact rfl; exact rfl)
          | ((with_reducible apply dw_skipT); exact rfl; exact rfl)
          | (with_reducible apply aw_seq)
          | (with_reducible apply aw_regionL)
          | (with_reducible apply aw_block)
          | (with_reducible apply aw_scope)
          | (with_reducible apply aw_nil)
          | (with_reducible apply aw_then)
          | (with_reducible apply aw_thenR)
          | (with_reducible apply aw_thenE)
          | (with_reducible apply aw_blockR)
          | (with_reducible apply aw_blockN)
          | (with_reducible apply aw_blockE)
          | (with_reducible apply aw_ret)
          | (with_reducible apply aw_exit)
          | (with_reducible apply aw_skip)
          | ((with_reducible apply aw_condT); exact rfl)
          | ((with_reducible apply aw_condF); exact rfl)
          | ((with_reducible apply aw_drawL); (simp only [List.zipIdx_cons, List.zipIdx_nil, Nat.zero_add, Nat.reduceAdd] <;> rfl); kernel_rfl; kernel_rfl)
          | (with_reducible apply dw_nil)
          | fail)

        refine ⟨rfl, _, rfl, rfl, ?_⟩
        try dsimp only
        repeat (first | exact Keep.refl _ | exact k5 | (with_reducible apply Keep.bump) | (with_reducible apply Keep.alloc) | ((with_reducible apply Keep.set); (first | exact Nat.le_refl _ | (have := Keep.next k5; omega)); ((try simp only [AHeap.next_alloc, AHeap.next_bump, AHeap.next_set]); have := Keep.next k5; omega)))

      | true =>
        have hm := hma rfl
        have nz : sz ≠ 0 := by omega
        have d1 : 0 ≤ Int.tdiv 65536 sz := by rw [Int.tdiv_eq_ediv_of_nonneg (by omega)]; exact Int.ediv_nonneg (by omega) (by omega)
        have d2 : sz * Int.tdiv 65536 sz ≤ 65536 := by rw [Int.tdiv_eq_ediv_of_nonneg (by omega)]; exact Int.mul_ediv_self_le (by omega)
        have d3 : Int.tdiv 65536 sz ≤ 65536 := by
          have := Int.mul_le_mul_of_nonneg_right a1 d1
          omega
        have w1 : IntKind.wrap .i64 (Int.tdiv 65536 sz) = Int.tdiv 65536 sz := wr (by omega) (by omega)
        simp only [if_true]
        by_cases h6 : Int.tdiv 65536 sz < many
        · have g6 : (Int.tdiv 65536 sz < many) = True := eq_true h6
          rw [if_pos h6]
          repeat (first
            | ((first | ((with_reducible apply wpOps_valT); exact rfl; exact rfl) | ((with_reducible apply wpOps_storeN); exact rfl; exact rfl) | ((with_reducible apply dw_pureT); exact rfl; exact rfl; exact rfl) | ((with_reducible apply dw_readT); exact rfl; exact rfl; exact rfl)); (simp only [List.getElem?_toArray, List.toList_toArray, bin_eql, bin_neq, bin_lss, bin_leq, bin_gtr, bin_geq, bin_add, bin_sub, bin_mul, un_not, unA, AHeap.get_bump, AHeap.next_bump, opK0, kMove, kPick, kAlloc, kBox, kBuild, kBuildSlice, kLoad, kStore, kNilCheck, kBinOp, kUnOp, kFieldAddr, kField, kIndexAddr, kIndex, kLookup, kMapUpdate, kMakeMap, kExtract, kSlice, kCall, lenA, evA, evAs, evParts, toAV, toAV0, toAVs, T.get_set, T.get_nil, Nat.reduceAdd, Nat.reduceMul, Nat.reduceEqDiff, Nat.zero_add, Nat.add_zero, Nat.mul_one, Nat.zero_mul, AV.cells, List.all_cons, List.all_nil, AV.scalar, Bool.and_true, Bool.true_and, ↓reduceIte, if_true, und_all, Tryd.underlying3, Tryd.underlying4, Tryd.underlying5, Tryd.underlying9, Tryd.underlying23, Tryd.underlying24, Tryd.underlying31, Tryd.underlying38, Tryd.underlying39, Tryd.underlying40, Tryd.underlying41, Tryd.underlying42, Tryd.underlying45, Tryd.underlying46, Tryd.underlying48, Tryd.underlying50, Tryd.underlying55, Tryd.underlying57, Tryd.underlying67, siz3, agg3, zer3, byt3, siz4, agg4, zer4, byt4, siz5, agg5, zer5, byt5, siz9, agg9, zer9, byt9, siz23, agg23, zer23, byt23, siz24, agg24, zer24, byt24, siz31, agg31, zer31, byt31, siz38, agg38, zer38, byt38, siz39, agg39, zer39, byt39, siz40, agg40, zer40, byt40, siz41, agg41, zer41, byt41, siz42, agg42, zer42, byt42, siz45, agg45, zer45, byt45, siz46, agg46, zer46, byt46, siz48, agg48, zer48, byt48, siz50, agg50, zer50, byt50, siz55, agg55, zer55, byt55, siz57, agg57, zer57, byt57, siz67, agg67, zer67, byt67, AHeap.get_alloc, AHeap.get_set, AHeap.next_alloc, AHeap.next_set, AHeap.loadCells, AHeap.load1, AHeap.storeCells, List.getElem?_cons_zero, List.getElem?_cons_succ, List.length_cons, List.length_nil, List.drop_zero, List.take_succ_cons, List.take_zero, List.drop_succ_cons, List.drop_nil, List.take_nil, List.append_nil, List.cons_append, List.nil_append, binA, isConstO, keyOk, ents_some, Bool.or_true, Bool.or_false, Bool.true_or, Bool.false_or, wantedA, dstOk, Option.bind_some, List.append_nil, decide_true, decide_false, beq_self_eq_true, Bool.not_true, Bool.not_false, Bool.false_eq_true, if_false, List.zipIdx_cons, reid, toAV, c2, bne_self_eq_false, bin_quo nz, w1, g6] <;> rfl))
            | ((with_reducible apply wpOps_skipT); exact rfl; exact rfl)
            | ((with_reducible apply wpOps_skipN); exact rfl; exact rfl)
            | ((with_reducible apply dw_skipT); exact rfl; exact rfl)
            | (with_reducible apply aw_seq)
            | (with_reducible apply aw_regionL)
            | (with_reducible apply aw_block)
            | (with_reducible apply aw_scope)
            | (with_reducible apply aw_nil)
            | (with_reducible apply aw_then)
            | (with_reducible apply aw_thenR)
            | (with_reducible apply aw_thenE)
            | (with_reducible apply aw_blockR)
            | (with_reducible apply aw_blockN)
            | (with_reducible apply aw_blockE)
            | (with_reducible apply aw_ret)
            | (with_reducible apply aw_exit)
            | (with_reducible apply aw_skip)
            | ((with_reducible apply aw_condT); exact rfl)
            | ((with_reducible apply aw_condF); exact rfl)
            | ((with_reducible apply aw_drawL); (simp only [List.zipIdx_cons, List.zipIdx_nil, Nat.zero_add, Nat.reduceAdd] <;> rfl); kernel_rfl; kernel_rfl)
            | (with_reducible apply dw_nil)
            | fail)

          refine ⟨rfl, _, rfl, rfl, ?_⟩
          try dsimp only
          repeat (first | exact Keep.refl _ | exact k5 | (with_reducible apply Keep.bump) | (with_reducible apply Keep.alloc) | ((with_reducible apply Keep.set); (first | exact Nat.le_refl _ | (have := Keep.next k5; omega)); ((try simp only [AHeap.next_alloc, AHeap.next_bump, AHeap.next_set]); have := Keep.next k5; omega)))

        · have g6 : (Int.tdiv 65536 sz < many) = False := eq_false h6
          rw [if_neg h6]
          have d4 := Int.mul_le_mul_of_nonneg_left (show many ≤ Int.tdiv 65536 sz by omega) (show 0 ≤ sz by omega)
          have d5 : 0 ≤ sz * many := Int.mul_nonneg (by omega) (by omega)
          have w2 : IntKind.wrap .i64 (sz * many) = sz * many := wr (by omega) (by omega)
          repeat (first
            | ((first | ((with_reducible apply wpOps_valT); exact rfl; exact rfl) | ((with_reducible apply wpOps_storeN); exact rfl; exact rfl) | ((with_reducible apply dw_pureT); exact rfl; exact rfl; exact rfl) | ((with_reducible apply dw_readT); exact rfl; exact rfl; exact rfl)); (simp only [List.getElem?_toArray, List.toList_toArray, bin_eql, bin_neq, bin_lss, bin_leq, bin_gtr, bin_geq, bin_add, bin_sub, bin_mul, un_not, unA, AHeap.get_bump, AHeap.next_bump, opK0, kMove, kPick, kAlloc, kBox, kBuild, kBuildSlice, kLoad, kStore, kNilCheck, kBinOp, kUnOp, kFieldAddr, kField, kIndexAddr, kIndex, kLookup, kMapUpdate, kMakeMap, kExtract, kSlice, kCall, lenA, evA, evAs, evParts, toAV, toAV0, toAVs, T.get_set, T.get_nil, Nat.reduceAdd, Nat.reduceMul, Nat.reduceEqDiff, Nat.zero_add, Nat.add_zero, Nat.mul_one, Nat.zero_mul, AV.cells, List.all_cons, List.all_nil, AV.scalar, Bool.and_true, Bool.true_and, ↓reduceIte, if_true, und_all, Tryd.underlying3, Tryd.underlying4, Tryd.underlying5, Tryd.underlying9, Tryd.underlying23, Tryd.underlying24, Tryd.underlying31, Tryd.underlying38, Tryd.underlying39, Tryd.underlying40, Tryd.underlying41, Tryd.underlying42, Tryd.underlying45, Tryd.underlying46, Tryd.underlying48, Tryd.underlying50, Tryd.underlying55, Tryd.underlying57, Tryd.underlying67, siz3, agg3, zer3, byt3, siz4, agg4, zer4, byt4, siz5, agg5, zer5, byt5, siz9, agg9, zer9, byt9, siz23, agg23, zer23, byt23, siz24, agg24, zer24, byt24, siz31, agg31, zer31, byt31, siz38, agg38, zer38, byt38, siz39, agg39, zer39, byt39, siz40, agg40, zer40, byt40, siz41, agg41, zer41, byt41, siz42, agg42, zer42, byt42, siz45, agg45, zer45, byt45, siz46, agg46, zer46, byt46, siz48, agg48, zer48, byt48, siz50, agg50, zer50, byt50, siz55, agg55, zer55, byt55, siz57, agg57, zer57, byt57, siz67, agg67, zer67, byt67, AHeap.get_alloc, AHeap.get_set, AHeap.next_alloc, AHeap.next_set, AHeap.loadCells, AHeap.load1, AHeap.storeCells, List.getElem?_cons_zero, List.getElem?_cons_succ, List.length_cons, List.length_nil, List.drop_zero, List.take_succ_cons, List.take_zero, List.drop_succ_cons, List.drop_nil, List.take_nil, List.append_nil, List.cons_append, List.nil_append, binA, isConstO, keyOk, ents_some, Bool.or_true, Bool.or_false, Bool.true_or, Bool.false_or, wantedA, dstOk, Option.bind_some, List.append_nil, decide_true, decide_false, beq_self_eq_true, Bool.not_true, Bool.not_false, Bool.false_eq_true, if_false, List.zipIdx_cons, reid, toAV, c2, bne_self_eq_false, bin_quo nz, w1, g6, w2] <;> rfl))
            | ((with_reducible apply wpOps_skipT); exact rfl; exact rfl)
            | ((with_reducible apply wpOps_skipN); exact rfl; exact rfl)
            | ((with_reducible apply dw_skipT); exact rfl; exact rfl)
            | (with_reducible apply aw_seq)
            | (with_reducible apply aw_regionL)
            | (with_reducible apply aw_block)
            | (with_reducible apply aw_scope)
            | (with_reducible apply aw_nil)
            | (with_reducible apply aw_then)
            | (with_reducible apply aw_thenR)
            | (with_reducible apply aw_thenE)
            | (with_reducible apply aw_blockR)
            | (with_reducible apply aw_blockN)
            | (with_reducible apply aw_blockE)
            | (with_reducible apply aw_ret)
            | (with_reducible apply aw_exit)
            | (with_reducible apply aw_skip)
            | ((with_reducible apply aw_condT); exact rfl)
            | ((with_reducible apply aw_condF); exact rfl)
            | ((with_reducible apply aw_drawL); (simp only [List.zipIdx_cons, List.zipIdx_nil, Nat.zero_add, Nat.reduceAdd] <;> rfl); kernel_rfl; kernel_rfl)
            | (with_reducible apply dw_nil)
            | fail)

          refine ⟨rfl, _, rfl, rfl, ?_⟩
          try dsimp only
          repeat (first | exact Keep.refl _ | exact k5 | (with_reducible apply Keep.bump) | (with_reducible apply Keep.alloc) | ((with_reducible apply Keep.set); (first | exact Nat.le_refl _ | (have := Keep.next k5; omega)); ((try simp only [AHeap.next_alloc, AHeap.next_bump, AHeap.next_set]); have := Keep.next k5; omega)))

    · have g0 : (er == 0) = false := by simpa using h0
      rw [if_neg h0]
      repeat (first
        | ((first | ((with_reducible apply wpOps_valT); exact rfl; exact rfl) | ((with_reducible apply wpOps_storeN); exact rfl; exact rfl) | ((with_reducible apply dw_pureT); exact rfl; exact rfl; exact rfl) | ((with_reducible apply dw_readT); exact rfl; exact rfl; exact rfl)); (simp only [List.getElem?_toArray, List.toList_toArray, bin_eql, bin_neq, bin_lss, bin_leq, bin_gtr, bin_geq, bin_add, bin_sub, bin_mul, un_not, unA, AHeap.get_bump, AHeap.next_bump, opK0, kMove, kPick, kAlloc, kBox, kBuild, kBuildSlice, kLoad, kStore, kNilCheck, kBinOp, kUnOp, kFieldAddr, kField, kIndexAddr, kIndex, kLookup, kMapUpdate, kMakeMap, kExtract, kSlice, kCall, lenA, evA, evAs, evParts, toAV, toAV0, toAVs, T.get_set, T.get_nil, Nat.reduceAdd, Nat.reduceMul, Nat.reduceEqDiff, Nat.zero_add, Nat.add_zero, Nat.mul_one, Nat.zero_mul, AV.cells, List.all_cons, List.all_nil, AV.scalar, Bool.and_true, Bool.true_and, ↓reduceIte, if_true, und_all, Tryd.underlying3, Tryd.underlying4, Tryd.underlying5, Tryd.underlying9, Tryd.underlying23, Tryd.underlying24, Tryd.underlying31, Tryd.underlying38, Tryd.underlying39, Tryd.underlying40, Tryd.underlying41, Tryd.underlying42, Tryd.underlying45, Tryd.underlying46, Tryd.underlying48, Tryd.underlying50, Tryd.underlying55, Tryd.underlying57, Tryd.underlying67, siz3, agg3, zer3, byt3, siz4, agg4, zer4, byt4, siz5, agg5, zer5, byt5, siz9, agg9, zer9, byt9, siz23, agg23, zer23, byt23, siz24, agg24, zer24, byt24, siz31, agg31, zer31, byt31, siz38, agg38, zer38, byt38, siz39, agg39, zer39, byt39, siz40, agg40, zer40, byt40, siz41, agg41, zer41, byt41, siz42, agg42, zer42, byt42, siz45, agg45, zer45, byt45, siz46, agg46, zer46, byt46, siz48, agg48, zer48, byt48, siz50, agg50, zer50, byt50, siz55, agg55, zer55, byt55, siz57, agg57, zer57, byt57, siz67, agg67, zer67, byt67, AHeap.get_alloc, AHeap.get_set, AHeap.next_alloc, AHeap.next_set, AHeap.loadCells, AHeap.load1, AHeap.storeCells, List.getElem?_cons_zero, List.getElem?_cons_succ, List.length_cons, List.length_nil, List.drop_zero, List.take_succ_cons, List.take_zero, List.drop_succ_cons, List.drop_nil, List.take_nil, List.append_nil, List.cons_append, List.nil_append, binA, isConstO, keyOk, ents_some, Bool.or_true, Bool.or_false, Bool.true_or, Bool.false_or, wantedA, dstOk, Option.bind_some, List.append_nil, decide_true, decide_false, beq_self_eq_true, Bool.not_true, Bool.not_false, Bool.false_eq_true, if_false, List.zipIdx_cons, reid, toAV, c2, bne, g0] <;> rfl))
        | ((with_reducible apply wpOps_skipT); exact rfl; exact rfl)
        | ((with_reducible apply wpOps_skipN); exact rfl; exact rfl)
        | ((with_reducible apply dw_skipT); exact rfl; exact rfl)
        | (with_reducible apply aw_seq)
        | (with_reducible apply aw_regionL)
        | (with_reducible apply aw_block)
        | (with_reducible apply aw_scope)
        | (with_reducible apply aw_nil)
        | (with_reducible apply aw_then)
        | (with_reducible apply aw_thenR)
        | (with_reducible apply aw_thenE)
        | (with_reducible apply aw_blockR)
        | (with_reducible apply aw_blockN)
        | (with_reducible apply aw_blockE)
        | (with_reducible apply aw_ret)
        | (with_reducible apply aw_exit)
        | (with_reducible apply aw_skip)
        | ((with_reducible apply aw_condT); exact rfl)
        | ((with_reducible apply aw_condF); exact rfl)
        | ((with_reducible apply aw_drawL); (simp only [List.zipIdx_cons, List.zipIdx_nil, Nat.zero_add, Nat.reduceAdd] <;> rfl); kernel_rfl; kernel_rfl)
        | (with_reducible apply dw_nil)
        | fail)

      refine ⟨rfl, _, rfl, rfl, ?_⟩
      try dsimp only
      repeat (first | exact Keep.refl _ | exact k5 | (with_reducible apply Keep.bump) | (with_reducible apply Keep.alloc) | ((with_reducible apply Keep.set); (first | exact Nat.le_refl _ | (have := Keep.next k5; omega)); ((try simp only [AHeap.next_alloc, AHeap.next_bump, AHeap.next_set]); have := Keep.next k5; omega)))

theorem flat_length : ∀ ps : List Plc, (flat ps).length = ps.length * 3
  | [] => rfl
  | p :: ps => by
    have := flat_length ps
    simp only [flat, List.map_cons, List.flatten_cons, List.length_append, List.length_cons, Plc.cs, List.length_nil] at this ⊢
    omega
theorem flat_append (a b : List Plc) : flat (a ++ b) = flat a ++ flat b := by simp [flat]
theorem flat_scalar : ∀ ps : List Plc, (flat ps).all AV.scalar = true
  | [] => rfl
  | p :: ps => by
    have := flat_scalar ps
    simp only [flat, List.map_cons, List.flatten_cons, List.all_append, Plc.cs] at this ⊢
    simp [this, AV.scalar]
/-- A slice of places. -/
def PlAt (H : AHeap) (sl : AV) (ps : List Plc) (b : Nat) : Prop :=
  (ps = [] ∧ sl = .slice none 0) ∨ (∃ po, sl = .slice (some (po, 0)) ps.length ∧ H.get po = some (.cells true 3 (flat ps)) ∧ b ≤ po ∧ po < H.next)
theorem src_pl {H : AHeap} {q : Nat} {r : List Plc} {a : Nat} (hq : H.get q = some (.cells true 3 (flat r))) (ha : a = r.length) : srcA H 3 (.slice (some (q, 0)) a) = some (r.length, flat r) := by
  subst ha
  simp only [srcA, AHeap.loadCells, hq, flat_length, Nat.zero_add, Nat.le_refl, if_true, List.drop_zero]
  have : List.take (r.length * 3) (flat r) = flat r := List.take_of_length_le (by rw [flat_length]; exact Nat.le_refl _)
  rw [this, flat_scalar]; rfl
/-- An append to places that fill their object. -/
theorem append_pl {H : AHeap} {sl : AV} {ps r : List Plc} {b q a : Nat} (hp : PlAt H sl ps b) (hs : H.get q = some (.cells true 3 (flat r))) (ha : a = r.length) (hr : r ≠ []) (hl : ps.length + r.length ≤ 70000) (hb : b ≤ H.next) :
    ∃ H', appendA env H 31 sl (.slice (some (q, 0)) a) = some (.slice (some (H.next, 0)) (ps.length + a), H') ∧ H'.get H.next = some (.cells true 3 (flat (ps ++ r))) ∧ H'.next = H.next + 1 ∧ (∀ j, j < b → H'.get j = H.get j) ∧
      ((∀ j, H.next ≤ j → H.get j = Option.none) → ∀ j, H'.next ≤ j → H'.get j = Option.none) := by
  have hr1 : 1 ≤ r.length := by cases r with | nil => exact (hr rfl).elim | cons => simp
  have hsrc := src_pl (a := a) hs ha
  subst ha
  rcases hp with ⟨rfl, rfl⟩ | ⟨po, rfl, hpo, h1, h2⟩
  · refine ⟨(H.alloc (.cells true 3 (flat r))).2, ?_, ?_, rfl, ?_, ?_⟩
    · simp only [appendA, und_all, Tryd.underlying31, siz42, byt42, zer42, List.length_cons, List.length_nil, Nat.reduceAdd, ne_eq, not_true_eq_false, if_false, hsrc]
      rw [if_neg (by simp only [List.length_nil] at hl; unfold roomy; omega), if_neg (by omega)]
      simp only [List.length_nil, Nat.zero_add]
    · rw [AHeap.get_alloc, if_pos rfl, List.nil_append]
    · intro j hj; rw [AHeap.get_alloc, if_neg (by omega)]
    · intro hf j hj
      rw [AHeap.next_alloc] at hj
      rw [AHeap.get_alloc, if_neg (by omega)]; exact hf j (by omega)
  · refine ⟨((H.set po .dead).alloc (.cells true 3 (flat ps ++ flat r))).2, ?_, ?_, ?_, ?_, ?_⟩
    · simp only [appendA, und_all, Tryd.underlying31, siz42, byt42, zer42, List.length_cons, List.length_nil, Nat.reduceAdd, ne_eq, not_true_eq_false, if_false, hsrc, hpo]
      rw [if_neg (by unfold roomy; omega), if_neg (by omega), if_neg (by rw [flat_length]; omega), if_pos (by rw [flat_length]; omega)]
      have : List.take (ps.length * 3) (List.drop 0 (flat ps)) = flat ps := List.take_of_length_le (by rw [List.drop_zero, flat_length]; exact Nat.le_refl _)
      rw [this]
    · rw [show H.next = (H.set po .dead).next from rfl, AHeap.get_alloc, if_pos rfl, flat_append]
    · rfl
    · intro j hj
      rw [AHeap.get_alloc, if_neg (by rw [AHeap.next_set]; omega), AHeap.get_set, if_neg (by omega)]
    · intro hf j hj
      have hj' : H.next + 1 ≤ j := hj
      rw [AHeap.get_alloc, if_neg (by rw [AHeap.next_set]; omega), AHeap.get_set, if_neg (by omega)]; exact hf j (by omega)
theorem res10 : Tryd.f10.results.toList = [.tmp 4, .tmp 5] := rfl

theorem layout_w (h : AHeap) (tb nm st : Nat) (names : List (List UInt8)) (es : List Ent) (name : List UInt8) (e : Ent) (hT : TabAt tb nm st h names es) (hf : findE name es = some e) (hp : e.ps ≠ []) (hl : e.ps.length ≤ 65537) :
    WCall env 10 [.ptr (some (tb, 0)), .str name] h (fun out h' => ∃ o, out = .ret (.tup [.slice (some (o, 0)) e.ps.length, .int .i64 0]) ∧ h'.get o = some (.cells true 3 (flat e.ps)) ∧ h.next ≤ o ∧ o < h'.next ∧ Keep h h') := by
  have c1 := hT.t
  have c3 := hT.s
  have c4 := hT.o e (findE_mem hf).1
  have n4 := hT.lo e (findE_mem hf).1
  have q1 : (tb = h.next) = False := eq_false (by have := hT.lt; omega)
  have q3 : (st = h.next) = False := eq_false (by have := hT.ls; omega)
  have hs := find_ents name es 0
  generalize stMap es = SS at *
  clear hT
  rcases hs with ⟨h3, hg⟩ | ⟨e', h3, j', hg⟩
  · rw [hf] at h3; cases h3
  have : e' = e := by rw [hf] at h3; injection h3 with h3; exact h3.symm
  subst this
  simp only [Ent.val] at hg
  clear hf h3
  obtain ⟨en, eo, ps, sz, al⟩ := e'
  dsimp only at *
  refine WCall.body pr10 fn10 rfl (Nat.le_of_ble_eq_true rfl) ?_
  simp only [argsA]
  repeat (first
    | ((first | ((with_reducible apply wpOps_valT); exact rfl; exact rfl) | ((with_reducible apply wpOps_storeN); exact rfl; exact rfl) | ((with_reducible apply dw_pureT); exact rfl; exact rfl; exact rfl) | ((with_reducible apply dw_readT); exact rfl; exact rfl; exact rfl)); (simp only [List.getElem?_toArray, List.toList_toArray, bin_eql, bin_neq, bin_lss, bin_leq, bin_gtr, bin_geq, bin_add, bin_sub, bin_mul, un_not, unA, AHeap.get_bump, AHeap.next_bump, opK0, kMove, kPick, kAlloc, kBox, kBuild, kBuildSlice, kLoad, kStore, kNilCheck, kBinOp, kUnOp, kFieldAddr, kField, kIndexAddr, kIndex, kLookup, kMapUpdate, kMakeMap, kExtract, kSlice, kCall, lenA, evA, evAs, evParts, toAV, toAV0, toAVs, T.get_set, T.get_nil, Nat.reduceAdd, Nat.reduceMul, Nat.reduceEqDiff, Nat.zero_add, Nat.add_zero, Nat.mul_one, Nat.zero_mul, AV.cells, List.all_cons, List.all_nil, AV.scalar, Bool.and_true, Bool.true_and, ↓reduceIte, if_true, und_all, Tryd.underlying3, Tryd.underlying4, Tryd.underlying5, Tryd.underlying9, Tryd.underlying23, Tryd.underlying24, Tryd.underlying31, Tryd.underlying38, Tryd.underlying39, Tryd.underlying40, Tryd.underlying41, Tryd.underlying42, Tryd.underlying45, Tryd.underlying46, Tryd.underlying48, Tryd.underlying50, Tryd.underlying55, Tryd.underlying57, Tryd.underlying67, siz3, agg3, zer3, byt3, siz4, agg4, zer4, byt4, siz5, agg5, zer5, byt5, siz9, agg9, zer9, byt9, siz23, agg23, zer23, byt23, siz24, agg24, zer24, byt24, siz31, agg31, zer31, byt31, siz38, agg38, zer38, byt38, siz39, agg39, zer39, byt39, siz40, agg40, zer40, byt40, siz41, agg41, zer41, byt41, siz42, agg42, zer42, byt42, siz45, agg45, zer45, byt45, siz46, agg46, zer46, byt46, siz48, agg48, zer48, byt48, siz50, agg50, zer50, byt50, siz55, agg55, zer55, byt55, siz57, agg57, zer57, byt57, siz67, agg67, zer67, byt67, AHeap.get_alloc, AHeap.get_set, AHeap.next_alloc, AHeap.next_set, AHeap.loadCells, AHeap.load1, AHeap.storeCells, List.getElem?_cons_zero, List.getElem?_cons_succ, List.length_cons, List.length_nil, List.drop_zero, List.take_succ_cons, List.take_zero, List.drop_succ_cons, List.drop_nil, List.take_nil, List.append_nil, List.cons_append, List.nil_append, binA, isConstO, keyOk, ents_some, Bool.or_true, Bool.or_false, Bool.true_or, Bool.false_or, wantedA, dstOk, Option.bind_some, List.append_nil, decide_true, decide_false, beq_self_eq_true, Bool.not_true, Bool.not_false, Bool.false_eq_true, if_false, List.zipIdx_cons, reid, toAV, Ent.val, c1, c3, q1, q3, hg] <;> rfl))
    | ((with_reducible apply wpOps_skipT); exact rfl; exact rfl)
    | ((with_reducible apply wpOps_skipN); exact rfl; exact rfl)
    | ((with_reducible apply dw_skipT); exact rfl; exact rfl)
    | (with_reducible apply aw_seq)
    | (with_reducible apply aw_regionL)
    | (with_reducible apply aw_block)
    | (with_reducible apply aw_scope)
    | (with_reducible apply aw_nil)
    | (with_reducible apply aw_then)
    | (with_reducible apply aw_thenR)
    | (with_reducible apply aw_thenE)
    | (with_reducible apply aw_blockR)
    | (with_reducible apply aw_blockN)
    | (with_reducible apply aw_blockE)
    | (with_reducible apply aw_ret)
    | (with_reducible apply aw_exit)
    | (with_reducible apply aw_skip)
    | ((with_reducible apply aw_condT); exact rfl)
    | ((with_reducible apply aw_condF); exact rfl)
    | ((with_reducible apply aw_drawL); (simp only [List.zipIdx_cons, List.zipIdx_nil, Nat.zero_add, Nat.reduceAdd] <;> rfl); kernel_rfl; kernel_rfl)
    | (with_reducible apply dw_nil)
    | fail)

  refine wpOps_heap (fun H => Keep h H ∧ H.next = h.next + 2 ∧ H.get (h.next + 1) = some (.cells true 3 (flat [])) ∧ H.get eo = some (.cells true 3 (flat ps)) ∧ H.get h.next = some (.cells true 0 [.slice (some (eo, 0)) ps.length, .int .i64 sz, .int .i64 al])) ⟨?_, ?_, ?_, ?_, ?_⟩ ?_
  · skip
    try dsimp only
    repeat (first | exact Keep.refl _ | (with_reducible apply Keep.bump) | (with_reducible apply Keep.alloc) | ((with_reducible apply Keep.set); (first | exact Nat.le_refl _ | (omega)); ((try simp only [AHeap.next_alloc, AHeap.next_bump, AHeap.next_set]); omega)))

  · rfl
  · simp only [AHeap.get_alloc, AHeap.next_set, AHeap.next_alloc, if_true]; rfl
  · simp only [AHeap.get_alloc, AHeap.next_set, AHeap.next_alloc, AHeap.get_set]
    rw [if_neg (by omega), if_neg (by omega), if_neg (by omega)]; exact c4
  · simp only [AHeap.get_alloc, AHeap.next_set, AHeap.next_alloc, AHeap.get_set]
    rw [if_neg (by omega)]; simp only [if_true]
  rintro H ⟨k1, n1, c5, c6, c7⟩
  obtain ⟨H', ap, a1, a2, a3, a4⟩ := append_pl (H := H) (sl := .slice (some (h.next + 1, 0)) 0) (ps := []) (r := ps) (b := h.next) (.inr ⟨h.next + 1, rfl, c5, by omega, by omega⟩) c6 rfl hp (by simp only [List.length_nil]; omega) (by omega)
  repeat (first
    | ((first | ((with_reducible apply wpOps_valT); exact rfl; exact rfl) | ((with_reducible apply wpOps_storeN); exact rfl; exact rfl) | ((with_reducible apply dw_pureT); exact rfl; exact rfl; exact rfl) | ((with_reducible apply dw_readT); exact rfl; exact rfl; exact rfl)); (simp only [List.getElem?_toArray, List.toList_toArray, bin_eql, bin_neq, bin_lss, bin_leq, bin_gtr, bin_geq, bin_add, bin_sub, bin_mul, un_not, unA, AHeap.get_bump, AHeap.next_bump, opK0, kMove, kPick, kAlloc, kBox, kBuild, kBuildSlice, kLoad, kStore, kNilCheck, kBinOp, kUnOp, kFieldAddr, kField, kIndexAddr, kIndex, kLookup, kMapUpdate, kMakeMap, kExtract, kSlice, kCall, lenA, evA, evAs, evParts, toAV, toAV0, toAVs, T.get_set, T.get_nil, Nat.reduceAdd, Nat.reduceMul, Nat.reduceEqDiff, Nat.zero_add, Nat.add_zero, Nat.mul_one, Nat.zero_mul, AV.cells, List.all_cons, List.all_nil, AV.scalar, Bool.and_true, Bool.true_and, ↓reduceIte, if_true, und_all, Tryd.underlying3, Tryd.underlying4, Tryd.underlying5, Tryd.underlying9, Tryd.underlying23, Tryd.underlying24, Tryd.underlying31, Tryd.underlying38, Tryd.underlying39, Tryd.underlying40, Tryd.underlying41, Tryd.underlying42, Tryd.underlying45, Tryd.underlying46, Tryd.underlying48, Tryd.underlying50, Tryd.underlying55, Tryd.underlying57, Tryd.underlying67, siz3, agg3, zer3, byt3, siz4, agg4, zer4, byt4, siz5, agg5, zer5, byt5, siz9, agg9, zer9, byt9, siz23, agg23, zer23, byt23, siz24, agg24, zer24, byt24, siz31, agg31, zer31, byt31, siz38, agg38, zer38, byt38, siz39, agg39, zer39, byt39, siz40, agg40, zer40, byt40, siz41, agg41, zer41, byt41, siz42, agg42, zer42, byt42, siz45, agg45, zer45, byt45, siz46, agg46, zer46, byt46, siz48, agg48, zer48, byt48, siz50, agg50, zer50, byt50, siz55, agg55, zer55, byt55, siz57, agg57, zer57, byt57, siz67, agg67, zer67, byt67, AHeap.get_alloc, AHeap.get_set, AHeap.next_alloc, AHeap.next_set, AHeap.loadCells, AHeap.load1, AHeap.storeCells, List.getElem?_cons_zero, List.getElem?_cons_succ, List.length_cons, List.length_nil, List.drop_zero, List.take_succ_cons, List.take_zero, List.drop_succ_cons, List.drop_nil, List.take_nil, List.append_nil, List.cons_append, List.nil_append, binA, isConstO, keyOk, ents_some, Bool.or_true, Bool.or_false, Bool.true_or, Bool.false_or, wantedA, dstOk, Option.bind_some, List.append_nil, decide_true, decide_false, beq_self_eq_true, Bool.not_true, Bool.not_false, Bool.false_eq_true, if_false, List.zipIdx_cons, reid, toAV, Ent.val, c1, c3, q1, q3, hg, ap, c7] <;> rfl))
    | ((with_reducible apply wpOps_skipT); exact rfl; exact rfl)
    | ((with_reducible apply wpOps_skipN); exact rfl; exact rfl)
    | ((with_reducible apply dw_skipT); exact rfl; exact rfl)
    | (with_reducible apply aw_seq)
    | (with_reducible apply aw_regionL)
    | (with_reducible apply aw_block)
    | (with_reducible apply aw_scope)
    | (with_reducible apply aw_nil)
    | (with_reducible apply aw_then)
    | (with_reducible apply aw_thenR)
    | (with_reducible apply aw_thenE)
    | (with_reducible apply aw_blockR)
    | (with_reducible apply aw_blockN)
    | (with_reducible apply aw_blockE)
    | (with_reducible apply aw_ret)
    | (with_reducible apply aw_exit)
    | (with_reducible apply aw_skip)
    | ((with_reducible apply aw_condT); exact rfl)
    | ((with_reducible apply aw_condF); exact rfl)
    | ((with_reducible apply aw_drawL); (simp only [List.zipIdx_cons, List.zipIdx_nil, Nat.zero_add, Nat.reduceAdd] <;> rfl); kernel_rfl; kernel_rfl)
    | (with_reducible apply dw_nil)
    | fail)

  refine ⟨rfl, _, rfl, H.next, rfl, a1, by omega, ?_, ?_⟩
  · dsimp only; omega
  · exact ⟨by dsimp only; omega, fun i hi => (a3 i hi).trans (k1.old i hi), fun hF i hi => a4 (k1.fresh hF) i hi⟩
end Go.Proofs.YtkkhpibnbaepiaaDoor
