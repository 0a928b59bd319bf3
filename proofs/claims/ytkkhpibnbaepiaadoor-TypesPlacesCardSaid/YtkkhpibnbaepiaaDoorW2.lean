/-
  Law 6 on the abstract machine: read. Each theorem states its own conditions; there are no others.
-/
import Derived.Test.YtkkhpibnbaepiaaDoorW1
set_option maxRecDepth 100000
set_option linter.unusedSimpArgs false
set_option linter.unusedVariables false
set_option maxHeartbeats 0
namespace Go.Proofs.YtkkhpibnbaepiaaDoor
open Go.Am

/-- A type's form. -/
structure Fm where
  base : List UInt8
  name : List UInt8
  stars : Int
  arr : Bool
  many : Int
def Fm.av (f : Fm) : AV := .agg [.str f.base, .str f.name, .int .i64 f.stars, .bool f.arr, .int .i64 f.many]
def Fm.zero : Fm := ⟨[], [], 0, false, 0⟩
/-- How many elements digits tell: behind 65536, 65537. -/
def manyF (d : List UInt8) : Int := match Lib.atoiAll d with
  | .ok v => if 65536 < v then 65537 else v
  | _ => 65537
def kwStructB : List UInt8 := [115, 116, 114, 117, 99, 116]
def kwStruct : List UInt8 := [115, 116, 114, 117, 99, 116, 32]
def kwChar : List UInt8 := [99, 104, 97, 114]
def kwInt : List UInt8 := [105, 110, 116]
def kwLong : List UInt8 := [108, 111, 110, 103]
def kwVoid : List UInt8 := [118, 111, 105, 100]
/-- A figure between brackets. -/
def figF (fig : List UInt8) : Option Int :=
  if Lib.hasSuffix fig [93] = true then match Lib.trimSuffix fig [93] with
    | [] => none
    | c :: ds => if c = 48 then none else if Lib.trimS (c :: ds) digits = [] then some (manyF (c :: ds)) else none
  else none
def rdArr (s : List UInt8) : Option (Bool × Int) :=
  if (cutF s).2.2 = true then (figF (cutF s).2.1).map fun n => (true, n) else some (false, 0)
def rdTail (rest : List UInt8) (arr : Bool) (many : Int) : Fm × Bool :=
  let base := Lib.trimRightB rest 42
  let stars : Int := (rest.length : Int) - (base.length : Int)
  if Lib.hasPrefix base kwStruct = true then (⟨kwStructB, Lib.trimPrefix base kwStruct, stars, arr, many⟩, gn (Lib.trimPrefix base kwStruct))
  else (⟨base, [], stars, arr, many⟩, base == kwChar || (base == kwInt || (base == kwLong || (base == kwVoid && (decide (0 < stars) || !arr)))))
/-- What read answers. -/
def rd (s : List UInt8) : Fm × Bool := match rdArr s with
  | none => (Fm.zero, false)
  | some (a, m) => rdTail (cutF s).1 a m
theorem cutF_le1 (s : List UInt8) : (cutF s).1.length ≤ s.length := by
  unfold cutF; split
  · simp only [List.length_take]; omega
  · exact Nat.le_refl _
theorem cutF_le2 (s : List UInt8) : (cutF s).2.1.length ≤ s.length := by
  unfold cutF; split
  · simp only [List.length_drop]; omega
  · simp
theorem trimRightB_le (s : List UInt8) (c : UInt8) : (Lib.trimRightB s c).length ≤ s.length := by
  unfold Lib.trimRightB
  rw [List.length_reverse]
  have := (List.dropWhile_suffix (fun x => x == c) (l := s.reverse)).length_le
  rw [List.length_reverse] at this
  exact this
theorem manyF_err {d : List UInt8} (hv : ∀ v, Lib.atoiAll d ≠ .ok v) : manyF d = 65537 := by
  unfold manyF
  split
  · rename_i v e; exact (hv v e).elim
  · rfl
theorem pr25 : env.prim 25 = some (valPrim cutSF) := by unfold env; rfl
theorem pr26 : env.prim 26 = some (atoiPrim 96) := by unfold env; rfl
theorem pr27 : env.prim 27 = some (valPrim trimRF) := by unfold env; rfl
theorem pr28 : env.prim 28 = some (valPrim cutPF) := by unfold env; rfl
theorem fn25 : env.fn 25 = some Tryd.f25 := by kernel_rfl
theorem fn26 : env.fn 26 = some Tryd.f26 := by kernel_rfl
theorem fn27 : env.fn 27 = some Tryd.f27 := by kernel_rfl
theorem fn28 : env.fn 28 = some Tryd.f28 := by kernel_rfl
theorem res17 : Tryd.f17.results.toList = [.cell 2 57, .tmp 3] := rfl
/-- What is known behind the figure: the registers that the rest reads. -/
structure RdMid (h : AHeap) (s : List UInt8) (st : St) (a : Bool) (m : Int) : Prop where
  n : st.n = 103
  ds : st.ds = []
  rnd : st.rnd = false
  r2 : st.rg.get 2 = some (.ptr (some (h.next, 0)))
  r4 : st.rg.get 4 = some (.str (cutF s).1)
  r6 : st.rg.get 6 = some (.bool a)
  cell : st.h.get h.next = some (.cells true 0 [.str [], .str [], .int .i64 0, .bool a, .int .i64 m])
  keep : Keep h st.h
  nx : h.next < st.h.next
theorem cutSF_run {s p : List UInt8} {h : AHeap} (hl : s.length ≤ 9223372036854775807) : valPrim cutSF [.str s, .str p] h = some (.ret (.tup [.str (Lib.trimSuffix s p), .bool (Lib.hasSuffix s p)]), h) := by
  simp only [valPrim, cutSF, if_pos hl]
theorem cutPF_run {s p : List UInt8} {h : AHeap} : valPrim cutPF [.str s, .str p] h = some (.ret (.tup [.str (Lib.trimPrefix s p), .bool (Lib.hasPrefix s p)]), h) := rfl
theorem trimF_run {s p : List UInt8} {h : AHeap} (hl : s.length ≤ 9223372036854775807) (hp : p.length < 4294967281) (ha : ascii p = true) : valPrim trimF [.str s, .str p] h = some (.ret (.str (Lib.trimS s p)), h) := by
  simp only [valPrim, trimF, if_pos (And.intro hl (And.intro hp ha))]
theorem trimRF_run {s : List UInt8} {c : UInt8} {h : AHeap} (hl : s.length ≤ 9223372036854775807) (hc : c.toNat < 128) : valPrim trimRF [.str s, .str [c]] h = some (.ret (.str (Lib.trimRightB s c)), h) := by
  simp only [valPrim, trimRF, if_pos (And.intro hl hc)]
theorem atoi_ok {s : List UInt8} {h : AHeap} {T : TypeId} {v : Int} (hl : s.length ≤ 281474976710656) (hv : Lib.atoiAll s = .ok v) : atoiPrim T [.str s] h = some (.ret (.tup [.int .i64 v, .nilIface]), h) := by
  simp only [atoiPrim, if_pos hl, hv]
theorem atoi_err {s : List UInt8} {h : AHeap} {T : TypeId} (hl : s.length ≤ 281474976710656) (hv : ∀ v, Lib.atoiAll s ≠ .ok v) : ∃ n, atoiPrim T [.str s] h = some (.ret (.tup [.int .i64 n, .iface T (.ptr (some (h.next, 0)))]), (h.alloc .dead).2) := by
  cases e : Lib.atoiAll s with
  | ok v => exact (hv v e).elim
  | range => exact ⟨Lib.atoiSat s, by simp only [atoiPrim, if_pos hl, e]⟩
  | _ => exact ⟨0, by simp only [atoiPrim, if_pos hl, e]⟩

theorem read_w (h : AHeap) (s : List UInt8) (hs : s.length ≤ 281474976710656) : WCall env 17 [.str s] h (fun out h' => out = .ret (.tup [(rd s).1.av, .bool (rd s).2]) ∧ Keep h h') := by
    have hc1 := cutF_le1 s
    have hc2 := cutF_le2 s
    refine WCall.body pr17 fn17 rfl (Nat.le_of_ble_eq_true rfl) ?_
    simp only [argsA]
    repeat (first
      | ((first | ((with_reducible apply wpOps_valT); exact rfl; exact rfl) | ((with_reducible apply wpOps_storeN); exact rfl; exact rfl) | ((with_reducible apply dw_pureT); exact rfl; exact rfl; exact rfl) | ((with_reducible apply dw_readT); exact rfl; exact rfl; exact rfl)); (simp only [List.getElem?_toArray, List.toList_toArray, bin_eql, bin_neq, bin_lss, bin_leq, bin_gtr, bin_geq, bin_add, bin_sub, bin_mul, un_not, unA, AHeap.get_bump, AHeap.next_bump, opK0, kMove, kPick, kAlloc, kBox, kBuild, kBuildSlice, kLoad, kStore, kNilCheck, kBinOp, kUnOp, kFieldAddr, kField, kIndexAddr, kIndex, kLookup, kMapUpdate, kMakeMap, kExtract, kSlice, kCall, lenA, evA, evAs, evParts, toAV, toAV0, toAVs, T.get_set, T.get_nil, Nat.reduceAdd, Nat.reduceMul, Nat.reduceEqDiff, Nat.zero_add, Nat.add_zero, Nat.mul_one, Nat.zero_mul, AV.cells, List.all_cons, List.all_nil, AV.scalar, Bool.and_true, Bool.true_and, ↓reduceIte, if_true, und_all, Tryd.underlying3, Tryd.underlying4, Tryd.underlying5, Tryd.underlying9, Tryd.underlying23, Tryd.underlying24, Tryd.underlying31, Tryd.underlying38, Tryd.underlying39, Tryd.underlying40, Tryd.underlying41, Tryd.underlying42, Tryd.underlying45, Tryd.underlying46, Tryd.underlying48, Tryd.underlying50, Tryd.underlying55, Tryd.underlying57, Tryd.underlying67, siz3, agg3, zer3, byt3, siz4, agg4, zer4, byt4, siz5, agg5, zer5, byt5, siz9, agg9, zer9, byt9, siz23, agg23, zer23, byt23, siz24, agg24, zer24, byt24, siz31, agg31, zer31, byt31, siz38, agg38, zer38, byt38, siz39, agg39, zer39, byt39, siz40, agg40, zer40, byt40, siz41, agg41, zer41, byt41, siz42, agg42, zer42, byt42, siz45, agg45, zer45, byt45, siz46, agg46, zer46, byt46, siz48, agg48, zer48, byt48, siz50, agg50, zer50, byt50, siz55, agg55, zer55, byt55, siz57, agg57, zer57, byt57, siz67, agg67, zer67, byt67, AHeap.get_alloc, AHeap.get_set, AHeap.next_alloc, AHeap.next_set, AHeap.loadCells, AHeap.load1, AHeap.storeCells, List.getElem?_cons_zero, List.getElem?_cons_succ, List.length_cons, List.length_nil, List.drop_zero, List.take_succ_cons, List.take_zero, List.drop_succ_cons, List.drop_nil, List.take_nil, List.append_nil, List.cons_append, List.nil_append, binA, isConstO, keyOk, ents_some, Bool.or_true, Bool.or_false, Bool.true_or, Bool.false_or, wantedA, dstOk, Option.bind_some, List.append_nil, decide_true, decide_false, Int.toNat_zero, Int.le_refl, beq_self_eq_true, boundsA, boundA, Int.toNat_natCast, Int.natCast_one] <;> rfl))
      | ((with_reducible apply wpOps_skipT); exact rfl; exact rfl)
      | ((with_reducible apply wpOps_skipN); exact rfl; exact rfl)
      | ((with_reducible apply dw_skipT); exact rfl; exact rfl)
      | (with_reducible apply aw_seq)
      | (with_reducible apply aw_regionL)
      | (with_reducible apply aw_block)
      | (with_reducible apply aw_scope)
      | (with_reducible apply aw_nil)
      | (with_reducible apply aw_then)
      | (with_reducible apply aw_thenR)
      | (with_reducible apply aw_thenE)
      | (with_reducible apply aw_blockR)
      | (with_reducible apply aw_blockN)
      | (with_reducible apply aw_blockE)
      | (with_reducible apply aw_ret)
      | (with_reducible apply aw_exit)
      | (with_reducible apply aw_skip)
      | ((with_reducible apply aw_condT); exact rfl)
      | ((with_reducible apply aw_condF); exact rfl)
      | ((with_reducible apply aw_drawL); (simp only [List.zipIdx_cons, List.zipIdx_nil, Nat.zero_add, Nat.reduceAdd] <;> rfl); kernel_rfl; kernel_rfl)
      | (with_reducible apply dw_nil)
      | fail)

    (with_reducible apply wpOps_callT); exact rfl; exact rfl; (simp only [List.getElem?_toArray, List.toList_toArray, bin_eql, bin_neq, bin_lss, bin_leq, bin_gtr, bin_geq, bin_add, bin_sub, bin_mul, un_not, unA, AHeap.get_bump, AHeap.next_bump, opK0, kMove, kPick, kAlloc, kBox, kBuild, kBuildSlice, kLoad, kStore, kNilCheck, kBinOp, kUnOp, kFieldAddr, kField, kIndexAddr, kIndex, kLookup, kMapUpdate, kMakeMap, kExtract, kSlice, kCall, lenA, evA, evAs, evParts, toAV, toAV0, toAVs, T.get_set, T.get_nil, Nat.reduceAdd, Nat.reduceMul, Nat.reduceEqDiff, Nat.zero_add, Nat.add_zero, Nat.mul_one, Nat.zero_mul, AV.cells, List.all_cons, List.all_nil, AV.scalar, Bool.and_true, Bool.true_and, ↓reduceIte, if_true, und_all, Tryd.underlying3, Tryd.underlying4, Tryd.underlying5, Tryd.underlying9, Tryd.underlying23, Tryd.underlying24, Tryd.underlying31, Tryd.underlying38, Tryd.underlying39, Tryd.underlying40, Tryd.underlying41, Tryd.underlying42, Tryd.underlying45, Tryd.underlying46, Tryd.underlying48, Tryd.underlying50, Tryd.underlying55, Tryd.underlying57, Tryd.underlying67, siz3, agg3, zer3, byt3, siz4, agg4, zer4, byt4, siz5, agg5, zer5, byt5, siz9, agg9, zer9, byt9, siz23, agg23, zer23, byt23, siz24, agg24, zer24, byt24, siz31, agg31, zer31, byt31, siz38, agg38, zer38, byt38, siz39, agg39, zer39, byt39, siz40, agg40, zer40, byt40, siz41, agg41, zer41, byt41, siz42, agg42, zer42, byt42, siz45, agg45, zer45, byt45, siz46, agg46, zer46, byt46, siz48, agg48, zer48, byt48, siz50, agg50, zer50, byt50, siz55, agg55, zer55, byt55, siz57, agg57, zer57, byt57, siz67, agg67, zer67, byt67, AHeap.get_alloc, AHeap.get_set, AHeap.next_alloc, AHeap.next_set, AHeap.loadCells, AHeap.load1, AHeap.storeCells, List.getElem?_cons_zero, List.getElem?_cons_succ, List.length_cons, List.length_nil, List.drop_zero, List.take_succ_cons, List.take_zero, List.drop_succ_cons, List.drop_nil, List.take_nil, List.append_nil, List.cons_append, List.nil_append, binA, isConstO, keyOk, ents_some, Bool.or_true, Bool.or_false, Bool.true_or, Bool.false_or, wantedA, dstOk, Option.bind_some, List.append_nil, decide_true, decide_false, Int.toNat_zero, Int.le_refl, beq_self_eq_true, boundsA, boundA, Int.toNat_natCast, Int.natCast_one] <;> rfl)

    refine (cut_w _ s hs).mono fun out h2 hq => ?_
    obtain ⟨rfl, hk⟩ := hq
    dsimp only
    have c0 : h2.get h.next = some (.cells true 0 [.str [], .str [], .int .i64 0, .bool false, .int .i64 0]) := by
      rw [hk.old _ (Nat.lt_succ_self _)]
      simp only [AHeap.get_alloc, if_true]
    have n0 : h.next < h2.next := hk.next
    have k0 : Keep h h2 := (Keep.alloc _ (Keep.refl h)).trans hk
    repeat (first
      | ((first | ((with_reducible apply wpOps_valT); exact rfl; exact rfl) | ((with_reducible apply wpOps_storeN); exact rfl; exact rfl) | ((with_reducible apply dw_pureT); exact rfl; exact rfl; exact rfl) | ((with_reducible apply dw_readT); exact rfl; exact rfl; exact rfl)); (simp only [List.getElem?_toArray, List.toList_toArray, bin_eql, bin_neq, bin_lss, bin_leq, bin_gtr, bin_geq, bin_add, bin_sub, bin_mul, un_not, unA, AHeap.get_bump, AHeap.next_bump, opK0, kMove, kPick, kAlloc, kBox, kBuild, kBuildSlice, kLoad, kStore, kNilCheck, kBinOp, kUnOp, kFieldAddr, kField, kIndexAddr, kIndex, kLookup, kMapUpdate, kMakeMap, kExtract, kSlice, kCall, lenA, evA, evAs, evParts, toAV, toAV0, toAVs, T.get_set, T.get_nil, Nat.reduceAdd, Nat.reduceMul, Nat.reduceEqDiff, Nat.zero_add, Nat.add_zero, Nat.mul_one, Nat.zero_mul, AV.cells, List.all_cons, List.all_nil, AV.scalar, Bool.and_true, Bool.true_and, ↓reduceIte, if_true, und_all, Tryd.underlying3, Tryd.underlying4, Tryd.underlying5, Tryd.underlying9, Tryd.underlying23, Tryd.underlying24, Tryd.underlying31, Tryd.underlying38, Tryd.underlying39, Tryd.underlying40, Tryd.underlying41, Tryd.underlying42, Tryd.underlying45, Tryd.underlying46, Tryd.underlying48, Tryd.underlying50, Tryd.underlying55, Tryd.underlying57, Tryd.underlying67, siz3, agg3, zer3, byt3, siz4, agg4, zer4, byt4, siz5, agg5, zer5, byt5, siz9, agg9, zer9, byt9, siz23, agg23, zer23, byt23, siz24, agg24, zer24, byt24, siz31, agg31, zer31, byt31, siz38, agg38, zer38, byt38, siz39, agg39, zer39, byt39, siz40, agg40, zer40, byt40, siz41, agg41, zer41, byt41, siz42, agg42, zer42, byt42, siz45, agg45, zer45, byt45, siz46, agg46, zer46, byt46, siz48, agg48, zer48, byt48, siz50, agg50, zer50, byt50, siz55, agg55, zer55, byt55, siz57, agg57, zer57, byt57, siz67, agg67, zer67, byt67, AHeap.get_alloc, AHeap.get_set, AHeap.next_alloc, AHeap.next_set, AHeap.loadCells, AHeap.load1, AHeap.storeCells, List.getElem?_cons_zero, List.getElem?_cons_succ, List.length_cons, List.length_nil, List.drop_zero, List.take_succ_cons, List.take_zero, List.drop_succ_cons, List.drop_nil, List.take_nil, List.append_nil, List.cons_append, List.nil_append, binA, isConstO, keyOk, ents_some, Bool.or_true, Bool.or_false, Bool.true_or, Bool.false_or, wantedA, dstOk, Option.bind_some, List.append_nil, decide_true, decide_false, Int.toNat_zero, Int.le_refl, beq_self_eq_true, boundsA, boundA, Int.toNat_natCast, Int.natCast_one, c0] <;> rfl))
      | ((with_reducible apply wpOps_skipT); exact rfl; exact rfl)
      | ((with_reducible apply wpOps_skipN); exact rfl; exact rfl)
      | ((with_reducible apply dw_skipT); exact rfl; exact rfl)
      | (with_reducible apply aw_seq)
      | (with_reducible apply aw_regionL)
      | (with_reducible apply aw_block)
      | (with_reducible apply aw_scope)
      | (with_reducible apply aw_nil)
      | (with_reducible apply aw_then)
      | (with_reducible apply aw_thenR)
      | (with_reducible apply aw_thenE)
      | (with_reducible apply aw_blockR)
      | (with_reducible apply aw_blockN)
      | (with_reducible apply aw_blockE)
      | (with_reducible apply aw_ret)
      | (with_reducible apply aw_exit)
      | (with_reducible apply aw_skip)
      | ((with_reducible apply aw_condT); exact rfl)
      | ((with_reducible apply aw_condF); exact rfl)
      | ((with_reducible apply aw_drawL); (simp only [List.zipIdx_cons, List.zipIdx_nil, Nat.zero_add, Nat.reduceAdd] <;> rfl); kernel_rfl; kernel_rfl)
      | (with_reducible apply dw_nil)
      | fail)

    refine aw_cutK (fun st' => ∃ a m, rdArr s = some (a, m) ∧ RdMid h s st' a m) ?_ ?_
    · by_cases hb : (cutF s).2.2 = true
      · rw [hb]
        repeat (first
          | ((first | ((with_reducible apply wpOps_valT); exact rfl; exact rfl) | ((with_reducible apply wpOps_storeN); exact rfl; exact rfl) | ((with_reducible apply dw_pureT); exact rfl; exact rfl; exact rfl) | ((with_reducible apply dw_readT); exact rfl; exact rfl; exact rfl)); (simp only [List.getElem?_toArray, List.toList_toArray, bin_eql, bin_neq, bin_lss, bin_leq, bin_gtr, bin_geq, bin_add, bin_sub, bin_mul, un_not, unA, AHeap.get_bump, AHeap.next_bump, opK0, kMove, kPick, kAlloc, kBox, kBuild, kBuildSlice, kLoad, kStore, kNilCheck, kBinOp, kUnOp, kFieldAddr, kField, kIndexAddr, kIndex, kLookup, kMapUpdate, kMakeMap, kExtract, kSlice, kCall, lenA, evA, evAs, evParts, toAV, toAV0, toAVs, T.get_set, T.get_nil, Nat.reduceAdd, Nat.reduceMul, Nat.reduceEqDiff, Nat.zero_add, Nat.add_zero, Nat.mul_one, Nat.zero_mul, AV.cells, List.all_cons, List.all_nil, AV.scalar, Bool.and_true, Bool.true_and, ↓reduceIte, if_true, und_all, Tryd.underlying3, Tryd.underlying4, Tryd.underlying5, Tryd.underlying9, Tryd.underlying23, Tryd.underlying24, Tryd.underlying31, Tryd.underlying38, Tryd.underlying39, Tryd.underlying40, Tryd.underlying41, Tryd.underlying42, Tryd.underlying45, Tryd.underlying46, Tryd.underlying48, Tryd.underlying50, Tryd.underlying55, Tryd.underlying57, Tryd.underlying67, siz3, agg3, zer3, byt3, siz4, agg4, zer4, byt4, siz5, agg5, zer5, byt5, siz9, agg9, zer9, byt9, siz23, agg23, zer23, byt23, siz24, agg24, zer24, byt24, siz31, agg31, zer31, byt31, siz38, agg38, zer38, byt38, siz39, agg39, zer39, byt39, siz40, agg40, zer40, byt40, siz41, agg41, zer41, byt41, siz42, agg42, zer42, byt42, siz45, agg45, zer45, byt45, siz46, agg46, zer46, byt46, siz48, agg48, zer48, byt48, siz50, agg50, zer50, byt50, siz55, agg55, zer55, byt55, siz57, agg57, zer57, byt57, siz67, agg67, zer67, byt67, AHeap.get_alloc, AHeap.get_set, AHeap.next_alloc, AHeap.next_set, AHeap.loadCells, AHeap.load1, AHeap.storeCells, List.getElem?_cons_zero, List.getElem?_cons_succ, List.length_cons, List.length_nil, List.drop_zero, List.take_succ_cons, List.take_zero, List.drop_succ_cons, List.drop_nil, List.take_nil, List.append_nil, List.cons_append, List.nil_append, binA, isConstO, keyOk, ents_some, Bool.or_true, Bool.or_false, Bool.true_or, Bool.false_or, wantedA, dstOk, Option.bind_some, List.append_nil, decide_true, decide_false, Int.toNat_zero, Int.le_refl, beq_self_eq_true, boundsA, boundA, Int.toNat_natCast, Int.natCast_one, c0] <;> rfl))
          | ((with_reducible apply wpOps_skipT); exact rfl; exact rfl)
          | ((with_reducible apply wpOps_skipN); exact rfl; exact rfl)
          | ((with_reducible apply dw_skipT); exact rfl; exact rfl)
          | (with_reducible apply aw_seq)
          | (with_reducible apply aw_regionL)
          | (with_reducible apply aw_block)
          | (with_reducible apply aw_scope)
          | (with_reducible apply aw_nil)
          | (with_reducible apply aw_then)
          | (with_reducible apply aw_thenR)
          | (with_reducible apply aw_thenE)
          | (with_reducible apply aw_blockR)
          | (with_reducible apply aw_blockN)
          | (with_reducible apply aw_blockE)
          | (with_reducible apply aw_ret)
          | (with_reducible apply aw_exit)
          | (with_reducible apply aw_skip)
          | ((with_reducible apply aw_condT); exact rfl)
          | ((with_reducible apply aw_condF); exact rfl)
          | ((with_reducible apply aw_drawL); (simp only [List.zipIdx_cons, List.zipIdx_nil, Nat.zero_add, Nat.reduceAdd] <;> rfl); kernel_rfl; kernel_rfl)
          | (with_reducible apply dw_nil)
          | fail)

        (with_reducible apply wpOps_callT); exact rfl; exact rfl; (simp only [List.getElem?_toArray, List.toList_toArray, bin_eql, bin_neq, bin_lss, bin_leq, bin_gtr, bin_geq, bin_add, bin_sub, bin_mul, un_not, unA, AHeap.get_bump, AHeap.next_bump, opK0, kMove, kPick, kAlloc, kBox, kBuild, kBuildSlice, kLoad, kStore, kNilCheck, kBinOp, kUnOp, kFieldAddr, kField, kIndexAddr, kIndex, kLookup, kMapUpdate, kMakeMap, kExtract, kSlice, kCall, lenA, evA, evAs, evParts, toAV, toAV0, toAVs, T.get_set, T.get_nil, Nat.reduceAdd, Nat.reduceMul, Nat.reduceEqDiff, Nat.zero_add, Nat.add_zero, Nat.mul_one, Nat.zero_mul, AV.cells, List.all_cons, List.all_nil, AV.scalar, Bool.and_true, Bool.true_and, ↓reduceIte, if_true, und_all, Tryd.underlying3, Tryd.underlying4, Tryd.underlying5, Tryd.underlying9, Tryd.underlying23, Tryd.underlying24, Tryd.underlying31, Tryd.underlying38, Tryd.underlying39, Tryd.underlying40, Tryd.underlying41, Tryd.underlying42, Tryd.underlying45, Tryd.underlying46, Tryd.underlying48, Tryd.underlying50, Tryd.underlying55, Tryd.underlying57, Tryd.underlying67, siz3, agg3, zer3, byt3, siz4, agg4, zer4, byt4, siz5, agg5, zer5, byt5, siz9, agg9, zer9, byt9, siz23, agg23, zer23, byt23, siz24, agg24, zer24, byt24, siz31, agg31, zer31, byt31, siz38, agg38, zer38, byt38, siz39, agg39, zer39, byt39, siz40, agg40, zer40, byt40, siz41, agg41, zer41, byt41, siz42, agg42, zer42, byt42, siz45, agg45, zer45, byt45, siz46, agg46, zer46, byt46, siz48, agg48, zer48, byt48, siz50, agg50, zer50, byt50, siz55, agg55, zer55, byt55, siz57, agg57, zer57, byt57, siz67, agg67, zer67, byt67, AHeap.get_alloc, AHeap.get_set, AHeap.next_alloc, AHeap.next_set, AHeap.loadCells, AHeap.load1, AHeap.storeCells, List.getElem?_cons_zero, List.getElem?_cons_succ, List.length_cons, List.length_nil, List.drop_zero, List.take_succ_cons, List.take_zero, List.drop_succ_cons, List.drop_nil, List.take_nil, List.append_nil, List.cons_append, List.nil_append, binA, isConstO, keyOk, ents_some, Bool.or_true, Bool.or_false, Bool.true_or, Bool.false_or, wantedA, dstOk, Option.bind_some, List.append_nil, decide_true, decide_false, Int.toNat_zero, Int.le_refl, beq_self_eq_true, boundsA, boundA, Int.toNat_natCast, Int.natCast_one, c0] <;> rfl)

        refine WCall.prim pr25 (cutSF_run (by omega)) ?_
        dsimp only
        by_cases h1 : Lib.hasSuffix (cutF s).2.1 [93] = true
        · rw [h1]
          have hl : (Lib.trimSuffix (cutF s).2.1 [93]).length ≤ s.length := Nat.le_trans (Lib.trimSuffix_le _ _) hc2
          cases h2' : Lib.trimSuffix (cutF s).2.1 [93] with
          | nil =>
            have e1 : rdArr s = Option.none := by simp only [rdArr, hb, figF, h1, h2', if_true, Option.map]
            repeat (first
              | ((first | ((with_reducible apply wpOps_valT); exact rfl; exact rfl) | ((with_reducible apply wpOps_storeN); exact rfl; exact rfl) | ((with_reducible apply dw_pureT); exact rfl; exact rfl; exact rfl) | ((with_reducible apply dw_readT); exact rfl; exact rfl; exact rfl)); (simp only [List.getElem?_toArray, List.toList_toArray, bin_eql, bin_neq, bin_lss, bin_leq, bin_gtr, bin_geq, bin_add, bin_sub, bin_mul, un_not, unA, AHeap.get_bump, AHeap.next_bump, opK0, kMove, kPick, kAlloc, kBox, kBuild, kBuildSlice, kLoad, kStore, kNilCheck, kBinOp, kUnOp, kFieldAddr, kField, kIndexAddr, kIndex, kLookup, kMapUpdate, kMakeMap, kExtract, kSlice, kCall, lenA, evA, evAs, evParts, toAV, toAV0, toAVs, T.get_set, T.get_nil, Nat.reduceAdd, Nat.reduceMul, Nat.reduceEqDiff, Nat.zero_add, Nat.add_zero, Nat.mul_one, Nat.zero_mul, AV.cells, List.all_cons, List.all_nil, AV.scalar, Bool.and_true, Bool.true_and, ↓reduceIte, if_true, und_all, Tryd.underlying3, Tryd.underlying4, Tryd.underlying5, Tryd.underlying9, Tryd.underlying23, Tryd.underlying24, Tryd.underlying31, Tryd.underlying38, Tryd.underlying39, Tryd.underlying40, Tryd.underlying41, Tryd.underlying42, Tryd.underlying45, Tryd.underlying46, Tryd.underlying48, Tryd.underlying50, Tryd.underlying55, Tryd.underlying57, Tryd.underlying67, siz3, agg3, zer3, byt3, siz4, agg4, zer4, byt4, siz5, agg5, zer5, byt5, siz9, agg9, zer9, byt9, siz23, agg23, zer23, byt23, siz24, agg24, zer24, byt24, siz31, agg31, zer31, byt31, siz38, agg38, zer38, byt38, siz39, agg39, zer39, byt39, siz40, agg40, zer40, byt40, siz41, agg41, zer41, byt41, siz42, agg42, zer42, byt42, siz45, agg45, zer45, byt45, siz46, agg46, zer46, byt46, siz48, agg48, zer48, byt48, siz50, agg50, zer50, byt50, siz55, agg55, zer55, byt55, siz57, agg57, zer57, byt57, siz67, agg67, zer67, byt67, AHeap.get_alloc, AHeap.get_set, AHeap.next_alloc, AHeap.next_set, AHeap.loadCells, AHeap.load1, AHeap.storeCells, List.getElem?_cons_zero, List.getElem?_cons_succ, List.length_cons, List.length_nil, List.drop_zero, List.take_succ_cons, List.take_zero, List.drop_succ_cons, List.drop_nil, List.take_nil, List.append_nil, List.cons_append, List.nil_append, binA, isConstO, keyOk, ents_some, Bool.or_true, Bool.or_false, Bool.true_or, Bool.false_or, wantedA, dstOk, Option.bind_some, List.append_nil, decide_true, decide_false, Int.toNat_zero, Int.le_refl, beq_self_eq_true, boundsA, boundA, Int.toNat_natCast, Int.natCast_one, c0] <;> rfl))
              | ((with_reducible apply wpOps_skipT); exact rfl; exact rfl)
              | ((with_reducible apply wpOps_skipN); exact rfl; exact rfl)
              | ((with_reducible apply dw_skipT); exact rfl; exact rfl)
              | (with_reducible apply aw_seq)
              | (with_reducible apply aw_regionL)
              | (with_reducible apply aw_block)
              | (with_reducible apply aw_scope)
              | (with_reducible apply aw_nil)
              | (with_reducible apply aw_then)
              | (with_reducible apply aw_thenR)
              | (with_reducible apply aw_thenE)
              | (with_reducible apply aw_blockR)
              | (with_reducible apply aw_blockN)
              | (with_reducible apply aw_blockE)
              | (with_reducible apply aw_ret)
              | (with_reducible apply aw_exit)
              | (with_reducible apply aw_skip)
              | ((with_reducible apply aw_condT); exact rfl)
              | ((with_reducible apply aw_condF); exact rfl)
              | ((with_reducible apply aw_drawL); (simp only [List.zipIdx_cons, List.zipIdx_nil, Nat.zero_add, Nat.reduceAdd] <;> rfl); kernel_rfl; kernel_rfl)
              | (with_reducible apply dw_nil)
              | fail)

            refine ⟨rfl, _, (by simp only [res17, resultsA, resultA, List.getElem?_toArray, List.toList_toArray, bin_eql, bin_neq, bin_lss, bin_leq, bin_gtr, bin_geq, bin_add, bin_sub, bin_mul, un_not, unA, AHeap.get_bump, AHeap.next_bump, opK0, kMove, kPick, kAlloc, kBox, kBuild, kBuildSlice, kLoad, kStore, kNilCheck, kBinOp, kUnOp, kFieldAddr, kField, kIndexAddr, kIndex, kLookup, kMapUpdate, kMakeMap, kExtract, kSlice, kCall, lenA, evA, evAs, evParts, toAV, toAV0, toAVs, T.get_set, T.get_nil, Nat.reduceAdd, Nat.reduceMul, Nat.reduceEqDiff, Nat.zero_add, Nat.add_zero, Nat.mul_one, Nat.zero_mul, AV.cells, List.all_cons, List.all_nil, AV.scalar, Bool.and_true, Bool.true_and, ↓reduceIte, if_true, und_all, Tryd.underlying3, Tryd.underlying4, Tryd.underlying5, Tryd.underlying9, Tryd.underlying23, Tryd.underlying24, Tryd.underlying31, Tryd.underlying38, Tryd.underlying39, Tryd.underlying40, Tryd.underlying41, Tryd.underlying42, Tryd.underlying45, Tryd.underlying46, Tryd.underlying48, Tryd.underlying50, Tryd.underlying55, Tryd.underlying57, Tryd.underlying67, siz3, agg3, zer3, byt3, siz4, agg4, zer4, byt4, siz5, agg5, zer5, byt5, siz9, agg9, zer9, byt9, siz23, agg23, zer23, byt23, siz24, agg24, zer24, byt24, siz31, agg31, zer31, byt31, siz38, agg38, zer38, byt38, siz39, agg39, zer39, byt39, siz40, agg40, zer40, byt40, siz41, agg41, zer41, byt41, siz42, agg42, zer42, byt42, siz45, agg45, zer45, byt45, siz46, agg46, zer46, byt46, siz48, agg48, zer48, byt48, siz50, agg50, zer50, byt50, siz55, agg55, zer55, byt55, siz57, agg57, zer57, byt57, siz67, agg67, zer67, byt67, AHeap.get_alloc, AHeap.get_set, AHeap.next_alloc, AHeap.next_set, AHeap.loadCells, AHeap.load1, AHeap.storeCells, List.getElem?_cons_zero, List.getElem?_cons_succ, List.length_cons, List.length_nil, List.drop_zero, List.take_succ_cons, List.take_zero, List.drop_succ_cons, List.drop_nil, List.take_nil, List.append_nil, List.cons_append, List.nil_append, binA, isConstO, keyOk, ents_some, Bool.or_true, Bool.or_false, Bool.true_or, Bool.false_or, wantedA, dstOk, Option.bind_some, List.append_nil, decide_true, decide_false, Int.toNat_zero, Int.le_refl, beq_self_eq_true, boundsA, boundA, Int.toNat_natCast, Int.natCast_one, c0, AHeap.get_set] <;> rfl), ?_, ?_⟩
            · simp only [rd, e1]; rfl
            · skip
              try dsimp only
              repeat (first | exact Keep.refl _ | exact k0 | (with_reducible apply Keep.bump) | (with_reducible apply Keep.alloc) | ((with_reducible apply Keep.set); (first | exact Nat.le_refl _ | (have := Keep.next k0; omega)); ((try simp only [AHeap.next_alloc, AHeap.next_bump, AHeap.next_set]); have := Keep.next k0; omega)))

          | cons c ds =>
            rw [h2'] at hl
            have g1 : ((0 : Int) ≤ 0 ∧ (0 : Int) < ((c :: ds).length : Int)) = True := eq_true ⟨Int.le_refl _, by simp only [List.length_cons]; omega⟩
            by_cases h3 : c = 48
            · subst h3
              have e1 : rdArr s = Option.none := by simp only [rdArr, hb, figF, h1, h2', if_true, Option.map]
              repeat (first
                | ((first | ((with_reducible apply wpOps_valT); exact rfl; exact rfl) | ((with_reducible apply wpOps_storeN); exact rfl; exact rfl) | ((with_reducible apply dw_pureT); exact rfl; exact rfl; exact rfl) | ((with_reducible apply dw_readT); exact rfl; exact rfl; exact rfl)); (simp only [List.getElem?_toArray, List.toList_toArray, bin_eql, bin_neq, bin_lss, bin_leq, bin_gtr, bin_geq, bin_add, bin_sub, bin_mul, un_not, unA, AHeap.get_bump, AHeap.next_bump, opK0, kMove, kPick, kAlloc, kBox, kBuild, kBuildSlice, kLoad, kStore, kNilCheck, kBinOp, kUnOp, kFieldAddr, kField, kIndexAddr, kIndex, kLookup, kMapUpdate, kMakeMap, kExtract, kSlice, kCall, lenA, evA, evAs, evParts, toAV, toAV0, toAVs, T.get_set, T.get_nil, Nat.reduceAdd, Nat.reduceMul, Nat.reduceEqDiff, Nat.zero_add, Nat.add_zero, Nat.mul_one, Nat.zero_mul, AV.cells, List.all_cons, List.all_nil, AV.scalar, Bool.and_true, Bool.true_and, ↓reduceIte, if_true, und_all, Tryd.underlying3, Tryd.underlying4, Tryd.underlying5, Tryd.underlying9, Tryd.underlying23, Tryd.underlying24, Tryd.underlying31, Tryd.underlying38, Tryd.underlying39, Tryd.underlying40, Tryd.underlying41, Tryd.underlying42, Tryd.underlying45, Tryd.underlying46, Tryd.underlying48, Tryd.underlying50, Tryd.underlying55, Tryd.underlying57, Tryd.underlying67, siz3, agg3, zer3, byt3, siz4, agg4, zer4, byt4, siz5, agg5, zer5, byt5, siz9, agg9, zer9, byt9, siz23, agg23, zer23, byt23, siz24, agg24, zer24, byt24, siz31, agg31, zer31, byt31, siz38, agg38, zer38, byt38, siz39, agg39, zer39, byt39, siz40, agg40, zer40, byt40, siz41, agg41, zer41, byt41, siz42, agg42, zer42, byt42, siz45, agg45, zer45, byt45, siz46, agg46, zer46, byt46, siz48, agg48, zer48, byt48, siz50, agg50, zer50, byt50, siz55, agg55, zer55, byt55, siz57, agg57, zer57, byt57, siz67, agg67, zer67, byt67, AHeap.get_alloc, AHeap.get_set, AHeap.next_alloc, AHeap.next_set, AHeap.loadCells, AHeap.load1, AHeap.storeCells, List.getElem?_cons_zero, List.getElem?_cons_succ, List.length_cons, List.length_nil, List.drop_zero, List.take_succ_cons, List.take_zero, List.drop_succ_cons, List.drop_nil, List.take_nil, List.append_nil, List.cons_append, List.nil_append, binA, isConstO, keyOk, ents_some, Bool.or_true, Bool.or_false, Bool.true_or, Bool.false_or, wantedA, dstOk, Option.bind_some, List.append_nil, decide_true, decide_false, Int.toNat_zero, Int.le_refl, beq_self_eq_true, boundsA, boundA, Int.toNat_natCast, Int.natCast_one, c0, g1] <;> rfl))
                | ((with_reducible apply wpOps_skipT); exact rfl; exact rfl)
                | ((with_reducible apply wpOps_skipN); exact rfl; exact rfl)
                | ((with_reducible apply dw_skipT); exact rfl; exact rfl)
                | (with_reducible apply aw_seq)
                | (with_reducible apply aw_regionL)
                | (with_reducible apply aw_block)
                | (with_reducible apply aw_scope)
                | (with_reducible apply aw_nil)
                | (with_reducible apply aw_then)
                | (with_reducible apply aw_thenR)
                | (with_reducible apply aw_thenE)
                | (with_reducible apply aw_blockR)
                | (with_reducible apply aw_blockN)
                | (with_reducible apply aw_blockE)
                | (with_reducible apply aw_ret)
                | (with_reducible apply aw_exit)
                | (with_reducible apply aw_skip)
                | ((with_reducible apply aw_condT); exact rfl)
                | ((with_reducible apply aw_condF); exact rfl)
                | ((with_reducible apply aw_drawL); (simp only [List.zipIdx_cons, List.zipIdx_nil, Nat.zero_add, Nat.reduceAdd] <;> rfl); kernel_rfl; kernel_rfl)
                | (with_reducible apply dw_nil)
                | fail)

              refine ⟨rfl, _, (by simp only [res17, resultsA, resultA, List.getElem?_toArray, List.toList_toArray, bin_eql, bin_neq, bin_lss, bin_leq, bin_gtr, bin_geq, bin_add, bin_sub, bin_mul, un_not, unA, AHeap.get_bump, AHeap.next_bump, opK0, kMove, kPick, kAlloc, kBox, kBuild, kBuildSlice, kLoad, kStore, kNilCheck, kBinOp, kUnOp, kFieldAddr, kField, kIndexAddr, kIndex, kLookup, kMapUpdate, kMakeMap, kExtract, kSlice, kCall, lenA, evA, evAs, evParts, toAV, toAV0, toAVs, T.get_set, T.get_nil, Nat.reduceAdd, Nat.reduceMul, Nat.reduceEqDiff, Nat.zero_add, Nat.add_zero, Nat.mul_one, Nat.zero_mul, AV.cells, List.all_cons, List.all_nil, AV.scalar, Bool.and_true, Bool.true_and, ↓reduceIte, if_true, und_all, Tryd.underlying3, Tryd.underlying4, Tryd.underlying5, Tryd.underlying9, Tryd.underlying23, Tryd.underlying24, Tryd.underlying31, Tryd.underlying38, Tryd.underlying39, Tryd.underlying40, Tryd.underlying41, Tryd.underlying42, Tryd.underlying45, Tryd.underlying46, Tryd.underlying48, Tryd.underlying50, Tryd.underlying55, Tryd.underlying57, Tryd.underlying67, siz3, agg3, zer3, byt3, siz4, agg4, zer4, byt4, siz5, agg5, zer5, byt5, siz9, agg9, zer9, byt9, siz23, agg23, zer23, byt23, siz24, agg24, zer24, byt24, siz31, agg31, zer31, byt31, siz38, agg38, zer38, byt38, siz39, agg39, zer39, byt39, siz40, agg40, zer40, byt40, siz41, agg41, zer41, byt41, siz42, agg42, zer42, byt42, siz45, agg45, zer45, byt45, siz46, agg46, zer46, byt46, siz48, agg48, zer48, byt48, siz50, agg50, zer50, byt50, siz55, agg55, zer55, byt55, siz57, agg57, zer57, byt57, siz67, agg67, zer67, byt67, AHeap.get_alloc, AHeap.get_set, AHeap.next_alloc, AHeap.next_set, AHeap.loadCells, AHeap.load1, AHeap.storeCells, List.getElem?_cons_zero, List.getElem?_cons_succ, List.length_cons, List.length_nil, List.drop_zero, List.take_succ_cons, List.take_zero, List.drop_succ_cons, List.drop_nil, List.take_nil, List.append_nil, List.cons_append, List.nil_append, binA, isConstO, keyOk, ents_some, Bool.or_true, Bool.or_false, Bool.true_or, Bool.false_or, wantedA, dstOk, Option.bind_some, List.append_nil, decide_true, decide_false, Int.toNat_zero, Int.le_refl, beq_self_eq_true, boundsA, boundA, Int.toNat_natCast, Int.natCast_one, c0, AHeap.get_set] <;> rfl), ?_, ?_⟩
              · simp only [rd, e1]; rfl
              · skip
                try dsimp only
                repeat (first | exact Keep.refl _ | exact k0 | (with_reducible apply Keep.bump) | (with_reducible apply Keep.alloc) | ((with_reducible apply Keep.set); (first | exact Nat.le_refl _ | (have := Keep.next k0; omega)); ((try simp only [AHeap.next_alloc, AHeap.next_bump, AHeap.next_set]); have := Keep.next k0; omega)))

            · have g2 : ((c.toNat : Int) == 48) = false := by
                rw [beq_eq_false_iff_ne]; intro e; apply h3; apply UInt8.toNat.inj; have : (48 : UInt8).toNat = 48 := rfl; omega
              have g3 : (([] : List UInt8) == c :: ds) = false := rfl
              have g3' : ((c :: ds) == ([] : List UInt8)) = false := rfl
              repeat (first
                | ((first | ((with_reducible apply wpOps_valT); exact rfl; exact rfl) | ((with_reducible apply wpOps_storeN); exact rfl; exact rfl) | ((with_reducible apply dw_pureT); exact rfl; exact rfl; exact rfl) | ((with_reducible apply dw_readT); exact rfl; exact rfl; exact rfl)); (simp only [List.getElem?_toArray, List.toList_toArray, bin_eql, bin_neq, bin_lss, bin_leq, bin_gtr, bin_geq, bin_add, bin_sub, bin_mul, un_not, unA, AHeap.get_bump, AHeap.next_bump, opK0, kMove, kPick, kAlloc, kBox, kBuild, kBuildSlice, kLoad, kStore, kNilCheck, kBinOp, kUnOp, kFieldAddr, kField, kIndexAddr, kIndex, kLookup, kMapUpdate, kMakeMap, kExtract, kSlice, kCall, lenA, evA, evAs, evParts, toAV, toAV0, toAVs, T.get_set, T.get_nil, Nat.reduceAdd, Nat.reduceMul, Nat.reduceEqDiff, Nat.zero_add, Nat.add_zero, Nat.mul_one, Nat.zero_mul, AV.cells, List.all_cons, List.all_nil, AV.scalar, Bool.and_true, Bool.true_and, ↓reduceIte, if_true, und_all, Tryd.underlying3, Tryd.underlying4, Tryd.underlying5, Tryd.underlying9, Tryd.underlying23, Tryd.underlying24, Tryd.underlying31, Tryd.underlying38, Tryd.underlying39, Tryd.underlying40, Tryd.underlying41, Tryd.underlying42, Tryd.underlying45, Tryd.underlying46, Tryd.underlying48, Tryd.underlying50, Tryd.underlying55, Tryd.underlying57, Tryd.underlying67, siz3, agg3, zer3, byt3, siz4, agg4, zer4, byt4, siz5, agg5, zer5, byt5, siz9, agg9, zer9, byt9, siz23, agg23, zer23, byt23, siz24, agg24, zer24, byt24, siz31, agg31, zer31, byt31, siz38, agg38, zer38, byt38, siz39, agg39, zer39, byt39, siz40, agg40, zer40, byt40, siz41, agg41, zer41, byt41, siz42, agg42, zer42, byt42, siz45, agg45, zer45, byt45, siz46, agg46, zer46, byt46, siz48, agg48, zer48, byt48, siz50, agg50, zer50, byt50, siz55, agg55, zer55, byt55, siz57, agg57, zer57, byt57, siz67, agg67, zer67, byt67, AHeap.get_alloc, AHeap.get_set, AHeap.next_alloc, AHeap.next_set, AHeap.loadCells, AHeap.load1, AHeap.storeCells, List.getElem?_cons_zero, List.getElem?_cons_succ, List.length_cons, List.length_nil, List.drop_zero, List.take_succ_cons, List.take_zero, List.drop_succ_cons, List.drop_nil, List.take_nil, List.append_nil, List.cons_append, List.nil_append, binA, isConstO, keyOk, ents_some, Bool.or_true, Bool.or_false, Bool.true_or, Bool.false_or, wantedA, dstOk, Option.bind_some, List.append_nil, decide_true, decide_false, Int.toNat_zero, Int.le_refl, beq_self_eq_true, boundsA, boundA, Int.toNat_natCast, Int.natCast_one, c0, g1, g2, g3, g3'] <;> rfl))
                | ((with_reducible apply wpOps_skipT); exact rfl; exact rfl)
                | ((with_reducible apply wpOps_skipN); exact rfl; exact rfl)
                | ((with_reducible apply dw_skipT); exact rfl; exact rfl)
                | (with_reducible apply aw_seq)
                | (with_reducible apply aw_regionL)
                | (with_reducible apply aw_block)
                | (with_reducible apply aw_scope)
                | (with_reducible apply aw_nil)
                | (with_reducible apply aw_then)
                | (with_reducible apply aw_thenR)
                | (with_reducible apply aw_thenE)
                | (with_reducible apply aw_blockR)
                | (with_reducible apply aw_blockN)
                | (with_reducible apply aw_blockE)
                | (with_reducible apply aw_ret)
                | (with_reducible apply aw_exit)
                | (with_reducible apply aw_skip)
                | ((with_reducible apply aw_condT); exact rfl)
                | ((with_reducible apply aw_condF); exact rfl)
                | ((with_reducible apply aw_drawL); (simp only [List.zipIdx_cons, List.zipIdx_nil, Nat.zero_add, Nat.reduceAdd] <;> rfl); kernel_rfl; kernel_rfl)
                | (with_reducible apply dw_nil)
                | fail)

              (with_reducible apply wpOps_callT); exact rfl; exact rfl; (simp only [List.getElem?_toArray, List.toList_toArray, bin_eql, bin_neq, bin_lss, bin_leq, bin_gtr, bin_geq, bin_add, bin_sub, bin_mul, un_not, unA, AHeap.get_bump, AHeap.next_bump, opK0, kMove, kPick, kAlloc, kBox, kBuild, kBuildSlice, kLoad, kStore, kNilCheck, kBinOp, kUnOp, kFieldAddr, kField, kIndexAddr, kIndex, kLookup, kMapUpdate, kMakeMap, kExtract, kSlice, kCall, lenA, evA, evAs, evParts, toAV, toAV0, toAVs, T.get_set, T.get_nil, Nat.reduceAdd, Nat.reduceMul, Nat.reduceEqDiff, Nat.zero_add, Nat.add_zero, Nat.mul_one, Nat.zero_mul, AV.cells, List.all_cons, List.all_nil, AV.scalar, Bool.and_true, Bool.true_and, ↓reduceIte, if_true, und_all, Tryd.underlying3, Tryd.underlying4, Tryd.underlying5, Tryd.underlying9, Tryd.underlying23, Tryd.underlying24, Tryd.underlying31, Tryd.underlying38, Tryd.underlying39, Tryd.underlying40, Tryd.underlying41, Tryd.underlying42, Tryd.underlying45, Tryd.underlying46, Tryd.underlying48, Tryd.underlying50, Tryd.underlying55, Tryd.underlying57, Tryd.underlying67, siz3, agg3, zer3, byt3, siz4, agg4, zer4, byt4, siz5, agg5, zer5, byt5, siz9, agg9, zer9, byt9, siz23, agg23, zer23, byt23, siz24, agg24, zer24, byt24, siz31, agg31, zer31, byt31, siz38, agg38, zer38, byt38, siz39, agg39, zer39, byt39, siz40, agg40, zer40, byt40, siz41, agg41, zer41, byt41, siz42, agg42, zer42, byt42, siz45, agg45, zer45, byt45, siz46, agg46, zer46, byt46, siz48, agg48, zer48, byt48, siz50, agg50, zer50, byt50, siz55, agg55, zer55, byt55, siz57, agg57, zer57, byt57, siz67, agg67, zer67, byt67, AHeap.get_alloc, AHeap.get_set, AHeap.next_alloc, AHeap.next_set, AHeap.loadCells, AHeap.load1, AHeap.storeCells, List.getElem?_cons_zero, List.getElem?_cons_succ, List.length_cons, List.length_nil, List.drop_zero, List.take_succ_cons, List.take_zero, List.drop_succ_cons, List.drop_nil, List.take_nil, List.append_nil, List.cons_append, List.nil_append, binA, isConstO, keyOk, ents_some, Bool.or_true, Bool.or_false, Bool.true_or, Bool.false_or, wantedA, dstOk, Option.bind_some, List.append_nil, decide_true, decide_false, Int.toNat_zero, Int.le_refl, beq_self_eq_true, boundsA, boundA, Int.toNat_natCast, Int.natCast_one, c0, g1, g2, g3, g3'] <;> rfl)

              refine WCall.prim pr23 (trimF_run (by omega) (by decide) (by decide)) ?_
              dsimp only
              change Am.wpOps _ _ _ _ ⟨T.set (AV.str (Lib.trimS (c :: ds) digits)) _ _, _, _, _, _⟩
              by_cases h4 : Lib.trimS (c :: ds) digits = []
              · rw [h4]
                repeat (first
                  | ((first | ((with_reducible apply wpOps_valT); exact rfl; exact rfl) | ((with_reducible apply wpOps_storeN); exact rfl; exact rfl) | ((with_reducible apply dw_pureT); exact rfl; exact rfl; exact rfl) | ((with_reducible apply dw_readT); exact rfl; exact rfl; exact rfl)); (simp only [List.getElem?_toArray, List.toList_toArray, bin_eql, bin_neq, bin_lss, bin_leq, bin_gtr, bin_geq, bin_add, bin_sub, bin_mul, un_not, unA, AHeap.get_bump, AHeap.next_bump, opK0, kMove, kPick, kAlloc, kBox, kBuild, kBuildSlice, kLoad, kStore, kNilCheck, kBinOp, kUnOp, kFieldAddr, kField, kIndexAddr, kIndex, kLookup, kMapUpdate, kMakeMap, kExtract, kSlice, kCall, lenA, evA, evAs, evParts, toAV, toAV0, toAVs, T.get_set, T.get_nil, Nat.reduceAdd, Nat.reduceMul, Nat.reduceEqDiff, Nat.zero_add, Nat.add_zero, Nat.mul_one, Nat.zero_mul, AV.cells, List.all_cons, List.all_nil, AV.scalar, Bool.and_true, Bool.true_and, ↓reduceIte, if_true, und_all, Tryd.underlying3, Tryd.underlying4, Tryd.underlying5, Tryd.underlying9, Tryd.underlying23, Tryd.underlying24, Tryd.underlying31, Tryd.underlying38, Tryd.underlying39, Tryd.underlying40, Tryd.underlying41, Tryd.underlying42, Tryd.underlying45, Tryd.underlying46, Tryd.underlying48, Tryd.underlying50, Tryd.underlying55, Tryd.underlying57, Tryd.underlying67, siz3, agg3, zer3, byt3, siz4, agg4, zer4, byt4, siz5, agg5, zer5, byt5, siz9, agg9, zer9, byt9, siz23, agg23, zer23, byt23, siz24, agg24, zer24, byt24, siz31, agg31, zer31, byt31, siz38, agg38, zer38, byt38, siz39, agg39, zer39, byt39, siz40, agg40, zer40, byt40, siz41, agg41, zer41, byt41, siz42, agg42, zer42, byt42, siz45, agg45, zer45, byt45, siz46, agg46, zer46, byt46, siz48, agg48, zer48, byt48, siz50, agg50, zer50, byt50, siz55, agg55, zer55, byt55, siz57, agg57, zer57, byt57, siz67, agg67, zer67, byt67, AHeap.get_alloc, AHeap.get_set, AHeap.next_alloc, AHeap.next_set, AHeap.loadCells, AHeap.load1, AHeap.storeCells, List.getElem?_cons_zero, List.getElem?_cons_succ, List.length_cons, List.length_nil, List.drop_zero, List.take_succ_cons, List.take_zero, List.drop_succ_cons, List.drop_nil, List.take_nil, List.append_nil, List.cons_append, List.nil_append, binA, isConstO, keyOk, ents_some, Bool.or_true, Bool.or_false, Bool.true_or, Bool.false_or, wantedA, dstOk, Option.bind_some, List.append_nil, decide_true, decide_false, Int.toNat_zero, Int.le_refl, beq_self_eq_true, boundsA, boundA, Int.toNat_natCast, Int.natCast_one, c0, g1, g2, g3, g3', bne_self_eq_false] <;> rfl))
                  | ((with_reducible apply wpOps_skipT); exact rfl; exact rfl)
                  | ((with_reducible apply wpOps_skipN); exact rfl; exact rfl)
                  | ((with_reducible apply dw_skipT); exact rfl; exact rfl)
                  | (with_reducible apply aw_seq)
                  | (with_reducible apply aw_regionL)
                  | (with_reducible apply aw_block)
                  | (with_reducible apply aw_scope)
                  | (with_reducible apply aw_nil)
                  | (with_reducible apply aw_then)
                  | (with_reducible apply aw_thenR)
                  | (with_reducible apply aw_thenE)
                  | (with_reducible apply aw_blockR)
                  | (with_reducible apply aw_blockN)
                  | (with_reducible apply aw_blockE)
                  | (with_reducible apply aw_ret)
                  | (with_reducible apply aw_exit)
                  | (with_reducible apply aw_skip)
                  | ((with_reducible apply aw_condT); exact rfl)
                  | ((with_reducible apply aw_condF); exact rfl)
                  | ((with_reducible apply aw_drawL); (simp only [List.zipIdx_cons, List.zipIdx_nil, Nat.zero_add, Nat.reduceAdd] <;> rfl); kernel_rfl; kernel_rfl)
                  | (with_reducible apply dw_nil)
                  | fail)

                (with_reducible apply wpOps_callT); exact rfl; exact rfl; (simp only [List.getElem?_toArray, List.toList_toArray, bin_eql, bin_neq, bin_lss, bin_leq, bin_gtr, bin_geq, bin_add, bin_sub, bin_mul, un_not, unA, AHeap.get_bump, AHeap.next_bump, opK0, kMove, kPick, kAlloc, kBox, kBuild, kBuildSlice, kLoad, kStore, kNilCheck, kBinOp, kUnOp, kFieldAddr, kField, kIndexAddr, kIndex, kLookup, kMapUpdate, kMakeMap, kExtract, kSlice, kCall, lenA, evA, evAs, evParts, toAV, toAV0, toAVs, T.get_set, T.get_nil, Nat.reduceAdd, Nat.reduceMul, Nat.reduceEqDiff, Nat.zero_add, Nat.add_zero, Nat.mul_one, Nat.zero_mul, AV.cells, List.all_cons, List.all_nil, AV.scalar, Bool.and_true, Bool.true_and, ↓reduceIte, if_true, und_all, Tryd.underlying3, Tryd.underlying4, Tryd.underlying5, Tryd.underlying9, Tryd.underlying23, Tryd.underlying24, Tryd.underlying31, Tryd.underlying38, Tryd.underlying39, Tryd.underlying40, Tryd.underlying41, Tryd.underlying42, Tryd.underlying45, Tryd.underlying46, Tryd.underlying48, Tryd.underlying50, Tryd.underlying55, Tryd.underlying57, Tryd.underlying67, siz3, agg3, zer3, byt3, siz4, agg4, zer4, byt4, siz5, agg5, zer5, byt5, siz9, agg9, zer9, byt9, siz23, agg23, zer23, byt23, siz24, agg24, zer24, byt24, siz31, agg31, zer31, byt31, siz38, agg38, zer38, byt38, siz39, agg39, zer39, byt39, siz40, agg40, zer40, byt40, siz41, agg41, zer41, byt41, siz42, agg42, zer42, byt42, siz45, agg45, zer45, byt45, siz46, agg46, zer46, byt46, siz48, agg48, zer48, byt48, siz50, agg50, zer50, byt50, siz55, agg55, zer55, byt55, siz57, agg57, zer57, byt57, siz67, agg67, zer67, byt67, AHeap.get_alloc, AHeap.get_set, AHeap.next_alloc, AHeap.next_set, AHeap.loadCells, AHeap.load1, AHeap.storeCells, List.getElem?_cons_zero, List.getElem?_cons_succ, List.length_cons, List.length_nil, List.drop_zero, List.take_succ_cons, List.take_zero, List.drop_succ_cons, List.drop_nil, List.take_nil, List.append_nil, List.cons_append, List.nil_append, binA, isConstO, keyOk, ents_some, Bool.or_true, Bool.or_false, Bool.true_or, Bool.false_or, wantedA, dstOk, Option.bind_some, List.append_nil, decide_true, decide_false, Int.toNat_zero, Int.le_refl, beq_self_eq_true, boundsA, boundA, Int.toNat_natCast, Int.natCast_one, c0, g1, g2, g3, g3'] <;> rfl)

                by_cases h5 : ∃ v, Lib.atoiAll (c :: ds) = .ok v
                · obtain ⟨v, hv⟩ := h5
                  refine WCall.prim pr26 (atoi_ok (by omega) hv) ?_
                  dsimp only
                  by_cases h6 : 65536 < v
                  · have g6 : (65536 < v) = True := eq_true h6
                    have e1 : rdArr s = some (true, 65537) := by simp only [rdArr, hb, figF, h1, h2', h3, h4, if_true, if_false, Option.map, manyF, hv, h6]
                    repeat (first
                      | ((first | ((with_reducible apply wpOps_valT); exact rfl; exact rfl) | ((with_reducible apply wpOps_storeN); exact rfl; exact rfl) | ((with_reducible apply dw_pureT); exact rfl; exact rfl; exact rfl) | ((with_reducible apply dw_readT); exact rfl; exact rfl; exact rfl)); (simp only [List.getElem?_toArray, List.toList_toArray, bin_eql, bin_neq, bin_lss, bin_leq, bin_gtr, bin_geq, bin_add, bin_sub, bin_mul, un_not, unA, AHeap.get_bump, AHeap.next_bump, opK0, kMove, kPick, kAlloc, kBox, kBuild, kBuildSlice, kLoad, kStore, kNilCheck, kBinOp, kUnOp, kFieldAddr, kField, kIndexAddr, kIndex, kLookup, kMapUpdate, kMakeMap, kExtract, kSlice, kCall, lenA, evA, evAs, evParts, toAV, toAV0, toAVs, T.get_set, T.get_nil, Nat.reduceAdd, Nat.reduceMul, Nat.reduceEqDiff, Nat.zero_add, Nat.add_zero, Nat.mul_one, Nat.zero_mul, AV.cells, List.all_cons, List.all_nil, AV.scalar, Bool.and_true, Bool.true_and, ↓reduceIte, if_true, und_all, Tryd.underlying3, Tryd.underlying4, Tryd.underlying5, Tryd.underlying9, Tryd.underlying23, Tryd.underlying24, Tryd.underlying31, Tryd.underlying38, Tryd.underlying39, Tryd.underlying40, Tryd.underlying41, Tryd.underlying42, Tryd.underlying45, Tryd.underlying46, Tryd.underlying48, Tryd.underlying50, Tryd.underlying55, Tryd.underlying57, Tryd.underlying67, siz3, agg3, zer3, byt3, siz4, agg4, zer4, byt4, siz5, agg5, zer5, byt5, siz9, agg9, zer9, byt9, siz23, agg23, zer23, byt23, siz24, agg24, zer24, byt24, siz31, agg31, zer31, byt31, siz38, agg38, zer38, byt38, siz39, agg39, zer39, byt39, siz40, agg40, zer40, byt40, siz41, agg41, zer41, byt41, siz42, agg42, zer42, byt42, siz45, agg45, zer45, byt45, siz46, agg46, zer46, byt46, siz48, agg48, zer48, byt48, siz50, agg50, zer50, byt50, siz55, agg55, zer55, byt55, siz57, agg57, zer57, byt57, siz67, agg67, zer67, byt67, AHeap.get_alloc, AHeap.get_set, AHeap.next_alloc, AHeap.next_set, AHeap.loadCells, AHeap.load1, AHeap.storeCells, List.getElem?_cons_zero, List.getElem?_cons_succ, List.length_cons, List.length_nil, List.drop_zero, List.take_succ_cons, List.take_zero, List.drop_succ_cons, List.drop_nil, List.take_nil, List.append_nil, List.cons_append, List.nil_append, binA, isConstO, keyOk, ents_some, Bool.or_true, Bool.or_false, Bool.true_or, Bool.false_or, wantedA, dstOk, Option.bind_some, List.append_nil, decide_true, decide_false, Int.toNat_zero, Int.le_refl, beq_self_eq_true, boundsA, boundA, Int.toNat_natCast, Int.natCast_one, c0, g6] <;> rfl))
                      | ((with_reducible apply wpOps_skipT); exact rfl; exact rfl)
                      | ((with_reducible apply wpOps_skipN); exact rfl; exact rfl)
                      | ((with_reducible apply dw_skipT); exact rfl; exact rfl)
                      | (with_reducible apply aw_seq)
                      | (with_reducible apply aw_regionL)
                      | (with_reducible apply aw_block)
                      | (with_reducible apply aw_scope)
                      | (with_reducible apply aw_nil)
                      | (with_reducible apply aw_then)
                      | (with_reducible apply aw_thenR)
                      | (with_reducible apply aw_thenE)
                      | (with_reducible apply aw_blockR)
                      | (with_reducible apply aw_blockN)
                      | (with_reducible apply aw_blockE)
                      | (with_reducible apply aw_ret)
                      | (with_reducible apply aw_exit)
                      | (with_reducible apply aw_skip)
                      | ((with_reducible apply aw_condT); exact rfl)
                      | ((with_reducible apply aw_condF); exact rfl)
                      | ((with_reducible apply aw_drawL); (simp only [List.zipIdx_cons, List.zipIdx_nil, Nat.zero_add, Nat.reduceAdd] <;> rfl); kernel_rfl; kernel_rfl)
                      | (with_reducible apply dw_nil)
                      | fail)

                    exact ⟨true, 65537, e1, rfl, rfl, rfl, rfl, rfl, rfl, by simp only [AHeap.get_set, if_true], by
                      dsimp only
                      try dsimp only
                      repeat (first | exact Keep.refl _ | exact k0 | (with_reducible apply Keep.bump) | (with_reducible apply Keep.alloc) | ((with_reducible apply Keep.set); (first | exact Nat.le_refl _ | (have := Keep.next k0; omega)); ((try simp only [AHeap.next_alloc, AHeap.next_bump, AHeap.next_set]); have := Keep.next k0; omega)))
                      , n0⟩
                  · have g6 : (65536 < v) = False := eq_false h6
                    have e1 : rdArr s = some (true, v) := by simp only [rdArr, hb, figF, h1, h2', h3, h4, if_true, if_false, Option.map, manyF, hv, h6]
                    repeat (first
                      | ((first | ((with_reducible apply wpOps_valT); exact rfl; exact rfl) | ((with_reducible apply wpOps_storeN); exact rfl; exact rfl) | ((with_reducible apply dw_pureT); exact rfl; exact rfl; exact rfl) | ((with_reducible apply dw_readT); exact rfl; exact rfl; exact rfl)); (simp only [List.getElem?_toArray, List.toList_toArray, bin_eql, bin_neq, bin_lss, bin_leq, bin_gtr, bin_geq, bin_add, bin_sub, bin_mul, un_not, unA, AHeap.get_bump, AHeap.next_bump, opK0, kMove, kPick, kAlloc, kBox, kBuild, kBuildSlice, kLoad, kStore, kNilCheck, kBinOp, kUnOp, kFieldAddr, kField, kIndexAddr, kIndex, kLookup, kMapUpdate, kMakeMap, kExtract, kSlice, kCall, lenA, evA, evAs, evParts, toAV, toAV0, toAVs, T.get_set, T.get_nil, Nat.reduceAdd, Nat.reduceMul, Nat.reduceEqDiff, Nat.zero_add, Nat.add_zero, Nat.mul_one, Nat.zero_mul, AV.cells, List.all_cons, List.all_nil, AV.scalar, Bool.and_true, Bool.true_and, ↓reduceIte, if_true, und_all, Tryd.underlying3, Tryd.underlying4, Tryd.underlying5, Tryd.underlying9, Tryd.underlying23, Tryd.underlying24, Tryd.underlying31, Tryd.underlying38, Tryd.underlying39, Tryd.underlying40, Tryd.underlying41, Tryd.underlying42, Tryd.underlying45, Tryd.underlying46, Tryd.underlying48, Tryd.underlying50, Tryd.underlying55, Tryd.underlying57, Tryd.underlying67, siz3, agg3, zer3, byt3, siz4, agg4, zer4, byt4, siz5, agg5, zer5, byt5, siz9, agg9, zer9, byt9, siz23, agg23, zer23, byt23, siz24, agg24, zer24, byt24, siz31, agg31, zer31, byt31, siz38, agg38, zer38, byt38, siz39, agg39, zer39, byt39, siz40, agg40, zer40, byt40, siz41, agg41, zer41, byt41, siz42, agg42, zer42, byt42, siz45, agg45, zer45, byt45, siz46, agg46, zer46, byt46, siz48, agg48, zer48, byt48, siz50, agg50, zer50, byt50, siz55, agg55, zer55, byt55, siz57, agg57, zer57, byt57, siz67, agg67, zer67, byt67, AHeap.get_alloc, AHeap.get_set, AHeap.next_alloc, AHeap.next_set, AHeap.loadCells, AHeap.load1, AHeap.storeCells, List.getElem?_cons_zero, List.getElem?_cons_succ, List.length_cons, List.length_nil, List.drop_zero, List.take_succ_cons, List.take_zero, List.drop_succ_cons, List.drop_nil, List.take_nil, List.append_nil, List.cons_append, List.nil_append, binA, isConstO, keyOk, ents_some, Bool.or_true, Bool.or_false, Bool.true_or, Bool.false_or, wantedA, dstOk, Option.bind_some, List.append_nil, decide_true, decide_false, Int.toNat_zero, Int.le_refl, beq_self_eq_true, boundsA, boundA, Int.toNat_natCast, Int.natCast_one, c0, g6] <;> rfl))
                      | ((with_reducible apply wpOps_skipT); exact rfl; exact rfl)
                      | ((with_reducible apply wpOps_skipN); exact rfl; exact rfl)
                      | ((with_reducible apply dw_skipT); exact rfl; exact rfl)
                      | (with_reducible apply aw_seq)
                      | (with_reducible apply aw_regionL)
                      | (with_reducible apply aw_block)
                      | (with_reducible apply aw_scope)
                      | (with_reducible apply aw_nil)
                      | (with_reducible apply aw_then)
                      | (with_reducible apply aw_thenR)
                      | (with_reducible apply aw_thenE)
                      | (with_reducible apply aw_blockR)
                      | (with_reducible apply aw_blockN)
                      | (with_reducible apply aw_blockE)
                      | (with_reducible apply aw_ret)
                      | (with_reducible apply aw_exit)
                      | (with_reducible apply aw_skip)
                      | ((with_reducible apply aw_condT); exact rfl)
                      | ((with_reducible apply aw_condF); exact rfl)
                      | ((with_reducible apply aw_drawL); (simp only [List.zipIdx_cons, List.zipIdx_nil, Nat.zero_add, Nat.reduceAdd] <;> rfl); kernel_rfl; kernel_rfl)
                      | (with_reducible apply dw_nil)
                      | fail)

                    exact ⟨true, v, e1, rfl, rfl, rfl, rfl, rfl, rfl, by simp only [AHeap.get_set, if_true], by
                      dsimp only
                      try dsimp only
                      repeat (first | exact Keep.refl _ | exact k0 | (with_reducible apply Keep.bump) | (with_reducible apply Keep.alloc) | ((with_reducible apply Keep.set); (first | exact Nat.le_refl _ | (have := Keep.next k0; omega)); ((try simp only [AHeap.next_alloc, AHeap.next_bump, AHeap.next_set]); have := Keep.next k0; omega)))
                      , n0⟩
                · have hv : ∀ v, Lib.atoiAll (c :: ds) ≠ .ok v := fun v e => h5 ⟨v, e⟩
                  have e1 : rdArr s = some (true, 65537) := by
                    simp only [rdArr, hb, figF, h1, h2', h3, h4, if_true, if_false, Option.map, manyF_err hv]
                  obtain ⟨n, hn⟩ := atoi_err (T := 96) (h := h2) (s := c :: ds) (by omega) hv
                  refine WCall.prim pr26 hn ?_
                  have c0' : (h2.alloc .dead).2.get h.next = some (.cells true 0 [.str [], .str [], .int .i64 0, .bool false, .int .i64 0]) := by
                    rw [AHeap.get_alloc, if_neg (by omega)]; exact c0
                  have k0' : Keep h (h2.alloc .dead).2 := k0.alloc _
                  have n0' : h.next < (h2.alloc .dead).2.next := Nat.lt_succ_of_lt n0
                  clear hn
                  revert c0' k0' n0'
                  generalize (h2.alloc .dead).2 = h3
                  intro c0' k0' n0'
                  dsimp only
                  repeat (first
                    | ((first | ((with_reducible apply wpOps_valT); exact rfl; exact rfl) | ((with_reducible apply wpOps_storeN); exact rfl; exact rfl) | ((with_reducible apply dw_pureT); exact rfl; exact rfl; exact rfl) | ((with_reducible apply dw_readT); exact rfl; exact rfl; exact rfl)); (simp only [List.getElem?_toArray, List.toList_toArray, bin_eql, bin_neq, bin_lss, bin_leq, bin_gtr, bin_geq, bin_add, bin_sub, bin_mul, un_not, unA, AHeap.get_bump, AHeap.next_bump, opK0, kMove, kPick, kAlloc, kBox, kBuild, kBuildSlice, kLoad, kStore, kNilCheck, kBinOp, kUnOp, kFieldAddr, kField, kIndexAddr, kIndex, kLookup, kMapUpdate, kMakeMap, kExtract, kSlice, kCall, lenA, evA, evAs, evParts, toAV, toAV0, toAVs, T.get_set, T.get_nil, Nat.reduceAdd, Nat.reduceMul, Nat.reduceEqDiff, Nat.zero_add, Nat.add_zero, Nat.mul_one, Nat.zero_mul, AV.cells, List.all_cons, List.all_nil, AV.scalar, Bool.and_true, Bool.true_and, ↓reduceIte, if_true, und_all, Tryd.underlying3, Tryd.underlying4, Tryd.underlying5, Tryd.underlying9, Tryd.underlying23, Tryd.underlying24, Tryd.underlying31, Tryd.underlying38, Tryd.underlying39, Tryd.underlying40, Tryd.underlying41, Tryd.underlying42, Tryd.underlying45, Tryd.underlying46, Tryd.underlying48, Tryd.underlying50, Tryd.underlying55, Tryd.underlying57, Tryd.underlying67, siz3, agg3, zer3, byt3, siz4, agg4, zer4, byt4, siz5, agg5, zer5, byt5, siz9, agg9, zer9, byt9, siz23, agg23, zer23, byt23, siz24, agg24, zer24, byt24, siz31, agg31, zer31, byt31, siz38, agg38, zer38, byt38, siz39, agg39, zer39, byt39, siz40, agg40, zer40, byt40, siz41, agg41, zer41, byt41, siz42, agg42, zer42, byt42, siz45, agg45, zer45, byt45, siz46, agg46, zer46, byt46, siz48, agg48, zer48, byt48, siz50, agg50, zer50, byt50, siz55, agg55, zer55, byt55, siz57, agg57, zer57, byt57, siz67, agg67, zer67, byt67, AHeap.get_alloc, AHeap.get_set, AHeap.next_alloc, AHeap.next_set, AHeap.loadCells, AHeap.load1, AHeap.storeCells, List.getElem?_cons_zero, List.getElem?_cons_succ, List.length_cons, List.length_nil, List.drop_zero, List.take_succ_cons, List.take_zero, List.drop_succ_cons, List.drop_nil, List.take_nil, List.append_nil, List.cons_append, List.nil_append, binA, isConstO, keyOk, ents_some, Bool.or_true, Bool.or_false, Bool.true_or, Bool.false_or, wantedA, dstOk, Option.bind_some, List.append_nil, decide_true, decide_false, Int.toNat_zero, Int.le_refl, beq_self_eq_true, boundsA, boundA, Int.toNat_natCast, Int.natCast_one, c0'] <;> rfl))
                    | ((with_reducible apply wpOps_skipT); exact rfl; exact rfl)
                    | ((with_reducible apply wpOps_skipN); exact rfl; exact rfl)
                    | ((with_reducible apply dw_skipT); exact rfl; exact rfl)
                    | (with_reducible apply aw_seq)
                    | (with_reducible apply aw_regionL)
                    | (with_reducible apply aw_block)
                    | (with_reducible apply aw_scope)
                    | (with_reducible apply aw_nil)
                    | (with_reducible apply aw_then)
                    | (with_reducible apply aw_thenR)
                    | (with_reducible apply aw_thenE)
                    | (with_reducible apply aw_blockR)
                    | (with_reducible apply aw_blockN)
                    | (with_reducible apply aw_blockE)
                    | (with_reducible apply aw_ret)
                    | (with_reducible apply aw_exit)
                    | (with_reducible apply aw_skip)
                    | ((with_reducible apply aw_condT); exact rfl)
                    | ((with_reducible apply aw_condF); exact rfl)
                    | ((with_reducible apply aw_drawL); (simp only [List.zipIdx_cons, List.zipIdx_nil, Nat.zero_add, Nat.reduceAdd] <;> rfl); kernel_rfl; kernel_rfl)
                    | (with_reducible apply dw_nil)
                    | fail)

                  exact ⟨true, 65537, e1, rfl, rfl, rfl, rfl, rfl, rfl, by simp only [AHeap.get_set, if_true], by
                      dsimp only
                      try dsimp only
                      repeat (first | exact Keep.refl _ | exact k0' | (with_reducible apply Keep.bump) | (with_reducible apply Keep.alloc) | ((with_reducible apply Keep.set); (first | exact Nat.le_refl _ | (have := Keep.next k0'; omega)); ((try simp only [AHeap.next_alloc, AHeap.next_bump, AHeap.next_set]); have := Keep.next k0'; omega)))
                      , n0'⟩
              · have h4' : (Lib.trimS (c :: ds) digits == []) = false := by simpa using h4
                have e1 : rdArr s = Option.none := by simp only [rdArr, hb, figF, h1, h2', h3, h4, if_true, if_false, Option.map]
                repeat (first
                  | ((first | ((with_reducible apply wpOps_valT); exact rfl; exact rfl) | ((with_reducible apply wpOps_storeN); exact rfl; exact rfl) | ((with_reducible apply dw_pureT); exact rfl; exact rfl; exact rfl) | ((with_reducible apply dw_readT); exact rfl; exact rfl; exact rfl)); (simp only [List.getElem?_toArray, List.toList_toArray, bin_eql, bin_neq, bin_lss, bin_leq, bin_gtr, bin_geq, bin_add, bin_sub, bin_mul, un_not, unA, AHeap.get_bump, AHeap.next_bump, opK0, kMove, kPick, kAlloc, kBox, kBuild, kBuildSlice, kLoad, kStore, kNilCheck, kBinOp, kUnOp, kFieldAddr, kField, kIndexAddr, kIndex, kLookup, kMapUpdate, kMakeMap, kExtract, kSlice, kCall, lenA, evA, evAs, evParts, toAV, toAV0, toAVs, T.get_set, T.get_nil, Nat.reduceAdd, Nat.reduceMul, Nat.reduceEqDiff, Nat.zero_add, Nat.add_zero, Nat.mul_one, Nat.zero_mul, AV.cells, List.all_cons, List.all_nil, AV.scalar, Bool.and_true, Bool.true_and, ↓reduceIte, if_true, und_all, Tryd.underlying3, Tryd.underlying4, Tryd.underlying5, Tryd.underlying9, Tryd.underlying23, Tryd.underlying24, Tryd.underlying31, Tryd.underlying38, Tryd.underlying39, Tryd.underlying40, Tryd.underlying41, Tryd.underlying42, Tryd.underlying45, Tryd.underlying46, Tryd.underlying48, Tryd.underlying50, Tryd.underlying55, Tryd.underlying57, Tryd.underlying67, siz3, agg3, zer3, byt3, siz4, agg4, zer4, byt4, siz5, agg5, zer5, byt5, siz9, agg9, zer9, byt9, siz23, agg23, zer23, byt23, siz24, agg24, zer24, byt24, siz31, agg31, zer31, byt31, siz38, agg38, zer38, byt38, siz39, agg39, zer39, byt39, siz40, agg40, zer40, byt40, siz41, agg41, zer41, byt41, siz42, agg42, zer42, byt42, siz45, agg45, zer45, byt45, siz46, agg46, zer46, byt46, siz48, agg48, zer48, byt48, siz50, agg50, zer50, byt50, siz55, agg55, zer55, byt55, siz57, agg57, zer57, byt57, siz67, agg67, zer67, byt67, AHeap.get_alloc, AHeap.get_set, AHeap.next_alloc, AHeap.next_set, AHeap.loadCells, AHeap.load1, AHeap.storeCells, List.getElem?_cons_zero, List.getElem?_cons_succ, List.length_cons, List.length_nil, List.drop_zero, List.take_succ_cons, List.take_zero, List.drop_succ_cons, List.drop_nil, List.take_nil, List.append_nil, List.cons_append, List.nil_append, binA, isConstO, keyOk, ents_some, Bool.or_true, Bool.or_false, Bool.true_or, Bool.false_or, wantedA, dstOk, Option.bind_some, List.append_nil, decide_true, decide_false, Int.toNat_zero, Int.le_refl, beq_self_eq_true, boundsA, boundA, Int.toNat_natCast, Int.natCast_one, c0, g1, g2, g3, g3', h4', Bool.not_false] <;> rfl))
                  | ((with_reducible apply wpOps_skipT); exact rfl; exact rfl)
                  | ((with_reducible apply wpOps_skipN); exact rfl; exact rfl)
                  | ((with_reducible apply dw_skipT); exact rfl; exact rfl)
                  | (with_reducible apply aw_seq)
                  | (with_reducible apply aw_regionL)
                  | (with_reducible apply aw_block)
                  | (with_reducible apply aw_scope)
                  | (with_reducible apply aw_nil)
                  | (with_reducible apply aw_then)
                  | (with_reducible apply aw_thenR)
                  | (with_reducible apply aw_thenE)
                  | (with_reducible apply aw_blockR)
                  | (with_reducible apply aw_blockN)
                  | (with_reducible apply aw_blockE)
                  | (with_reducible apply aw_ret)
                  | (with_reducible apply aw_exit)
                  | (with_reducible apply aw_skip)
                  | ((with_reducible apply aw_condT); exact rfl)
                  | ((with_reducible apply aw_condF); exact rfl)
                  | ((with_reducible apply aw_drawL); (simp only [List.zipIdx_cons, List.zipIdx_nil, Nat.zero_add, Nat.reduceAdd] <;> rfl); kernel_rfl; kernel_rfl)
                  | (with_reducible apply dw_nil)
                  | fail)

                refine ⟨rfl, _, (by simp only [res17, resultsA, resultA, List.getElem?_toArray, List.toList_toArray, bin_eql, bin_neq, bin_lss, bin_leq, bin_gtr, bin_geq, bin_add, bin_sub, bin_mul, un_not, unA, AHeap.get_bump, AHeap.next_bump, opK0, kMove, kPick, kAlloc, kBox, kBuild, kBuildSlice, kLoad, kStore, kNilCheck, kBinOp, kUnOp, kFieldAddr, kField, kIndexAddr, kIndex, kLookup, kMapUpdate, kMakeMap, kExtract, kSlice, kCall, lenA, evA, evAs, evParts, toAV, toAV0, toAVs, T.get_set, T.get_nil, Nat.reduceAdd, Nat.reduceMul, Nat.reduceEqDiff, Nat.zero_add, Nat.add_zero, Nat.mul_one, Nat.zero_mul, AV.cells, List.all_cons, List.all_nil, AV.scalar, Bool.and_true, Bool.true_and, ↓reduceIte, if_true, und_all, Tryd.underlying3, Tryd.underlying4, Tryd.underlying5, Tryd.underlying9, Tryd.underlying23, Tryd.underlying24, Tryd.underlying31, Tryd.underlying38, Tryd.underlying39, Tryd.underlying40, Tryd.underlying41, Tryd.underlying42, Tryd.underlying45, Tryd.underlying46, Tryd.underlying48, Tryd.underlying50, Tryd.underlying55, Tryd.underlying57, Tryd.underlying67, siz3, agg3, zer3, byt3, siz4, agg4, zer4, byt4, siz5, agg5, zer5, byt5, siz9, agg9, zer9, byt9, siz23, agg23, zer23, byt23, siz24, agg24, zer24, byt24, siz31, agg31, zer31, byt31, siz38, agg38, zer38, byt38, siz39, agg39, zer39, byt39, siz40, agg40, zer40, byt40, siz41, agg41, zer41, byt41, siz42, agg42, zer42, byt42, siz45, agg45, zer45, byt45, siz46, agg46, zer46, byt46, siz48, agg48, zer48, byt48, siz50, agg50, zer50, byt50, siz55, agg55, zer55, byt55, siz57, agg57, zer57, byt57, siz67, agg67, zer67, byt67, AHeap.get_alloc, AHeap.get_set, AHeap.next_alloc, AHeap.next_set, AHeap.loadCells, AHeap.load1, AHeap.storeCells, List.getElem?_cons_zero, List.getElem?_cons_succ, List.length_cons, List.length_nil, List.drop_zero, List.take_succ_cons, List.take_zero, List.drop_succ_cons, List.drop_nil, List.take_nil, List.append_nil, List.cons_append, List.nil_append, binA, isConstO, keyOk, ents_some, Bool.or_true, Bool.or_false, Bool.true_or, Bool.false_or, wantedA, dstOk, Option.bind_some, List.append_nil, decide_true, decide_false, Int.toNat_zero, Int.le_refl, beq_self_eq_true, boundsA, boundA, Int.toNat_natCast, Int.natCast_one, c0, AHeap.get_set] <;> rfl), ?_, ?_⟩
                · simp only [rd, e1]; rfl
                · skip
                  try dsimp only
                  repeat (first | exact Keep.refl _ | exact k0 | (with_reducible apply Keep.bump) | (with_reducible apply Keep.alloc) | ((with_reducible apply Keep.set); (first | exact Nat.le_refl _ | (have := Keep.next k0; omega)); ((try simp only [AHeap.next_alloc, AHeap.next_bump, AHeap.next_set]); have := Keep.next k0; omega)))

        · have h1' : Lib.hasSuffix (cutF s).2.1 [93] = false := by simpa using h1
          have e1 : rdArr s = Option.none := by simp only [rdArr, hb, figF, h1', if_true, Option.map, Bool.false_eq_true, if_false]
          rw [h1']
          repeat (first
            | ((first | ((with_reducible apply wpOps_valT); exact rfl; exact rfl) | ((with_reducible apply wpOps_storeN); exact rfl; exact rfl) | ((with_reducible apply dw_pureT); exact rfl; exact rfl; exact rfl) | ((with_reducible apply dw_readT); exact rfl; exact rfl; exact rfl)); (simp only [List.getElem?_toArray, List.toList_toArray, bin_eql, bin_neq, bin_lss, bin_leq, bin_gtr, bin_geq, bin_add, bin_sub, bin_mul, un_not, unA, AHeap.get_bump, AHeap.next_bump, opK0, kMove, kPick, kAlloc, kBox, kBuild, kBuildSlice, kLoad, kStore, kNilCheck, kBinOp, kUnOp, kFieldAddr, kField, kIndexAddr, kIndex, kLookup, kMapUpdate, kMakeMap, kExtract, kSlice, kCall, lenA, evA, evAs, evParts, toAV, toAV0, toAVs, T.get_set, T.get_nil, Nat.reduceAdd, Nat.reduceMul, Nat.reduceEqDiff, Nat.zero_add, Nat.add_zero, Nat.mul_one, Nat.zero_mul, AV.cells, List.all_cons, List.all_nil, AV.scalar, Bool.and_true, Bool.true_and, ↓reduceIte, if_true, und_all, Tryd.underlying3, Tryd.underlying4, Tryd.underlying5, Tryd.underlying9, Tryd.underlying23, Tryd.underlying24, Tryd.underlying31, Tryd.underlying38, Tryd.underlying39, Tryd.underlying40, Tryd.underlying41, Tryd.underlying42, Tryd.underlying45, Tryd.underlying46, Tryd.underlying48, Tryd.underlying50, Tryd.underlying55, Tryd.underlying57, Tryd.underlying67, siz3, agg3, zer3, byt3, siz4, agg4, zer4, byt4, siz5, agg5, zer5, byt5, siz9, agg9, zer9, byt9, siz23, agg23, zer23, byt23, siz24, agg24, zer24, byt24, siz31, agg31, zer31, byt31, siz38, agg38, zer38, byt38, siz39, agg39, zer39, byt39, siz40, agg40, zer40, byt40, siz41, agg41, zer41, byt41, siz42, agg42, zer42, byt42, siz45, agg45, zer45, byt45, siz46, agg46, zer46, byt46, siz48, agg48, zer48, byt48, siz50, agg50, zer50, byt50, siz55, agg55, zer55, byt55, siz57, agg57, zer57, byt57, siz67, agg67, zer67, byt67, AHeap.get_alloc, AHeap.get_set, AHeap.next_alloc, AHeap.next_set, AHeap.loadCells, AHeap.load1, AHeap.storeCells, List.getElem?_cons_zero, List.getElem?_cons_succ, List.length_cons, List.length_nil, List.drop_zero, List.take_succ_cons, List.take_zero, List.drop_succ_cons, List.drop_nil, List.take_nil, List.append_nil, List.cons_append, List.nil_append, binA, isConstO, keyOk, ents_some, Bool.or_true, Bool.or_false, Bool.true_or, Bool.false_or, wantedA, dstOk, Option.bind_some, List.append_nil, decide_true, decide_false, Int.toNat_zero, Int.le_refl, beq_self_eq_true, boundsA, boundA, Int.toNat_natCast, Int.natCast_one, c0] <;> rfl))
            | ((with_reducible apply wpOps_skipT); exact rfl; exact rfl)
            | ((with_reducible apply wpOps_skipN); exact rfl; exact rfl)
            | ((with_reducible apply dw_skipT); exact rfl; exact rfl)
            | (with_reducible apply aw_seq)
            | (with_reducible apply aw_regionL)
            | (with_reducible apply aw_block)
            | (with_reducible apply aw_scope)
            | (with_reducible apply aw_nil)
            | (with_reducible apply aw_then)
            | (with_reducible apply aw_thenR)
            | (with_reducible apply aw_thenE)
            | (with_reducible apply aw_blockR)
            | (with_reducible apply aw_blockN)
            | (with_reducible apply aw_blockE)
            | (with_reducible apply aw_ret)
            | (with_reducible apply aw_exit)
            | (with_reducible apply aw_skip)
            | ((with_reducible apply aw_condT); exact rfl)
            | ((with_reducible apply aw_condF); exact rfl)
            | ((with_reducible apply aw_drawL); (simp only [List.zipIdx_cons, List.zipIdx_nil, Nat.zero_add, Nat.reduceAdd] <;> rfl); kernel_rfl; kernel_rfl)
            | (with_reducible apply dw_nil)
            | fail)

          refine ⟨rfl, _, (by simp only [res17, resultsA, resultA, List.getElem?_toArray, List.toList_toArray, bin_eql, bin_neq, bin_lss, bin_leq, bin_gtr, bin_geq, bin_add, bin_sub, bin_mul, un_not, unA, AHeap.get_bump, AHeap.next_bump, opK0, kMove, kPick, kAlloc, kBox, kBuild, kBuildSlice, kLoad, kStore, kNilCheck, kBinOp, kUnOp, kFieldAddr, kField, kIndexAddr, kIndex, kLookup, kMapUpdate, kMakeMap, kExtract, kSlice, kCall, lenA, evA, evAs, evParts, toAV, toAV0, toAVs, T.get_set, T.get_nil, Nat.reduceAdd, Nat.reduceMul, Nat.reduceEqDiff, Nat.zero_add, Nat.add_zero, Nat.mul_one, Nat.zero_mul, AV.cells, List.all_cons, List.all_nil, AV.scalar, Bool.and_true, Bool.true_and, ↓reduceIte, if_true, und_all, Tryd.underlying3, Tryd.underlying4, Tryd.underlying5, Tryd.underlying9, Tryd.underlying23, Tryd.underlying24, Tryd.underlying31, Tryd.underlying38, Tryd.underlying39, Tryd.underlying40, Tryd.underlying41, Tryd.underlying42, Tryd.underlying45, Tryd.underlying46, Tryd.underlying48, Tryd.underlying50, Tryd.underlying55, Tryd.underlying57, Tryd.underlying67, siz3, agg3, zer3, byt3, siz4, agg4, zer4, byt4, siz5, agg5, zer5, byt5, siz9, agg9, zer9, byt9, siz23, agg23, zer23, byt23, siz24, agg24, zer24, byt24, siz31, agg31, zer31, byt31, siz38, agg38, zer38, byt38, siz39, agg39, zer39, byt39, siz40, agg40, zer40, byt40, siz41, agg41, zer41, byt41, siz42, agg42, zer42, byt42, siz45, agg45, zer45, byt45, siz46, agg46, zer46, byt46, siz48, agg48, zer48, byt48, siz50, agg50, zer50, byt50, siz55, agg55, zer55, byt55, siz57, agg57, zer57, byt57, siz67, agg67, zer67, byt67, AHeap.get_alloc, AHeap.get_set, AHeap.next_alloc, AHeap.next_set, AHeap.loadCells, AHeap.load1, AHeap.storeCells, List.getElem?_cons_zero, List.getElem?_cons_succ, List.length_cons, List.length_nil, List.drop_zero, List.take_succ_cons, List.take_zero, List.drop_succ_cons, List.drop_nil, List.take_nil, List.append_nil, List.cons_append, List.nil_append, binA, isConstO, keyOk, ents_some, Bool.or_true, Bool.or_false, Bool.true_or, Bool.false_or, wantedA, dstOk, Option.bind_some, List.append_nil, decide_true, decide_false, Int.toNat_zero, Int.le_refl, beq_self_eq_true, boundsA, boundA, Int.toNat_natCast, Int.natCast_one, c0, AHeap.get_set] <;> rfl), ?_, ?_⟩
          · simp only [rd, e1]; rfl
          · skip
            try dsimp only
            repeat (first | exact Keep.refl _ | exact k0 | (with_reducible apply Keep.bump) | (with_reducible apply Keep.alloc) | ((with_reducible apply Keep.set); (first | exact Nat.le_refl _ | (have := Keep.next k0; omega)); ((try simp only [AHeap.next_alloc, AHeap.next_bump, AHeap.next_set]); have := Keep.next k0; omega)))

      · have hb' : (cutF s).2.2 = false := by simpa using hb
        rw [hb']
        repeat (first
          | ((first | ((with_reducible apply wpOps_valT); exact rfl; exact rfl) | ((with_reducible apply wpOps_storeN); exact rfl; exact rfl) | ((with_reducible apply dw_pureT); exact rfl; exact rfl; exact rfl) | ((with_reducible apply dw_readT); exact rfl; exact rfl; exact rfl)); (simp only [List.getElem?_toArray, List.toList_toArray, bin_eql, bin_neq, bin_lss, bin_leq, bin_gtr, bin_geq, bin_add, bin_sub, bin_mul, un_not, unA, AHeap.get_bump, AHeap.next_bump, opK0, kMove, kPick, kAlloc, kBox, kBuild, kBuildSlice, kLoad, kStore, kNilCheck, kBinOp, kUnOp, kFieldAddr, kField, kIndexAddr, kIndex, kLookup, kMapUpdate, kMakeMap, kExtract, kSlice, kCall, lenA, evA, evAs, evParts, toAV, toAV0, toAVs, T.get_set, T.get_nil, Nat.reduceAdd, Nat.reduceMul, Nat.reduceEqDiff, Nat.zero_add, Nat.add_zero, Nat.mul_one, Nat.zero_mul, AV.cells, List.all_cons, List.all_nil, AV.scalar, Bool.and_true, Bool.true_and, ↓reduceIte, if_true, und_all, Tryd.underlying3, Tryd.underlying4, Tryd.underlying5, Tryd.underlying9, Tryd.underlying23, Tryd.underlying24, Tryd.underlying31, Tryd.underlying38, Tryd.underlying39, Tryd.underlying40, Tryd.underlying41, Tryd.underlying42, Tryd.underlying45, Tryd.underlying46, Tryd.underlying48, Tryd.underlying50, Tryd.underlying55, Tryd.underlying57, Tryd.underlying67, siz3, agg3, zer3, byt3, siz4, agg4, zer4, byt4, siz5, agg5, zer5, byt5, siz9, agg9, zer9, byt9, siz23, agg23, zer23, byt23, siz24, agg24, zer24, byt24, siz31, agg31, zer31, byt31, siz38, agg38, zer38, byt38, siz39, agg39, zer39, byt39, siz40, agg40, zer40, byt40, siz41, agg41, zer41, byt41, siz42, agg42, zer42, byt42, siz45, agg45, zer45, byt45, siz46, agg46, zer46, byt46, siz48, agg48, zer48, byt48, siz50, agg50, zer50, byt50, siz55, agg55, zer55, byt55, siz57, agg57, zer57, byt57, siz67, agg67, zer67, byt67, AHeap.get_alloc, AHeap.get_set, AHeap.next_alloc, AHeap.next_set, AHeap.loadCells, AHeap.load1, AHeap.storeCells, List.getElem?_cons_zero, List.getElem?_cons_succ, List.length_cons, List.length_nil, List.drop_zero, List.take_succ_cons, List.take_zero, List.drop_succ_cons, List.drop_nil, List.take_nil, List.append_nil, List.cons_append, List.nil_append, binA, isConstO, keyOk, ents_some, Bool.or_true, Bool.or_false, Bool.true_or, Bool.false_or, wantedA, dstOk, Option.bind_some, List.append_nil, decide_true, decide_false, Int.toNat_zero, Int.le_refl, beq_self_eq_true, boundsA, boundA, Int.toNat_natCast, Int.natCast_one, c0] <;> rfl))
          | ((with_reducible apply wpOps_skipT); exact rfl; exact rfl)
          | ((with_reducible apply wpOps_skipN); exact rfl; exact rfl)
          | ((with_reducible apply dw_skipT); exact rfl; exact rfl)
          | (with_reducible apply aw_seq)
          | (with_reducible apply aw_regionL)
          | (with_reducible apply aw_block)
          | (with_reducible apply aw_scope)
          | (with_reducible apply aw_nil)
          | (with_reducible apply aw_then)
          | (with_reducible apply aw_thenR)
          | (with_reducible apply aw_thenE)
          | (with_reducible apply aw_blockR)
          | (with_reducible apply aw_blockN)
          | (with_reducible apply aw_blockE)
          | (with_reducible apply aw_ret)
          | (with_reducible apply aw_exit)
          | (with_reducible apply aw_skip)
          | ((with_reducible apply aw_condT); exact rfl)
          | ((with_reducible apply aw_condF); exact rfl)
          | ((with_reducible apply aw_drawL); (simp only [List.zipIdx_cons, List.zipIdx_nil, Nat.zero_add, Nat.reduceAdd] <;> rfl); kernel_rfl; kernel_rfl)
          | (with_reducible apply dw_nil)
          | fail)

        exact ⟨false, 0, by simp only [rdArr, hb', Bool.false_eq_true, if_false], rfl, rfl, rfl, rfl, rfl, rfl, c0, k0, n0⟩
    · rintro ⟨rg, n, h3, dd, rnd⟩ ⟨a, m, ha, hn, hd, hr, r2, r4, r6, c1, k1, n1⟩
      dsimp only at hn hd hr r2 r4 r6 c1 k1 n1
      subst hn hd hr
      have hR : rd s = rdTail (cutF s).1 a m := by simp only [rd, ha]
      rw [hR]
      clear hR ha
      generalize (cutF s).1 = rest at *
      repeat (first
        | ((first | ((with_reducible apply wpOps_valT); (first | exact rfl | (apply wantedGT; exact rfl; exact rfl; exact rfl; (simp only [T.get_set, Nat.reduceEqDiff, ↓reduceIte, evA, r2, r4, r6] <;> rfl))); exact rfl) | ((with_reducible apply wpOps_storeN); (first | exact rfl | (apply wantedGT; exact rfl; exact rfl; exact rfl; (simp only [T.get_set, Nat.reduceEqDiff, ↓reduceIte, evA, r2, r4, r6] <;> rfl))); exact rfl) | ((with_reducible apply dw_pureT); (first | exact rfl | (apply wantedGT; exact rfl; exact rfl; exact rfl; (simp only [T.get_set, Nat.reduceEqDiff, ↓reduceIte, evA, r2, r4, r6] <;> rfl))); exact rfl; exact rfl) | ((with_reducible apply dw_readT); (first | exact rfl | (apply wantedGT; exact rfl; exact rfl; exact rfl; (simp only [T.get_set, Nat.reduceEqDiff, ↓reduceIte, evA, r2, r4, r6] <;> rfl))); exact rfl; exact rfl)); (simp only [List.getElem?_toArray, List.toList_toArray, bin_eql, bin_neq, bin_lss, bin_leq, bin_gtr, bin_geq, bin_add, bin_sub, bin_mul, un_not, unA, AHeap.get_bump, AHeap.next_bump, opK0, kMove, kPick, kAlloc, kBox, kBuild, kBuildSlice, kLoad, kStore, kNilCheck, kBinOp, kUnOp, kFieldAddr, kField, kIndexAddr, kIndex, kLookup, kMapUpdate, kMakeMap, kExtract, kSlice, kCall, lenA, evA, evAs, evParts, toAV, toAV0, toAVs, T.get_set, T.get_nil, Nat.reduceAdd, Nat.reduceMul, Nat.reduceEqDiff, Nat.zero_add, Nat.add_zero, Nat.mul_one, Nat.zero_mul, AV.cells, List.all_cons, List.all_nil, AV.scalar, Bool.and_true, Bool.true_and, ↓reduceIte, if_true, und_all, Tryd.underlying3, Tryd.underlying4, Tryd.underlying5, Tryd.underlying9, Tryd.underlying23, Tryd.underlying24, Tryd.underlying31, Tryd.underlying38, Tryd.underlying39, Tryd.underlying40, Tryd.underlying41, Tryd.underlying42, Tryd.underlying45, Tryd.underlying46, Tryd.underlying48, Tryd.underlying50, Tryd.underlying55, Tryd.underlying57, Tryd.underlying67, siz3, agg3, zer3, byt3, siz4, agg4, zer4, byt4, siz5, agg5, zer5, byt5, siz9, agg9, zer9, byt9, siz23, agg23, zer23, byt23, siz24, agg24, zer24, byt24, siz31, agg31, zer31, byt31, siz38, agg38, zer38, byt38, siz39, agg39, zer39, byt39, siz40, agg40, zer40, byt40, siz41, agg41, zer41, byt41, siz42, agg42, zer42, byt42, siz45, agg45, zer45, byt45, siz46, agg46, zer46, byt46, siz48, agg48, zer48, byt48, siz50, agg50, zer50, byt50, siz55, agg55, zer55, byt55, siz57, agg57, zer57, byt57, siz67, agg67, zer67, byt67, AHeap.get_alloc, AHeap.get_set, AHeap.next_alloc, AHeap.next_set, AHeap.loadCells, AHeap.load1, AHeap.storeCells, List.getElem?_cons_zero, List.getElem?_cons_succ, List.length_cons, List.length_nil, List.drop_zero, List.take_succ_cons, List.take_zero, List.drop_succ_cons, List.drop_nil, List.take_nil, List.append_nil, List.cons_append, List.nil_append, binA, isConstO, keyOk, ents_some, Bool.or_true, Bool.or_false, Bool.true_or, Bool.false_or, wantedA, dstOk, Option.bind_some, List.append_nil, decide_true, decide_false, Int.toNat_zero, Int.le_refl, beq_self_eq_true, boundsA, boundA, Int.toNat_natCast, Int.natCast_one, c1, r2, r4, r6] <;> rfl))
        | ((with_reducible apply wpOps_skipT); (first | exact rfl | (apply wantedGF; exact rfl; exact rfl; exact rfl; (simp only [T.get_set, Nat.reduceEqDiff, ↓reduceIte, evA, r2, r4, r6] <;> rfl)) | (apply wantedZ; exact rfl; exact rfl; exact rfl; (simp only [T.get_set, Nat.reduceEqDiff, ↓reduceIte, evA, r2, r4, r6] <;> rfl))); exact rfl)
        | ((with_reducible apply wpOps_skipN); (first | exact rfl | (apply wantedGF; exact rfl; exact rfl; exact rfl; (simp only [T.get_set, Nat.reduceEqDiff, ↓reduceIte, evA, r2, r4, r6] <;> rfl)) | (apply wantedZ; exact rfl; exact rfl; exact rfl; (simp only [T.get_set, Nat.reduceEqDiff, ↓reduceIte, evA, r2, r4, r6] <;> rfl))); exact rfl)
        | ((with_reducible apply dw_skipT); (first | exact rfl | (apply wantedGF; exact rfl; exact rfl; exact rfl; (simp only [T.get_set, Nat.reduceEqDiff, ↓reduceIte, evA, r2, r4, r6] <;> rfl)) | (apply wantedZ; exact rfl; exact rfl; exact rfl; (simp only [T.get_set, Nat.reduceEqDiff, ↓reduceIte, evA, r2, r4, r6] <;> rfl))); exact rfl)
        | (with_reducible apply aw_seq)
        | (with_reducible apply aw_regionL)
        | (with_reducible apply aw_block)
        | (with_reducible apply aw_scope)
        | (with_reducible apply aw_nil)
        | (with_reducible apply aw_then)
        | (with_reducible apply aw_thenR)
        | (with_reducible apply aw_thenE)
        | (with_reducible apply aw_blockR)
        | (with_reducible apply aw_blockN)
        | (with_reducible apply aw_blockE)
        | (with_reducible apply aw_ret)
        | (with_reducible apply aw_exit)
        | (with_reducible apply aw_skip)
        | ((with_reducible apply aw_condT); (first | exact rfl | (simp only [T.get_set, Nat.reduceEqDiff, ↓reduceIte, evA, r2, r4, r6] <;> rfl)))
        | ((with_reducible apply aw_condF); (first | exact rfl | (simp only [T.get_set, Nat.reduceEqDiff, ↓reduceIte, evA, r2, r4, r6] <;> rfl)))
        | ((with_reducible apply aw_drawL); (simp only [List.zipIdx_cons, List.zipIdx_nil, Nat.zero_add, Nat.reduceAdd] <;> rfl); kernel_rfl; kernel_rfl)
        | (with_reducible apply dw_nil)
        | fail)

      (with_reducible apply wpOps_callT); exact rfl; exact rfl; (simp only [List.getElem?_toArray, List.toList_toArray, bin_eql, bin_neq, bin_lss, bin_leq, bin_gtr, bin_geq, bin_add, bin_sub, bin_mul, un_not, unA, AHeap.get_bump, AHeap.next_bump, opK0, kMove, kPick, kAlloc, kBox, kBuild, kBuildSlice, kLoad, kStore, kNilCheck, kBinOp, kUnOp, kFieldAddr, kField, kIndexAddr, kIndex, kLookup, kMapUpdate, kMakeMap, kExtract, kSlice, kCall, lenA, evA, evAs, evParts, toAV, toAV0, toAVs, T.get_set, T.get_nil, Nat.reduceAdd, Nat.reduceMul, Nat.reduceEqDiff, Nat.zero_add, Nat.add_zero, Nat.mul_one, Nat.zero_mul, AV.cells, List.all_cons, List.all_nil, AV.scalar, Bool.and_true, Bool.true_and, ↓reduceIte, if_true, und_all, Tryd.underlying3, Tryd.underlying4, Tryd.underlying5, Tryd.underlying9, Tryd.underlying23, Tryd.underlying24, Tryd.underlying31, Tryd.underlying38, Tryd.underlying39, Tryd.underlying40, Tryd.underlying41, Tryd.underlying42, Tryd.underlying45, Tryd.underlying46, Tryd.underlying48, Tryd.underlying50, Tryd.underlying55, Tryd.underlying57, Tryd.underlying67, siz3, agg3, zer3, byt3, siz4, agg4, zer4, byt4, siz5, agg5, zer5, byt5, siz9, agg9, zer9, byt9, siz23, agg23, zer23, byt23, siz24, agg24, zer24, byt24, siz31, agg31, zer31, byt31, siz38, agg38, zer38, byt38, siz39, agg39, zer39, byt39, siz40, agg40, zer40, byt40, siz41, agg41, zer41, byt41, siz42, agg42, zer42, byt42, siz45, agg45, zer45, byt45, siz46, agg46, zer46, byt46, siz48, agg48, zer48, byt48, siz50, agg50, zer50, byt50, siz55, agg55, zer55, byt55, siz57, agg57, zer57, byt57, siz67, agg67, zer67, byt67, AHeap.get_alloc, AHeap.get_set, AHeap.next_alloc, AHeap.next_set, AHeap.loadCells, AHeap.load1, AHeap.storeCells, List.getElem?_cons_zero, List.getElem?_cons_succ, List.length_cons, List.length_nil, List.drop_zero, List.take_succ_cons, List.take_zero, List.drop_succ_cons, List.drop_nil, List.take_nil, List.append_nil, List.cons_append, List.nil_append, binA, isConstO, keyOk, ents_some, Bool.or_true, Bool.or_false, Bool.true_or, Bool.false_or, wantedA, dstOk, Option.bind_some, List.append_nil, decide_true, decide_false, Int.toNat_zero, Int.le_refl, beq_self_eq_true, boundsA, boundA, Int.toNat_natCast, Int.natCast_one, c1, r2, r4, r6] <;> rfl)

      have hb := trimRightB_le rest 42
      refine WCall.prim pr27 (trimRF_run (by omega) (by decide)) ?_
      dsimp only
      unfold rdTail
      dsimp only
      generalize Lib.trimRightB rest 42 = base at *
      have w1 : IntKind.wrap .i64 ((rest.length : Int) - (base.length : Int)) = (rest.length : Int) - (base.length : Int) := wr (by omega) (by omega)
      repeat (first
        | ((first | ((with_reducible apply wpOps_valT); (first | exact rfl | (apply wantedGT; exact rfl; exact rfl; exact rfl; (simp only [T.get_set, Nat.reduceEqDiff, ↓reduceIte, evA, r2, r4, r6] <;> rfl))); exact rfl) | ((with_reducible apply wpOps_storeN); (first | exact rfl | (apply wantedGT; exact rfl; exact rfl; exact rfl; (simp only [T.get_set, Nat.reduceEqDiff, ↓reduceIte, evA, r2, r4, r6] <;> rfl))); exact rfl) | ((with_reducible apply dw_pureT); (first | exact rfl | (apply wantedGT; exact rfl; exact rfl; exact rfl; (simp only [T.get_set, Nat.reduceEqDiff, ↓reduceIte, evA, r2, r4, r6] <;> rfl))); exact rfl; exact rfl) | ((with_reducible apply dw_readT); (first | exact rfl | (apply wantedGT; exact rfl; exact rfl; exact rfl; (simp only [T.get_set, Nat.reduceEqDiff, ↓reduceIte, evA, r2, r4, r6] <;> rfl))); exact rfl; exact rfl)); (simp only [List.getElem?_toArray, List.toList_toArray, bin_eql, bin_neq, bin_lss, bin_leq, bin_gtr, bin_geq, bin_add, bin_sub, bin_mul, un_not, unA, AHeap.get_bump, AHeap.next_bump, opK0, kMove, kPick, kAlloc, kBox, kBuild, kBuildSlice, kLoad, kStore, kNilCheck, kBinOp, kUnOp, kFieldAddr, kField, kIndexAddr, kIndex, kLookup, kMapUpdate, kMakeMap, kExtract, kSlice, kCall, lenA, evA, evAs, evParts, toAV, toAV0, toAVs, T.get_set, T.get_nil, Nat.reduceAdd, Nat.reduceMul, Nat.reduceEqDiff, Nat.zero_add, Nat.add_zero, Nat.mul_one, Nat.zero_mul, AV.cells, List.all_cons, List.all_nil, AV.scalar, Bool.and_true, Bool.true_and, ↓reduceIte, if_true, und_all, Tryd.underlying3, Tryd.underlying4, Tryd.underlying5, Tryd.underlying9, Tryd.underlying23, Tryd.underlying24, Tryd.underlying31, Tryd.underlying38, Tryd.underlying39, Tryd.underlying40, Tryd.underlying41, Tryd.underlying42, Tryd.underlying45, Tryd.underlying46, Tryd.underlying48, Tryd.underlying50, Tryd.underlying55, Tryd.underlying57, Tryd.underlying67, siz3, agg3, zer3, byt3, siz4, agg4, zer4, byt4, siz5, agg5, zer5, byt5, siz9, agg9, zer9, byt9, siz23, agg23, zer23, byt23, siz24, agg24, zer24, byt24, siz31, agg31, zer31, byt31, siz38, agg38, zer38, byt38, siz39, agg39, zer39, byt39, siz40, agg40, zer40, byt40, siz41, agg41, zer41, byt41, siz42, agg42, zer42, byt42, siz45, agg45, zer45, byt45, siz46, agg46, zer46, byt46, siz48, agg48, zer48, byt48, siz50, agg50, zer50, byt50, siz55, agg55, zer55, byt55, siz57, agg57, zer57, byt57, siz67, agg67, zer67, byt67, AHeap.get_alloc, AHeap.get_set, AHeap.next_alloc, AHeap.next_set, AHeap.loadCells, AHeap.load1, AHeap.storeCells, List.getElem?_cons_zero, List.getElem?_cons_succ, List.length_cons, List.length_nil, List.drop_zero, List.take_succ_cons, List.take_zero, List.drop_succ_cons, List.drop_nil, List.take_nil, List.append_nil, List.cons_append, List.nil_append, binA, isConstO, keyOk, ents_some, Bool.or_true, Bool.or_false, Bool.true_or, Bool.false_or, wantedA, dstOk, Option.bind_some, List.append_nil, decide_true, decide_false, Int.toNat_zero, Int.le_refl, beq_self_eq_true, boundsA, boundA, Int.toNat_natCast, Int.natCast_one, c1, w1, r2, r4, r6] <;> rfl))
        | ((with_reducible apply wpOps_skipT); (first | exact rfl | (apply wantedGF; exact rfl; exact rfl; exact rfl; (simp only [T.get_set, Nat.reduceEqDiff, ↓reduceIte, evA, r2, r4, r6] <;> rfl)) | (apply wantedZ; exact rfl; exact rfl; exact rfl; (simp only [T.get_set, Nat.reduceEqDiff, ↓reduceIte, evA, r2, r4, r6] <;> rfl))); exact rfl)
        | ((with_reducible apply wpOps_skipN); (first | exact rfl | (apply wantedGF; exact rfl; exact rfl; exact rfl; (simp only [T.get_set, Nat.reduceEqDiff, ↓reduceIte, evA, r2, r4, r6] <;> rfl)) | (apply wantedZ; exact rfl; exact rfl; exact rfl; (simp only [T.get_set, Nat.reduceEqDiff, ↓reduceIte, evA, r2, r4, r6] <;> rfl))); exact rfl)
        | ((with_reducible apply dw_skipT); (first | exact rfl | (apply wantedGF; exact rfl; exact rfl; exact rfl; (simp only [T.get_set, Nat.reduceEqDiff, ↓reduceIte, evA, r2, r4, r6] <;> rfl)) | (apply wantedZ; exact rfl; exact rfl; exact rfl; (simp only [T.get_set, Nat.reduceEqDiff, ↓reduceIte, evA, r2, r4, r6] <;> rfl))); exact rfl)
        | (with_reducible apply aw_seq)
        | (with_reducible apply aw_regionL)
        | (with_reducible apply aw_block)
        | (with_reducible apply aw_scope)
        | (with_reducible apply aw_nil)
        | (with_reducible apply aw_then)
        | (with_reducible apply aw_thenR)
        | (with_reducible apply aw_thenE)
        | (with_reducible apply aw_blockR)
        | (with_reducible apply aw_blockN)
        | (with_reducible apply aw_blockE)
        | (with_reducible apply aw_ret)
        | (with_reducible apply aw_exit)
        | (with_reducible apply aw_skip)
        | ((with_reducible apply aw_condT); (first | exact rfl | (simp only [T.get_set, Nat.reduceEqDiff, ↓reduceIte, evA, r2, r4, r6] <;> rfl)))
        | ((with_reducible apply aw_condF); (first | exact rfl | (simp only [T.get_set, Nat.reduceEqDiff, ↓reduceIte, evA, r2, r4, r6] <;> rfl)))
        | ((with_reducible apply aw_drawL); (simp only [List.zipIdx_cons, List.zipIdx_nil, Nat.zero_add, Nat.reduceAdd] <;> rfl); kernel_rfl; kernel_rfl)
        | (with_reducible apply dw_nil)
        | fail)

      (with_reducible apply wpOps_callT); exact rfl; exact rfl; (simp only [List.getElem?_toArray, List.toList_toArray, bin_eql, bin_neq, bin_lss, bin_leq, bin_gtr, bin_geq, bin_add, bin_sub, bin_mul, un_not, unA, AHeap.get_bump, AHeap.next_bump, opK0, kMove, kPick, kAlloc, kBox, kBuild, kBuildSlice, kLoad, kStore, kNilCheck, kBinOp, kUnOp, kFieldAddr, kField, kIndexAddr, kIndex, kLookup, kMapUpdate, kMakeMap, kExtract, kSlice, kCall, lenA, evA, evAs, evParts, toAV, toAV0, toAVs, T.get_set, T.get_nil, Nat.reduceAdd, Nat.reduceMul, Nat.reduceEqDiff, Nat.zero_add, Nat.add_zero, Nat.mul_one, Nat.zero_mul, AV.cells, List.all_cons, List.all_nil, AV.scalar, Bool.and_true, Bool.true_and, ↓reduceIte, if_true, und_all, Tryd.underlying3, Tryd.underlying4, Tryd.underlying5, Tryd.underlying9, Tryd.underlying23, Tryd.underlying24, Tryd.underlying31, Tryd.underlying38, Tryd.underlying39, Tryd.underlying40, Tryd.underlying41, Tryd.underlying42, Tryd.underlying45, Tryd.underlying46, Tryd.underlying48, Tryd.underlying50, Tryd.underlying55, Tryd.underlying57, Tryd.underlying67, siz3, agg3, zer3, byt3, siz4, agg4, zer4, byt4, siz5, agg5, zer5, byt5, siz9, agg9, zer9, byt9, siz23, agg23, zer23, byt23, siz24, agg24, zer24, byt24, siz31, agg31, zer31, byt31, siz38, agg38, zer38, byt38, siz39, agg39, zer39, byt39, siz40, agg40, zer40, byt40, siz41, agg41, zer41, byt41, siz42, agg42, zer42, byt42, siz45, agg45, zer45, byt45, siz46, agg46, zer46, byt46, siz48, agg48, zer48, byt48, siz50, agg50, zer50, byt50, siz55, agg55, zer55, byt55, siz57, agg57, zer57, byt57, siz67, agg67, zer67, byt67, AHeap.get_alloc, AHeap.get_set, AHeap.next_alloc, AHeap.next_set, AHeap.loadCells, AHeap.load1, AHeap.storeCells, List.getElem?_cons_zero, List.getElem?_cons_succ, List.length_cons, List.length_nil, List.drop_zero, List.take_succ_cons, List.take_zero, List.drop_succ_cons, List.drop_nil, List.take_nil, List.append_nil, List.cons_append, List.nil_append, binA, isConstO, keyOk, ents_some, Bool.or_true, Bool.or_false, Bool.true_or, Bool.false_or, wantedA, dstOk, Option.bind_some, List.append_nil, decide_true, decide_false, Int.toNat_zero, Int.le_refl, beq_self_eq_true, boundsA, boundA, Int.toNat_natCast, Int.natCast_one, c1, r2, r4, r6] <;> rfl)

      refine WCall.prim pr28 cutPF_run ?_
      dsimp only
      change Am.wpOps _ _ _ _ ⟨T.set (AV.tup [.str (Lib.trimPrefix base kwStruct), .bool (Lib.hasPrefix base kwStruct)]) _ _, _, _, _, _⟩
      have hp := Lib.trimPrefix_le base kwStruct
      by_cases h1 : Lib.hasPrefix base kwStruct = true
      · rw [h1]
        simp only [if_true]
        generalize Lib.trimPrefix base kwStruct = nm at *
        repeat (first
          | ((first | ((with_reducible apply wpOps_valT); (first | exact rfl | (apply wantedGT; exact rfl; exact rfl; exact rfl; (simp only [T.get_set, Nat.reduceEqDiff, ↓reduceIte, evA, r2, r4, r6] <;> rfl))); exact rfl) | ((with_reducible apply wpOps_storeN); (first | exact rfl | (apply wantedGT; exact rfl; exact rfl; exact rfl; (simp only [T.get_set, Nat.reduceEqDiff, ↓reduceIte, evA, r2, r4, r6] <;> rfl))); exact rfl) | ((with_reducible apply dw_pureT); (first | exact rfl | (apply wantedGT; exact rfl; exact rfl; exact rfl; (simp only [T.get_set, Nat.reduceEqDiff, ↓reduceIte, evA, r2, r4, r6] <;> rfl))); exact rfl; exact rfl) | ((with_reducible apply dw_readT); (first | exact rfl | (apply wantedGT; exact rfl; exact rfl; exact rfl; (simp only [T.get_set, Nat.reduceEqDiff, ↓reduceIte, evA, r2, r4, r6] <;> rfl))); exact rfl; exact rfl)); (simp only [List.getElem?_toArray, List.toList_toArray, bin_eql, bin_neq, bin_lss, bin_leq, bin_gtr, bin_geq, bin_add, bin_sub, bin_mul, un_not, unA, AHeap.get_bump, AHeap.next_bump, opK0, kMove, kPick, kAlloc, kBox, kBuild, kBuildSlice, kLoad, kStore, kNilCheck, kBinOp, kUnOp, kFieldAddr, kField, kIndexAddr, kIndex, kLookup, kMapUpdate, kMakeMap, kExtract, kSlice, kCall, lenA, evA, evAs, evParts, toAV, toAV0, toAVs, T.get_set, T.get_nil, Nat.reduceAdd, Nat.reduceMul, Nat.reduceEqDiff, Nat.zero_add, Nat.add_zero, Nat.mul_one, Nat.zero_mul, AV.cells, List.all_cons, List.all_nil, AV.scalar, Bool.and_true, Bool.true_and, ↓reduceIte, if_true, und_all, Tryd.underlying3, Tryd.underlying4, Tryd.underlying5, Tryd.underlying9, Tryd.underlying23, Tryd.underlying24, Tryd.underlying31, Tryd.underlying38, Tryd.underlying39, Tryd.underlying40, Tryd.underlying41, Tryd.underlying42, Tryd.underlying45, Tryd.underlying46, Tryd.underlying48, Tryd.underlying50, Tryd.underlying55, Tryd.underlying57, Tryd.underlying67, siz3, agg3, zer3, byt3, siz4, agg4, zer4, byt4, siz5, agg5, zer5, byt5, siz9, agg9, zer9, byt9, siz23, agg23, zer23, byt23, siz24, agg24, zer24, byt24, siz31, agg31, zer31, byt31, siz38, agg38, zer38, byt38, siz39, agg39, zer39, byt39, siz40, agg40, zer40, byt40, siz41, agg41, zer41, byt41, siz42, agg42, zer42, byt42, siz45, agg45, zer45, byt45, siz46, agg46, zer46, byt46, siz48, agg48, zer48, byt48, siz50, agg50, zer50, byt50, siz55, agg55, zer55, byt55, siz57, agg57, zer57, byt57, siz67, agg67, zer67, byt67, AHeap.get_alloc, AHeap.get_set, AHeap.next_alloc, AHeap.next_set, AHeap.loadCells, AHeap.load1, AHeap.storeCells, List.getElem?_cons_zero, List.getElem?_cons_succ, List.length_cons, List.length_nil, List.drop_zero, List.take_succ_cons, List.take_zero, List.drop_succ_cons, List.drop_nil, List.take_nil, List.append_nil, List.cons_append, List.nil_append, binA, isConstO, keyOk, ents_some, Bool.or_true, Bool.or_false, Bool.true_or, Bool.false_or, wantedA, dstOk, Option.bind_some, List.append_nil, decide_true, decide_false, Int.toNat_zero, Int.le_refl, beq_self_eq_true, boundsA, boundA, Int.toNat_natCast, Int.natCast_one, c1, w1, r2, r4, r6] <;> rfl))
          | ((with_reducible apply wpOps_skipT); (first | exact rfl | (apply wantedGF; exact rfl; exact rfl; exact rfl; (simp only [T.get_set, Nat.reduceEqDiff, ↓reduceIte, evA, r2, r4, r6] <;> rfl)) | (apply wantedZ; exact rfl; exact rfl; exact rfl; (simp only [T.get_set, Nat.reduceEqDiff, ↓reduceIte, evA, r2, r4, r6] <;> rfl))); exact rfl)
          | ((with_reducible apply wpOps_skipN); (first | exact rfl | (apply wantedGF; exact rfl; exact rfl; exact rfl; (simp only [T.get_set, Nat.reduceEqDiff, ↓reduceIte, evA, r2, r4, r6] <;> rfl)) | (apply wantedZ; exact rfl; exact rfl; exact rfl; (simp only [T.get_set, Nat.reduceEqDiff, ↓reduceIte, evA, r2, r4, r6] <;> rfl))); exact rfl)
          | ((with_reducible apply dw_skipT); (first | exact rfl | (apply wantedGF; exact rfl; exact rfl; exact rfl; (simp only [T.get_set, Nat.reduceEqDiff, ↓reduceIte, evA, r2, r4, r6] <;> rfl)) | (apply wantedZ; exact rfl; exact rfl; exact rfl; (simp only [T.get_set, Nat.reduceEqDiff, ↓reduceIte, evA, r2, r4, r6] <;> rfl))); exact rfl)
          | (with_reducible apply aw_seq)
          | (with_reducible apply aw_regionL)
          | (with_reducible apply aw_block)
          | (with_reducible apply aw_scope)
          | (with_reducible apply aw_nil)
          | (with_reducible apply aw_then)
          | (with_reducible apply aw_thenR)
          | (with_reducible apply aw_thenE)
          | (with_reducible apply aw_blockR)
          | (with_reducible apply aw_blockN)
          | (with_reducible apply aw_blockE)
          | (with_reducible apply aw_ret)
          | (with_reducible apply aw_exit)
          | (with_reducible apply aw_skip)
          | ((with_reducible apply aw_condT); (first | exact rfl | (simp only [T.get_set, Nat.reduceEqDiff, ↓reduceIte, evA, r2, r4, r6] <;> rfl)))
          | ((with_reducible apply aw_condF); (first | exact rfl | (simp only [T.get_set, Nat.reduceEqDiff, ↓reduceIte, evA, r2, r4, r6] <;> rfl)))
          | ((with_reducible apply aw_drawL); (simp only [List.zipIdx_cons, List.zipIdx_nil, Nat.zero_add, Nat.reduceAdd] <;> rfl); kernel_rfl; kernel_rfl)
          | (with_reducible apply dw_nil)
          | fail)

        (with_reducible apply dw_callT); exact rfl; exact rfl; exact rfl; (simp only [List.getElem?_toArray, List.toList_toArray, bin_eql, bin_neq, bin_lss, bin_leq, bin_gtr, bin_geq, bin_add, bin_sub, bin_mul, un_not, unA, AHeap.get_bump, AHeap.next_bump, opK0, kMove, kPick, kAlloc, kBox, kBuild, kBuildSlice, kLoad, kStore, kNilCheck, kBinOp, kUnOp, kFieldAddr, kField, kIndexAddr, kIndex, kLookup, kMapUpdate, kMakeMap, kExtract, kSlice, kCall, lenA, evA, evAs, evParts, toAV, toAV0, toAVs, T.get_set, T.get_nil, Nat.reduceAdd, Nat.reduceMul, Nat.reduceEqDiff, Nat.zero_add, Nat.add_zero, Nat.mul_one, Nat.zero_mul, AV.cells, List.all_cons, List.all_nil, AV.scalar, Bool.and_true, Bool.true_and, ↓reduceIte, if_true, und_all, Tryd.underlying3, Tryd.underlying4, Tryd.underlying5, Tryd.underlying9, Tryd.underlying23, Tryd.underlying24, Tryd.underlying31, Tryd.underlying38, Tryd.underlying39, Tryd.underlying40, Tryd.underlying41, Tryd.underlying42, Tryd.underlying45, Tryd.underlying46, Tryd.underlying48, Tryd.underlying50, Tryd.underlying55, Tryd.underlying57, Tryd.underlying67, siz3, agg3, zer3, byt3, siz4, agg4, zer4, byt4, siz5, agg5, zer5, byt5, siz9, agg9, zer9, byt9, siz23, agg23, zer23, byt23, siz24, agg24, zer24, byt24, siz31, agg31, zer31, byt31, siz38, agg38, zer38, byt38, siz39, agg39, zer39, byt39, siz40, agg40, zer40, byt40, siz41, agg41, zer41, byt41, siz42, agg42, zer42, byt42, siz45, agg45, zer45, byt45, siz46, agg46, zer46, byt46, siz48, agg48, zer48, byt48, siz50, agg50, zer50, byt50, siz55, agg55, zer55, byt55, siz57, agg57, zer57, byt57, siz67, agg67, zer67, byt67, AHeap.get_alloc, AHeap.get_set, AHeap.next_alloc, AHeap.next_set, AHeap.loadCells, AHeap.load1, AHeap.storeCells, List.getElem?_cons_zero, List.getElem?_cons_succ, List.length_cons, List.length_nil, List.drop_zero, List.take_succ_cons, List.take_zero, List.drop_succ_cons, List.drop_nil, List.take_nil, List.append_nil, List.cons_append, List.nil_append, binA, isConstO, keyOk, ents_some, Bool.or_true, Bool.or_false, Bool.true_or, Bool.false_or, wantedA, dstOk, Option.bind_some, List.append_nil, decide_true, decide_false, Int.toNat_zero, Int.le_refl, beq_self_eq_true, boundsA, boundA, Int.toNat_natCast, Int.natCast_one, c1, w1, r2, r4, r6] <;> rfl); exact rfl

        refine (goodName_w _ nm (by omega)).mono fun out h5 hq => ?_
        obtain ⟨rfl, rfl⟩ := hq
        dsimp only
        refine ⟨?_, ?_⟩
        · skip
          simp only [List.all_cons, List.all_nil, Bool.and_true, Bool.and_eq_true]
          repeat (first | exact Eq.refl true | ((with_reducible apply And.intro)) | (apply same_or; apply same_of; (simp only [List.getElem?_toArray, List.toList_toArray, bin_eql, bin_neq, bin_lss, bin_leq, bin_gtr, bin_geq, bin_add, bin_sub, bin_mul, un_not, unA, AHeap.get_bump, AHeap.next_bump, opK0, kMove, kPick, kAlloc, kBox, kBuild, kBuildSlice, kLoad, kStore, kNilCheck, kBinOp, kUnOp, kFieldAddr, kField, kIndexAddr, kIndex, kLookup, kMapUpdate, kMakeMap, kExtract, kSlice, kCall, lenA, evA, evAs, evParts, toAV, toAV0, toAVs, T.get_set, T.get_nil, Nat.reduceAdd, Nat.reduceMul, Nat.reduceEqDiff, Nat.zero_add, Nat.add_zero, Nat.mul_one, Nat.zero_mul, AV.cells, List.all_cons, List.all_nil, AV.scalar, Bool.and_true, Bool.true_and, ↓reduceIte, if_true, und_all, Tryd.underlying3, Tryd.underlying4, Tryd.underlying5, Tryd.underlying9, Tryd.underlying23, Tryd.underlying24, Tryd.underlying31, Tryd.underlying38, Tryd.underlying39, Tryd.underlying40, Tryd.underlying41, Tryd.underlying42, Tryd.underlying45, Tryd.underlying46, Tryd.underlying48, Tryd.underlying50, Tryd.underlying55, Tryd.underlying57, Tryd.underlying67, siz3, agg3, zer3, byt3, siz4, agg4, zer4, byt4, siz5, agg5, zer5, byt5, siz9, agg9, zer9, byt9, siz23, agg23, zer23, byt23, siz24, agg24, zer24, byt24, siz31, agg31, zer31, byt31, siz38, agg38, zer38, byt38, siz39, agg39, zer39, byt39, siz40, agg40, zer40, byt40, siz41, agg41, zer41, byt41, siz42, agg42, zer42, byt42, siz45, agg45, zer45, byt45, siz46, agg46, zer46, byt46, siz48, agg48, zer48, byt48, siz50, agg50, zer50, byt50, siz55, agg55, zer55, byt55, siz57, agg57, zer57, byt57, siz67, agg67, zer67, byt67, AHeap.get_alloc, AHeap.get_set, AHeap.next_alloc, AHeap.next_set, AHeap.loadCells, AHeap.load1, AHeap.storeCells, List.getElem?_cons_zero, List.getElem?_cons_succ, List.length_cons, List.length_nil, List.drop_zero, List.take_succ_cons, List.take_zero, List.drop_succ_cons, List.drop_nil, List.take_nil, List.append_nil, List.cons_append, List.nil_append, binA, isConstO, keyOk, ents_some, Bool.or_true, Bool.or_false, Bool.true_or, Bool.false_or, wantedA, dstOk, Option.bind_some, List.append_nil, decide_true, decide_false, Int.toNat_zero, Int.le_refl, beq_self_eq_true, boundsA, boundA, Int.toNat_natCast, Int.natCast_one, c1, w1, r2, r4, r6] <;> rfl)))

        repeat (first
          | ((first | ((with_reducible apply wpOps_valT); (first | exact rfl | (apply wantedGT; exact rfl; exact rfl; exact rfl; (simp only [T.get_set, Nat.reduceEqDiff, ↓reduceIte, evA, r2, r4, r6] <;> rfl))); exact rfl) | ((with_reducible apply wpOps_storeN); (first | exact rfl | (apply wantedGT; exact rfl; exact rfl; exact rfl; (simp only [T.get_set, Nat.reduceEqDiff, ↓reduceIte, evA, r2, r4, r6] <;> rfl))); exact rfl) | ((with_reducible apply dw_pureT); (first | exact rfl | (apply wantedGT; exact rfl; exact rfl; exact rfl; (simp only [T.get_set, Nat.reduceEqDiff, ↓reduceIte, evA, r2, r4, r6] <;> rfl))); exact rfl; exact rfl) | ((with_reducible apply dw_readT); (first | exact rfl | (apply wantedGT; exact rfl; exact rfl; exact rfl; (simp only [T.get_set, Nat.reduceEqDiff, ↓reduceIte, evA, r2, r4, r6] <;> rfl))); exact rfl; exact rfl)); (simp only [List.getElem?_toArray, List.toList_toArray, bin_eql, bin_neq, bin_lss, bin_leq, bin_gtr, bin_geq, bin_add, bin_sub, bin_mul, un_not, unA, AHeap.get_bump, AHeap.next_bump, opK0, kMove, kPick, kAlloc, kBox, kBuild, kBuildSlice, kLoad, kStore, kNilCheck, kBinOp, kUnOp, kFieldAddr, kField, kIndexAddr, kIndex, kLookup, kMapUpdate, kMakeMap, kExtract, kSlice, kCall, lenA, evA, evAs, evParts, toAV, toAV0, toAVs, T.get_set, T.get_nil, Nat.reduceAdd, Nat.reduceMul, Nat.reduceEqDiff, Nat.zero_add, Nat.add_zero, Nat.mul_one, Nat.zero_mul, AV.cells, List.all_cons, List.all_nil, AV.scalar, Bool.and_true, Bool.true_and, ↓reduceIte, if_true, und_all, Tryd.underlying3, Tryd.underlying4, Tryd.underlying5, Tryd.underlying9, Tryd.underlying23, Tryd.underlying24, Tryd.underlying31, Tryd.underlying38, Tryd.underlying39, Tryd.underlying40, Tryd.underlying41, Tryd.underlying42, Tryd.underlying45, Tryd.underlying46, Tryd.underlying48, Tryd.underlying50, Tryd.underlying55, Tryd.underlying57, Tryd.underlying67, siz3, agg3, zer3, byt3, siz4, agg4, zer4, byt4, siz5, agg5, zer5, byt5, siz9, agg9, zer9, byt9, siz23, agg23, zer23, byt23, siz24, agg24, zer24, byt24, siz31, agg31, zer31, byt31, siz38, agg38, zer38, byt38, siz39, agg39, zer39, byt39, siz40, agg40, zer40, byt40, siz41, agg41, zer41, byt41, siz42, agg42, zer42, byt42, siz45, agg45, zer45, byt45, siz46, agg46, zer46, byt46, siz48, agg48, zer48, byt48, siz50, agg50, zer50, byt50, siz55, agg55, zer55, byt55, siz57, agg57, zer57, byt57, siz67, agg67, zer67, byt67, AHeap.get_alloc, AHeap.get_set, AHeap.next_alloc, AHeap.next_set, AHeap.loadCells, AHeap.load1, AHeap.storeCells, List.getElem?_cons_zero, List.getElem?_cons_succ, List.length_cons, List.length_nil, List.drop_zero, List.take_succ_cons, List.take_zero, List.drop_succ_cons, List.drop_nil, List.take_nil, List.append_nil, List.cons_append, List.nil_append, binA, isConstO, keyOk, ents_some, Bool.or_true, Bool.or_false, Bool.true_or, Bool.false_or, wantedA, dstOk, Option.bind_some, List.append_nil, decide_true, decide_false, Int.toNat_zero, Int.le_refl, beq_self_eq_true, boundsA, boundA, Int.toNat_natCast, Int.natCast_one, c1, w1, r2, r4, r6] <;> rfl))
          | ((with_reducible apply wpOps_skipT); (first | exact rfl | (apply wantedGF; exact rfl; exact rfl; exact rfl; (simp only [T.get_set, Nat.reduceEqDiff, ↓reduceIte, evA, r2, r4, r6] <;> rfl)) | (apply wantedZ; exact rfl; exact rfl; exact rfl; (simp only [T.get_set, Nat.reduceEqDiff, ↓reduceIte, evA, r2, r4, r6] <;> rfl))); exact rfl)
          | ((with_reducible apply wpOps_skipN); (first | exact rfl | (apply wantedGF; exact rfl; exact rfl; exact rfl; (simp only [T.get_set, Nat.reduceEqDiff, ↓reduceIte, evA, r2, r4, r6] <;> rfl)) | (apply wantedZ; exact rfl; exact rfl; exact rfl; (simp only [T.get_set, Nat.reduceEqDiff, ↓reduceIte, evA, r2, r4, r6] <;> rfl))); exact rfl)
          | ((with_reducible apply dw_storeN); (first | exact rfl | (apply wantedGT; exact rfl; exact rfl; exact rfl; (simp only [T.get_set, Nat.reduceEqDiff, ↓reduceIte, evA, r2, r4, r6] <;> rfl))); exact rfl; exact rfl; (simp only [List.getElem?_toArray, List.toList_toArray, bin_eql, bin_neq, bin_lss, bin_leq, bin_gtr, bin_geq, bin_add, bin_sub, bin_mul, un_not, unA, AHeap.get_bump, AHeap.next_bump, opK0, kMove, kPick, kAlloc, kBox, kBuild, kBuildSlice, kLoad, kStore, kNilCheck, kBinOp, kUnOp, kFieldAddr, kField, kIndexAddr, kIndex, kLookup, kMapUpdate, kMakeMap, kExtract, kSlice, kCall, lenA, evA, evAs, evParts, toAV, toAV0, toAVs, T.get_set, T.get_nil, Nat.reduceAdd, Nat.reduceMul, Nat.reduceEqDiff, Nat.zero_add, Nat.add_zero, Nat.mul_one, Nat.zero_mul, AV.cells, List.all_cons, List.all_nil, AV.scalar, Bool.and_true, Bool.true_and, ↓reduceIte, if_true, und_all, Tryd.underlying3, Tryd.underlying4, Tryd.underlying5, Tryd.underlying9, Tryd.underlying23, Tryd.underlying24, Tryd.underlying31, Tryd.underlying38, Tryd.underlying39, Tryd.underlying40, Tryd.underlying41, Tryd.underlying42, Tryd.underlying45, Tryd.underlying46, Tryd.underlying48, Tryd.underlying50, Tryd.underlying55, Tryd.underlying57, Tryd.underlying67, siz3, agg3, zer3, byt3, siz4, agg4, zer4, byt4, siz5, agg5, zer5, byt5, siz9, agg9, zer9, byt9, siz23, agg23, zer23, byt23, siz24, agg24, zer24, byt24, siz31, agg31, zer31, byt31, siz38, agg38, zer38, byt38, siz39, agg39, zer39, byt39, siz40, agg40, zer40, byt40, siz41, agg41, zer41, byt41, siz42, agg42, zer42, byt42, siz45, agg45, zer45, byt45, siz46, agg46, zer46, byt46, siz48, agg48, zer48, byt48, siz50, agg50, zer50, byt50, siz55, agg55, zer55, byt55, siz57, agg57, zer57, byt57, siz67, agg67, zer67, byt67, AHeap.get_alloc, AHeap.get_set, AHeap.next_alloc, AHeap.next_set, AHeap.loadCells, AHeap.load1, AHeap.storeCells, List.getElem?_cons_zero, List.getElem?_cons_succ, List.length_cons, List.length_nil, List.drop_zero, List.take_succ_cons, List.take_zero, List.drop_succ_cons, List.drop_nil, List.take_nil, List.append_nil, List.cons_append, List.nil_append, binA, isConstO, keyOk, ents_some, Bool.or_true, Bool.or_false, Bool.true_or, Bool.false_or, wantedA, dstOk, Option.bind_some, List.append_nil, decide_true, decide_false, Int.toNat_zero, Int.le_refl, beq_self_eq_true, boundsA, boundA, Int.toNat_natCast, Int.natCast_one, c1, w1, r2, r4, r6] <;> rfl); kernel_rfl; kernel_rfl)
          | ((with_reducible apply dw_skipT); (first | exact rfl | (apply wantedGF; exact rfl; exact rfl; exact rfl; (simp only [T.get_set, Nat.reduceEqDiff, ↓reduceIte, evA, r2, r4, r6] <;> rfl)) | (apply wantedZ; exact rfl; exact rfl; exact rfl; (simp only [T.get_set, Nat.reduceEqDiff, ↓reduceIte, evA, r2, r4, r6] <;> rfl))); exact rfl)
          | (with_reducible apply aw_seq)
          | (with_reducible apply aw_regionL)
          | (with_reducible apply aw_block)
          | (with_reducible apply aw_scope)
          | (with_reducible apply aw_nil)
          | (with_reducible apply aw_then)
          | (with_reducible apply aw_thenR)
          | (with_reducible apply aw_thenE)
          | (with_reducible apply aw_blockR)
          | (with_reducible apply aw_blockN)
          | (with_reducible apply aw_blockE)
          | (with_reducible apply aw_ret)
          | (with_reducible apply aw_exit)
          | (with_reducible apply aw_skip)
          | ((with_reducible apply aw_condT); (first | exact rfl | (simp only [T.get_set, Nat.reduceEqDiff, ↓reduceIte, evA, r2, r4, r6] <;> rfl)))
          | ((with_reducible apply aw_condF); (first | exact rfl | (simp only [T.get_set, Nat.reduceEqDiff, ↓reduceIte, evA, r2, r4, r6] <;> rfl)))
          | ((with_reducible apply aw_drawL); (simp only [List.zipIdx_cons, List.zipIdx_nil, Nat.zero_add, Nat.reduceAdd] <;> rfl); kernel_rfl; kernel_rfl)
          | (with_reducible apply dw_nil)
          | fail)

        refine ⟨rfl, _, (by simp only [res17, resultsA, resultA, List.getElem?_toArray, List.toList_toArray, bin_eql, bin_neq, bin_lss, bin_leq, bin_gtr, bin_geq, bin_add, bin_sub, bin_mul, un_not, unA, AHeap.get_bump, AHeap.next_bump, opK0, kMove, kPick, kAlloc, kBox, kBuild, kBuildSlice, kLoad, kStore, kNilCheck, kBinOp, kUnOp, kFieldAddr, kField, kIndexAddr, kIndex, kLookup, kMapUpdate, kMakeMap, kExtract, kSlice, kCall, lenA, evA, evAs, evParts, toAV, toAV0, toAVs, T.get_set, T.get_nil, Nat.reduceAdd, Nat.reduceMul, Nat.reduceEqDiff, Nat.zero_add, Nat.add_zero, Nat.mul_one, Nat.zero_mul, AV.cells, List.all_cons, List.all_nil, AV.scalar, Bool.and_true, Bool.true_and, ↓reduceIte, if_true, und_all, Tryd.underlying3, Tryd.underlying4, Tryd.underlying5, Tryd.underlying9, Tryd.underlying23, Tryd.underlying24, Tryd.underlying31, Tryd.underlying38, Tryd.underlying39, Tryd.underlying40, Tryd.underlying41, Tryd.underlying42, Tryd.underlying45, Tryd.underlying46, Tryd.underlying48, Tryd.underlying50, Tryd.underlying55, Tryd.underlying57, Tryd.underlying67, siz3, agg3, zer3, byt3, siz4, agg4, zer4, byt4, siz5, agg5, zer5, byt5, siz9, agg9, zer9, byt9, siz23, agg23, zer23, byt23, siz24, agg24, zer24, byt24, siz31, agg31, zer31, byt31, siz38, agg38, zer38, byt38, siz39, agg39, zer39, byt39, siz40, agg40, zer40, byt40, siz41, agg41, zer41, byt41, siz42, agg42, zer42, byt42, siz45, agg45, zer45, byt45, siz46, agg46, zer46, byt46, siz48, agg48, zer48, byt48, siz50, agg50, zer50, byt50, siz55, agg55, zer55, byt55, siz57, agg57, zer57, byt57, siz67, agg67, zer67, byt67, AHeap.get_alloc, AHeap.get_set, AHeap.next_alloc, AHeap.next_set, AHeap.loadCells, AHeap.load1, AHeap.storeCells, List.getElem?_cons_zero, List.getElem?_cons_succ, List.length_cons, List.length_nil, List.drop_zero, List.take_succ_cons, List.take_zero, List.drop_succ_cons, List.drop_nil, List.take_nil, List.append_nil, List.cons_append, List.nil_append, binA, isConstO, keyOk, ents_some, Bool.or_true, Bool.or_false, Bool.true_or, Bool.false_or, wantedA, dstOk, Option.bind_some, List.append_nil, decide_true, decide_false, Int.toNat_zero, Int.le_refl, beq_self_eq_true, boundsA, boundA, Int.toNat_natCast, Int.natCast_one, c1, r2, AHeap.get_set, AHeap.get_bump] <;> rfl), rfl, ?_⟩
        try dsimp only
        repeat (first | exact Keep.refl _ | exact k1 | (with_reducible apply Keep.bump) | (with_reducible apply Keep.alloc) | ((with_reducible apply Keep.set); (first | exact Nat.le_refl _ | (have := Keep.next k1; omega)); ((try simp only [AHeap.next_alloc, AHeap.next_bump, AHeap.next_set]); have := Keep.next k1; omega)))

      · have h1' : Lib.hasPrefix base kwStruct = false := by simpa using h1
        rw [h1']
        simp only [Bool.false_eq_true, if_false]
        obtain ⟨b1, g1⟩ : ∃ b, (base == [99, 104, 97, 114]) = b := ⟨_, rfl⟩
        obtain ⟨b2, g2⟩ : ∃ b, (base == [105, 110, 116]) = b := ⟨_, rfl⟩
        obtain ⟨b3, g3⟩ : ∃ b, (base == [108, 111, 110, 103]) = b := ⟨_, rfl⟩
        obtain ⟨b4, g4⟩ : ∃ b, (base == [118, 111, 105, 100]) = b := ⟨_, rfl⟩
        obtain ⟨b5, g5⟩ : ∃ b, decide (0 < (rest.length : Int) - (base.length : Int)) = b := ⟨_, rfl⟩
        simp only [kwChar, kwInt, kwLong, kwVoid, g1, g2, g3, g4, g5]
        cases b1 with
        | true => 
          repeat (first
            | ((first | ((with_reducible apply wpOps_valT); (first | exact rfl | (apply wantedGT; exact rfl; exact rfl; exact rfl; (simp only [T.get_set, Nat.reduceEqDiff, ↓reduceIte, evA, r2, r4, r6] <;> rfl))); exact rfl) | ((with_reducible apply wpOps_storeN); (first | exact rfl | (apply wantedGT; exact rfl; exact rfl; exact rfl; (simp only [T.get_set, Nat.reduceEqDiff, ↓reduceIte, evA, r2, r4, r6] <;> rfl))); exact rfl) | ((with_reducible apply dw_pureT); (first | exact rfl | (apply wantedGT; exact rfl; exact rfl; exact rfl; (simp only [T.get_set, Nat.reduceEqDiff, ↓reduceIte, evA, r2, r4, r6] <;> rfl))); exact rfl; exact rfl) | ((with_reducible apply dw_readT); (first | exact rfl | (apply wantedGT; exact rfl; exact rfl; exact rfl; (simp only [T.get_set, Nat.reduceEqDiff, ↓reduceIte, evA, r2, r4, r6] <;> rfl))); exact rfl; exact rfl)); (simp only [List.getElem?_toArray, List.toList_toArray, bin_eql, bin_neq, bin_lss, bin_leq, bin_gtr, bin_geq, bin_add, bin_sub, bin_mul, un_not, unA, AHeap.get_bump, AHeap.next_bump, opK0, kMove, kPick, kAlloc, kBox, kBuild, kBuildSlice, kLoad, kStore, kNilCheck, kBinOp, kUnOp, kFieldAddr, kField, kIndexAddr, kIndex, kLookup, kMapUpdate, kMakeMap, kExtract, kSlice, kCall, lenA, evA, evAs, evParts, toAV, toAV0, toAVs, T.get_set, T.get_nil, Nat.reduceAdd, Nat.reduceMul, Nat.reduceEqDiff, Nat.zero_add, Nat.add_zero, Nat.mul_one, Nat.zero_mul, AV.cells, List.all_cons, List.all_nil, AV.scalar, Bool.and_true, Bool.true_and, ↓reduceIte, if_true, und_all, Tryd.underlying3, Tryd.underlying4, Tryd.underlying5, Tryd.underlying9, Tryd.underlying23, Tryd.underlying24, Tryd.underlying31, Tryd.underlying38, Tryd.underlying39, Tryd.underlying40, Tryd.underlying41, Tryd.underlying42, Tryd.underlying45, Tryd.underlying46, Tryd.underlying48, Tryd.underlying50, Tryd.underlying55, Tryd.underlying57, Tryd.underlying67, siz3, agg3, zer3, byt3, siz4, agg4, zer4, byt4, siz5, agg5, zer5, byt5, siz9, agg9, zer9, byt9, siz23, agg23, zer23, byt23, siz24, agg24, zer24, byt24, siz31, agg31, zer31, byt31, siz38, agg38, zer38, byt38, siz39, agg39, zer39, byt39, siz40, agg40, zer40, byt40, siz41, agg41, zer41, byt41, siz42, agg42, zer42, byt42, siz45, agg45, zer45, byt45, siz46, agg46, zer46, byt46, siz48, agg48, zer48, byt48, siz50, agg50, zer50, byt50, siz55, agg55, zer55, byt55, siz57, agg57, zer57, byt57, siz67, agg67, zer67, byt67, AHeap.get_alloc, AHeap.get_set, AHeap.next_alloc, AHeap.next_set, AHeap.loadCells, AHeap.load1, AHeap.storeCells, List.getElem?_cons_zero, List.getElem?_cons_succ, List.length_cons, List.length_nil, List.drop_zero, List.take_succ_cons, List.take_zero, List.drop_succ_cons, List.drop_nil, List.take_nil, List.append_nil, List.cons_append, List.nil_append, binA, isConstO, keyOk, ents_some, Bool.or_true, Bool.or_false, Bool.true_or, Bool.false_or, wantedA, dstOk, Option.bind_some, List.append_nil, decide_true, decide_false, Int.toNat_zero, Int.le_refl, beq_self_eq_true, boundsA, boundA, Int.toNat_natCast, Int.natCast_one, c1, w1, g1, g2, g3, g4, g5, r2, r4, r6] <;> rfl))
            | ((with_reducible apply wpOps_skipT); (first | exact rfl | (apply wantedGF; exact rfl; exact rfl; exact rfl; (simp only [T.get_set, Nat.reduceEqDiff, ↓reduceIte, evA, r2, r4, r6] <;> rfl)) | (apply wantedZ; exact rfl; exact rfl; exact rfl; (simp only [T.get_set, Nat.reduceEqDiff, ↓reduceIte, evA, r2, r4, r6] <;> rfl))); exact rfl)
            | ((with_reducible apply wpOps_skipN); (first | exact rfl | (apply wantedGF; exact rfl; exact rfl; exact rfl; (simp only [T.get_set, Nat.reduceEqDiff, ↓reduceIte, evA, r2, r4, r6] <;> rfl)) | (apply wantedZ; exact rfl; exact rfl; exact rfl; (simp only [T.get_set, Nat.reduceEqDiff, ↓reduceIte, evA, r2, r4, r6] <;> rfl))); exact rfl)
            | ((with_reducible apply dw_skipT); (first | exact rfl | (apply wantedGF; exact rfl; exact rfl; exact rfl; (simp only [T.get_set, Nat.reduceEqDiff, ↓reduceIte, evA, r2, r4, r6] <;> rfl)) | (apply wantedZ; exact rfl; exact rfl; exact rfl; (simp only [T.get_set, Nat.reduceEqDiff, ↓reduceIte, evA, r2, r4, r6] <;> rfl))); exact rfl)
            | (with_reducible apply aw_seq)
            | (with_reducible apply aw_regionL)
            | (with_reducible apply aw_block)
            | (with_reducible apply aw_scope)
            | (with_reducible apply aw_nil)
            | (with_reducible apply aw_then)
            | (with_reducible apply aw_thenR)
            | (with_reducible apply aw_thenE)
            | (with_reducible apply aw_blockR)
            | (with_reducible apply aw_blockN)
            | (with_reducible apply aw_blockE)
            | (with_reducible apply aw_ret)
            | (with_reducible apply aw_exit)
            | (with_reducible apply aw_skip)
            | ((with_reducible apply aw_condT); (first | exact rfl | (simp only [T.get_set, Nat.reduceEqDiff, ↓reduceIte, evA, r2, r4, r6] <;> rfl)))
            | ((with_reducible apply aw_condF); (first | exact rfl | (simp only [T.get_set, Nat.reduceEqDiff, ↓reduceIte, evA, r2, r4, r6] <;> rfl)))
            | ((with_reducible apply aw_drawL); (simp only [List.zipIdx_cons, List.zipIdx_nil, Nat.zero_add, Nat.reduceAdd] <;> rfl); kernel_rfl; kernel_rfl)
            | (with_reducible apply dw_nil)
            | fail)
          refine ⟨rfl, _, (by simp only [res17, resultsA, resultA, List.getElem?_toArray, List.toList_toArray, bin_eql, bin_neq, bin_lss, bin_leq, bin_gtr, bin_geq, bin_add, bin_sub, bin_mul, un_not, unA, AHeap.get_bump, AHeap.next_bump, opK0, kMove, kPick, kAlloc, kBox, kBuild, kBuildSlice, kLoad, kStore, kNilCheck, kBinOp, kUnOp, kFieldAddr, kField, kIndexAddr, kIndex, kLookup, kMapUpdate, kMakeMap, kExtract, kSlice, kCall, lenA, evA, evAs, evParts, toAV, toAV0, toAVs, T.get_set, T.get_nil, Nat.reduceAdd, Nat.reduceMul, Nat.reduceEqDiff, Nat.zero_add, Nat.add_zero, Nat.mul_one, Nat.zero_mul, AV.cells, List.all_cons, List.all_nil, AV.scalar, Bool.and_true, Bool.true_and, ↓reduceIte, if_true, und_all, Tryd.underlying3, Tryd.underlying4, Tryd.underlying5, Tryd.underlying9, Tryd.underlying23, Tryd.underlying24, Tryd.underlying31, Tryd.underlying38, Tryd.underlying39, Tryd.underlying40, Tryd.underlying41, Tryd.underlying42, Tryd.underlying45, Tryd.underlying46, Tryd.underlying48, Tryd.underlying50, Tryd.underlying55, Tryd.underlying57, Tryd.underlying67, siz3, agg3, zer3, byt3, siz4, agg4, zer4, byt4, siz5, agg5, zer5, byt5, siz9, agg9, zer9, byt9, siz23, agg23, zer23, byt23, siz24, agg24, zer24, byt24, siz31, agg31, zer31, byt31, siz38, agg38, zer38, byt38, siz39, agg39, zer39, byt39, siz40, agg40, zer40, byt40, siz41, agg41, zer41, byt41, siz42, agg42, zer42, byt42, siz45, agg45, zer45, byt45, siz46, agg46, zer46, byt46, siz48, agg48, zer48, byt48, siz50, agg50, zer50, byt50, siz55, agg55, zer55, byt55, siz57, agg57, zer57, byt57, siz67, agg67, zer67, byt67, AHeap.get_alloc, AHeap.get_set, AHeap.next_alloc, AHeap.next_set, AHeap.loadCells, AHeap.load1, AHeap.storeCells, List.getElem?_cons_zero, List.getElem?_cons_succ, List.length_cons, List.length_nil, List.drop_zero, List.take_succ_cons, List.take_zero, List.drop_succ_cons, List.drop_nil, List.take_nil, List.append_nil, List.cons_append, List.nil_append, binA, isConstO, keyOk, ents_some, Bool.or_true, Bool.or_false, Bool.true_or, Bool.false_or, wantedA, dstOk, Option.bind_some, List.append_nil, decide_true, decide_false, Int.toNat_zero, Int.le_refl, beq_self_eq_true, boundsA, boundA, Int.toNat_natCast, Int.natCast_one, c1, r2, AHeap.get_set, AHeap.get_bump] <;> rfl), rfl, ?_⟩
          try dsimp only
          repeat (first | exact Keep.refl _ | exact k1 | (with_reducible apply Keep.bump) | (with_reducible apply Keep.alloc) | ((with_reducible apply Keep.set); (first | exact Nat.le_refl _ | (have := Keep.next k1; omega)); ((try simp only [AHeap.next_alloc, AHeap.next_bump, AHeap.next_set]); have := Keep.next k1; omega)))

        | false => cases b2 with
          | true => 
            repeat (first
              | ((first | ((with_reducible apply wpOps_valT); (first | exact rfl | (apply wantedGT; exact rfl; exact rfl; exact rfl; (simp only [T.get_set, Nat.reduceEqDiff, ↓reduceIte, evA, r2, r4, r6] <;> rfl))); exact rfl) | ((with_reducible apply wpOps_storeN); (first | exact rfl | (apply wantedGT; exact rfl; exact rfl; exact rfl; (simp only [T.get_set, Nat.reduceEqDiff, ↓reduceIte, evA, r2, r4, r6] <;> rfl))); exact rfl) | ((with_reducible apply dw_pureT); (first | exact rfl | (apply wantedGT; exact rfl; exact rfl; exact rfl; (simp only [T.get_set, Nat.reduceEqDiff, ↓reduceIte, evA, r2, r4, r6] <;> rfl))); exact rfl; exact rfl) | ((with_reducible apply dw_readT); (first | exact rfl | (apply wantedGT; exact rfl; exact rfl; exact rfl; (simp only [T.get_set, Nat.reduceEqDiff, ↓reduceIte, evA, r2, r4, r6] <;> rfl))); exact rfl; exact rfl)); (simp only [List.getElem?_toArray, List.toList_toArray, bin_eql, bin_neq, bin_lss, bin_leq, bin_gtr, bin_geq, bin_add, bin_sub, bin_mul, un_not, unA, AHeap.get_bump, AHeap.next_bump, opK0, kMove, kPick, kAlloc, kBox, kBuild, kBuildSlice, kLoad, kStore, kNilCheck, kBinOp, kUnOp, kFieldAddr, kField, kIndexAddr, kIndex, kLookup, kMapUpdate, kMakeMap, kExtract, kSlice, kCall, lenA, evA, evAs, evParts, toAV, toAV0, toAVs, T.get_set, T.get_nil, Nat.reduceAdd, Nat.reduceMul, Nat.reduceEqDiff, Nat.zero_add, Nat.add_zero, Nat.mul_one, Nat.zero_mul, AV.cells, List.all_cons, List.all_nil, AV.scalar, Bool.and_true, Bool.true_and, ↓reduceIte, if_true, und_all, Tryd.underlying3, Tryd.underlying4, Tryd.underlying5, Tryd.underlying9, Tryd.underlying23, Tryd.underlying24, Tryd.underlying31, Tryd.underlying38, Tryd.underlying39, Tryd.underlying40, Tryd.underlying41, Tryd.underlying42, Tryd.underlying45, Tryd.underlying46, Tryd.underlying48, Tryd.underlying50, Tryd.underlying55, Tryd.underlying57, Tryd.underlying67, siz3, agg3, zer3, byt3, siz4, agg4, zer4, byt4, siz5, agg5, zer5, byt5, siz9, agg9, zer9, byt9, siz23, agg23, zer23, byt23, siz24, agg24, zer24, byt24, siz31, agg31, zer31, byt31, siz38, agg38, zer38, byt38, siz39, agg39, zer39, byt39, siz40, agg40, zer40, byt40, siz41, agg41, zer41, byt41, siz42, agg42, zer42, byt42, siz45, agg45, zer45, byt45, siz46, agg46, zer46, byt46, siz48, agg48, zer48, byt48, siz50, agg50, zer50, byt50, siz55, agg55, zer55, byt55, siz57, agg57, zer57, byt57, siz67, agg67, zer67, byt67, AHeap.get_alloc, AHeap.get_set, AHeap.next_alloc, AHeap.next_set, AHeap.loadCells, AHeap.load1, AHeap.storeCells, List.getElem?_cons_zero, List.getElem?_cons_succ, List.length_cons, List.length_nil, List.drop_zero, List.take_succ_cons, List.take_zero, List.drop_succ_cons, List.drop_nil, List.take_nil, List.append_nil, List.cons_append, List.nil_append, binA, isConstO, keyOk, ents_some, Bool.or_true, Bool.or_false, Bool.true_or, Bool.false_or, wantedA, dstOk, Option.bind_some, List.append_nil, decide_true, decide_false, Int.toNat_zero, Int.le_refl, beq_self_eq_true, boundsA, boundA, Int.toNat_natCast, Int.natCast_one, c1, w1, g1, g2, g3, g4, g5, r2, r4, r6] <;> rfl))
              | ((with_reducible apply wpOps_skipT); (first | exact rfl | (apply wantedGF; exact rfl; exact rfl; exact rfl; (simp only [T.get_set, Nat.reduceEqDiff, ↓reduceIte, evA, r2, r4, r6] <;> rfl)) | (apply wantedZ; exact rfl; exact rfl; exact rfl; (simp only [T.get_set, Nat.reduceEqDiff, ↓reduceIte, evA, r2, r4, r6] <;> rfl))); exact rfl)
              | ((with_reducible apply wpOps_skipN); (first | exact rfl | (apply wantedGF; exact rfl; exact rfl; exact rfl; (simp only [T.get_set, Nat.reduceEqDiff, ↓reduceIte, evA, r2, r4, r6] <;> rfl)) | (apply wantedZ; exact rfl; exact rfl; exact rfl; (simp only [T.get_set, Nat.reduceEqDiff, ↓reduceIte, evA, r2, r4, r6] <;> rfl))); exact rfl)
              | ((with_reducible apply dw_skipT); (first | exact rfl | (apply wantedGF; exact rfl; exact rfl; exact rfl; (simp only [T.get_set, Nat.reduceEqDiff, ↓reduceIte, evA, r2, r4, r6] <;> rfl)) | (apply wantedZ; exact rfl; exact rfl; exact rfl; (simp only [T.get_set, Nat.reduceEqDiff, ↓reduceIte, evA, r2, r4, r6] <;> rfl))); exact rfl)
              | (with_reducible apply aw_seq)
              | (with_reducible apply aw_regionL)
              | (with_reducible apply aw_block)
              | (with_reducible apply aw_scope)
              | (with_reducible apply aw_nil)
              | (with_reducible apply aw_then)
              | (with_reducible apply aw_thenR)
              | (with_reducible apply aw_thenE)
              | (with_reducible apply aw_blockR)
              | (with_reducible apply aw_blockN)
              | (with_reducible apply aw_blockE)
              | (with_reducible apply aw_ret)
              | (with_reducible apply aw_exit)
              | (with_reducible apply aw_skip)
              | ((with_reducible apply aw_condT); (first | exact rfl | (simp only [T.get_set, Nat.reduceEqDiff, ↓reduceIte, evA, r2, r4, r6] <;> rfl)))
              | ((with_reducible apply aw_condF); (first | exact rfl | (simp only [T.get_set, Nat.reduceEqDiff, ↓reduceIte, evA, r2, r4, r6] <;> rfl)))
              | ((with_reducible apply aw_drawL); (simp only [List.zipIdx_cons, List.zipIdx_nil, Nat.zero_add, Nat.reduceAdd] <;> rfl); kernel_rfl; kernel_rfl)
              | (with_reducible apply dw_nil)
              | fail)
            refine ⟨rfl, _, (by simp only [res17, resultsA, resultA, List.getElem?_toArray, List.toList_toArray, bin_eql, bin_neq, bin_lss, bin_leq, bin_gtr, bin_geq, bin_add, bin_sub, bin_mul, un_not, unA, AHeap.get_bump, AHeap.next_bump, opK0, kMove, kPick, kAlloc, kBox, kBuild, kBuildSlice, kLoad, kStore, kNilCheck, kBinOp, kUnOp, kFieldAddr, kField, kIndexAddr, kIndex, kLookup, kMapUpdate, kMakeMap, kExtract, kSlice, kCall, lenA, evA, evAs, evParts, toAV, toAV0, toAVs, T.get_set, T.get_nil, Nat.reduceAdd, Nat.reduceMul, Nat.reduceEqDiff, Nat.zero_add, Nat.add_zero, Nat.mul_one, Nat.zero_mul, AV.cells, List.all_cons, List.all_nil, AV.scalar, Bool.and_true, Bool.true_and, ↓reduceIte, if_true, und_all, Tryd.underlying3, Tryd.underlying4, Tryd.underlying5, Tryd.underlying9, Tryd.underlying23, Tryd.underlying24, Tryd.underlying31, Tryd.underlying38, Tryd.underlying39, Tryd.underlying40, Tryd.underlying41, Tryd.underlying42, Tryd.underlying45, Tryd.underlying46, Tryd.underlying48, Tryd.underlying50, Tryd.underlying55, Tryd.underlying57, Tryd.underlying67, siz3, agg3, zer3, byt3, siz4, agg4, zer4, byt4, siz5, agg5, zer5, byt5, siz9, agg9, zer9, byt9, siz23, agg23, zer23, byt23, siz24, agg24, zer24, byt24, siz31, agg31, zer31, byt31, siz38, agg38, zer38, byt38, siz39, agg39, zer39, byt39, siz40, agg40, zer40, byt40, siz41, agg41, zer41, byt41, siz42, agg42, zer42, byt42, siz45, agg45, zer45, byt45, siz46, agg46, zer46, byt46, siz48, agg48, zer48, byt48, siz50, agg50, zer50, byt50, siz55, agg55, zer55, byt55, siz57, agg57, zer57, byt57, siz67, agg67, zer67, byt67, AHeap.get_alloc, AHeap.get_set, AHeap.next_alloc, AHeap.next_set, AHeap.loadCells, AHeap.load1, AHeap.storeCells, List.getElem?_cons_zero, List.getElem?_cons_succ, List.length_cons, List.length_nil, List.drop_zero, List.take_succ_cons, List.take_zero, List.drop_succ_cons, List.drop_nil, List.take_nil, List.append_nil, List.cons_append, List.nil_append, binA, isConstO, keyOk, ents_some, Bool.or_true, Bool.or_false, Bool.true_or, Bool.false_or, wantedA, dstOk, Option.bind_some, List.append_nil, decide_true, decide_false, Int.toNat_zero, Int.le_refl, beq_self_eq_true, boundsA, boundA, Int.toNat_natCast, Int.natCast_one, c1, r2, AHeap.get_set, AHeap.get_bump] <;> rfl), rfl, ?_⟩
            try dsimp only
            repeat (first | exact Keep.refl _ | exact k1 | (with_reducible apply Keep.bump) | (with_reducible apply Keep.alloc) | ((with_reducible apply Keep.set); (first | exact Nat.le_refl _ | (have := Keep.next k1; omega)); ((try simp only [AHeap.next_alloc, AHeap.next_bump, AHeap.next_set]); have := Keep.next k1; omega)))

          | false => cases b3 with
            | true => 
              repeat (first
                | ((first | ((with_reducible apply wpOps_valT); (first | exact rfl | (apply wantedGT; exact rfl; exact rfl; exact rfl; (simp only [T.get_set, Nat.reduceEqDiff, ↓reduceIte, evA, r2, r4, r6] <;> rfl))); exact rfl) | ((with_reducible apply wpOps_storeN); (first | exact rfl | (apply wantedGT; exact rfl; exact rfl; exact rfl; (simp only [T.get_set, Nat.reduceEqDiff, ↓reduceIte, evA, r2, r4, r6] <;> rfl))); exact rfl) | ((with_reducible apply dw_pureT); (first | exact rfl | (apply wantedGT; exact rfl; exact rfl; exact rfl; (simp only [T.get_set, Nat.reduceEqDiff, ↓reduceIte, evA, r2, r4, r6] <;> rfl))); exact rfl; exact rfl) | ((with_reducible apply dw_readT); (first | exact rfl | (apply wantedGT; exact rfl; exact rfl; exact rfl; (simp only [T.get_set, Nat.reduceEqDiff, ↓reduceIte, evA, r2, r4, r6] <;> rfl))); exact rfl; exact rfl)); (simp only [List.getElem?_toArray, List.toList_toArray, bin_eql, bin_neq, bin_lss, bin_leq, bin_gtr, bin_geq, bin_add, bin_sub, bin_mul, un_not, unA, AHeap.get_bump, AHeap.next_bump, opK0, kMove, kPick, kAlloc, kBox, kBuild, kBuildSlice, kLoad, kStore, kNilCheck, kBinOp, kUnOp, kFieldAddr, kField, kIndexAddr, kIndex, kLookup, kMapUpdate, kMakeMap, kExtract, kSlice, kCall, lenA, evA, evAs, evParts, toAV, toAV0, toAVs, T.get_set, T.get_nil, Nat.reduceAdd, Nat.reduceMul, Nat.reduceEqDiff, Nat.zero_add, Nat.add_zero, Nat.mul_one, Nat.zero_mul, AV.cells, List.all_cons, List.all_nil, AV.scalar, Bool.and_true, Bool.true_and, ↓reduceIte, if_true, und_all, Tryd.underlying3, Tryd.underlying4, Tryd.underlying5, Tryd.underlying9, Tryd.underlying23, Tryd.underlying24, Tryd.underlying31, Tryd.underlying38, Tryd.underlying39, Tryd.underlying40, Tryd.underlying41, Tryd.underlying42, Tryd.underlying45, Tryd.underlying46, Tryd.underlying48, Tryd.underlying50, Tryd.underlying55, Tryd.underlying57, Tryd.underlying67, siz3, agg3, zer3, byt3, siz4, agg4, zer4, byt4, siz5, agg5, zer5, byt5, siz9, agg9, zer9, byt9, siz23, agg23, zer23, byt23, siz24, agg24, zer24, byt24, siz31, agg31, zer31, byt31, siz38, agg38, zer38, byt38, siz39, agg39, zer39, byt39, siz40, agg40, zer40, byt40, siz41, agg41, zer41, byt41, siz42, agg42, zer42, byt42, siz45, agg45, zer45, byt45, siz46, agg46, zer46, byt46, siz48, agg48, zer48, byt48, siz50, agg50, zer50, byt50, siz55, agg55, zer55, byt55, siz57, agg57, zer57, byt57, siz67, agg67, zer67, byt67, AHeap.get_alloc, AHeap.get_set, AHeap.next_alloc, AHeap.next_set, AHeap.loadCells, AHeap.load1, AHeap.storeCells, List.getElem?_cons_zero, List.getElem?_cons_succ, List.length_cons, List.length_nil, List.drop_zero, List.take_succ_cons, List.take_zero, List.drop_succ_cons, List.drop_nil, List.take_nil, List.append_nil, List.cons_append, List.nil_append, binA, isConstO, keyOk, ents_some, Bool.or_true, Bool.or_false, Bool.true_or, Bool.false_or, wantedA, dstOk, Option.bind_some, List.append_nil, decide_true, decide_false, Int.toNat_zero, Int.le_refl, beq_self_eq_true, boundsA, boundA, Int.toNat_natCast, Int.natCast_one, c1, w1, g1, g2, g3, g4, g5, r2, r4, r6] <;> rfl))
                | ((with_reducible apply wpOps_skipT); (first | exact rfl | (apply wantedGF; exact rfl; exact rfl; exact rfl; (simp only [T.get_set, Nat.reduceEqDiff, ↓reduceIte, evA, r2, r4, r6] <;> rfl)) | (apply wantedZ; exact rfl; exact rfl; exact rfl; (simp only [T.get_set, Nat.reduceEqDiff, ↓reduceIte, evA, r2, r4, r6] <;> rfl))); exact rfl)
                | ((with_reducible apply wpOps_skipN); (first | exact rfl | (apply wantedGF; exact rfl; exact rfl; exact rfl; (simp only [T.get_set, Nat.reduceEqDiff, ↓reduceIte, evA, r2, r4, r6] <;> rfl)) | (apply wantedZ; exact rfl; exact rfl; exact rfl; (simp only [T.get_set, Nat.reduceEqDiff, ↓reduceIte, evA, r2, r4, r6] <;> rfl))); exact rfl)
                | ((with_reducible apply dw_skipT); (first | exact rfl | (apply wantedGF; exact rfl; exact rfl; exact rfl; (simp only [T.get_set, Nat.reduceEqDiff, ↓reduceIte, evA, r2, r4, r6] <;> rfl)) | (apply wantedZ; exact rfl; exact rfl; exact rfl; (simp only [T.get_set, Nat.reduceEqDiff, ↓reduceIte, evA, r2, r4, r6] <;> rfl))); exact rfl)
                | (with_reducible apply aw_seq)
                | (with_reducible apply aw_regionL)
                | (with_reducible apply aw_block)
                | (with_reducible apply aw_scope)
                | (with_reducible apply aw_nil)
                | (with_reducible apply aw_then)
                | (with_reducible apply aw_thenR)
                | (with_reducible apply aw_thenE)
                | (with_reducible apply aw_blockR)
                | (with_reducible apply aw_blockN)
                | (with_reducible apply aw_blockE)
                | (with_reducible apply aw_ret)
                | (with_reducible apply aw_exit)
                | (with_reducible apply aw_skip)
                | ((with_reducible apply aw_condT); (first | exact rfl | (simp only [T.get_set, Nat.reduceEqDiff, ↓reduceIte, evA, r2, r4, r6] <;> rfl)))
                | ((with_reducible apply aw_condF); (first | exact rfl | (simp only [T.get_set, Nat.reduceEqDiff, ↓reduceIte, evA, r2, r4, r6] <;> rfl)))
                | ((with_reducible apply aw_drawL); (simp only [List.zipIdx_cons, List.zipIdx_nil, Nat.zero_add, Nat.reduceAdd] <;> rfl); kernel_rfl; kernel_rfl)
                | (with_reducible apply dw_nil)
                | fail)
              refine ⟨rfl, _, (by simp only [res17, resultsA, resultA, List.getElem?_toArray, List.toList_toArray, bin_eql, bin_neq, bin_lss, bin_leq, bin_gtr, bin_geq, bin_add, bin_sub, bin_mul, un_not, unA, AHeap.get_bump, AHeap.next_bump, opK0, kMove, kPick, kAlloc, kBox, kBuild, kBuildSlice, kLoad, kStore, kNilCheck, kBinOp, kUnOp, kFieldAddr, kField, kIndexAddr, kIndex, kLookup, kMapUpdate, kMakeMap, kExtract, kSlice, kCall, lenA, evA, evAs, evParts, toAV, toAV0, toAVs, T.get_set, T.get_nil, Nat.reduceAdd, Nat.reduceMul, Nat.reduceEqDiff, Nat.zero_add, Nat.add_zero, Nat.mul_one, Nat.zero_mul, AV.cells, List.all_cons, List.all_nil, AV.scalar, Bool.and_true, Bool.true_and, ↓reduceIte, if_true, und_all, Tryd.underlying3, Tryd.underlying4, Tryd.underlying5, Tryd.underlying9, Tryd.underlying23, Tryd.underlying24, Tryd.underlying31, Tryd.underlying38, Tryd.underlying39, Tryd.underlying40, Tryd.underlying41, Tryd.underlying42, Tryd.underlying45, Tryd.underlying46, Tryd.underlying48, Tryd.underlying50, Tryd.underlying55, Tryd.underlying57, Tryd.underlying67, siz3, agg3, zer3, byt3, siz4, agg4, zer4, byt4, siz5, agg5, zer5, byt5, siz9, agg9, zer9, byt9, siz23, agg23, zer23, byt23, siz24, agg24, zer24, byt24, siz31, agg31, zer31, byt31, siz38, agg38, zer38, byt38, siz39, agg39, zer39, byt39, siz40, agg40, zer40, byt40, siz41, agg41, zer41, byt41, siz42, agg42, zer42, byt42, siz45, agg45, zer45, byt45, siz46, agg46, zer46, byt46, siz48, agg48, zer48, byt48, siz50, agg50, zer50, byt50, siz55, agg55, zer55, byt55, siz57, agg57, zer57, byt57, siz67, agg67, zer67, byt67, AHeap.get_alloc, AHeap.get_set, AHeap.next_alloc, AHeap.next_set, AHeap.loadCells, AHeap.load1, AHeap.storeCells, List.getElem?_cons_zero, List.getElem?_cons_succ, List.length_cons, List.length_nil, List.drop_zero, List.take_succ_cons, List.take_zero, List.drop_succ_cons, List.drop_nil, List.take_nil, List.append_nil, List.cons_append, List.nil_append, binA, isConstO, keyOk, ents_some, Bool.or_true, Bool.or_false, Bool.true_or, Bool.false_or, wantedA, dstOk, Option.bind_some, List.append_nil, decide_true, decide_false, Int.toNat_zero, Int.le_refl, beq_self_eq_true, boundsA, boundA, Int.toNat_natCast, Int.natCast_one, c1, r2, AHeap.get_set, AHeap.get_bump] <;> rfl), rfl, ?_⟩
              try dsimp only
              repeat (first | exact Keep.refl _ | exact k1 | (with_reducible apply Keep.bump) | (with_reducible apply Keep.alloc) | ((with_reducible apply Keep.set); (first | exact Nat.le_refl _ | (have := Keep.next k1; omega)); ((try simp only [AHeap.next_alloc, AHeap.next_bump, AHeap.next_set]); have := Keep.next k1; omega)))

            | false => cases b4 with
              | false => 
                repeat (first
                  | ((first | ((with_reducible apply wpOps_valT); (first | exact rfl | (apply wantedGT; exact rfl; exact rfl; exact rfl; (simp only [T.get_set, Nat.reduceEqDiff, ↓reduceIte, evA, r2, r4, r6] <;> rfl))); exact rfl) | ((with_reducible apply wpOps_storeN); (first | exact rfl | (apply wantedGT; exact rfl; exact rfl; exact rfl; (simp only [T.get_set, Nat.reduceEqDiff, ↓reduceIte, evA, r2, r4, r6] <;> rfl))); exact rfl) | ((with_reducible apply dw_pureT); (first | exact rfl | (apply wantedGT; exact rfl; exact rfl; exact rfl; (simp only [T.get_set, Nat.reduceEqDiff, ↓reduceIte, evA, r2, r4, r6] <;> rfl))); exact rfl; exact rfl) | ((with_reducible apply dw_readT); (first | exact rfl | (apply wantedGT; exact rfl; exact rfl; exact rfl; (simp only [T.get_set, Nat.reduceEqDiff, ↓reduceIte, evA, r2, r4, r6] <;> rfl))); exact rfl; exact rfl)); (simp only [List.getElem?_toArray, List.toList_toArray, bin_eql, bin_neq, bin_lss, bin_leq, bin_gtr, bin_geq, bin_add, bin_sub, bin_mul, un_not, unA, AHeap.get_bump, AHeap.next_bump, opK0, kMove, kPick, kAlloc, kBox, kBuild, kBuildSlice, kLoad, kStore, kNilCheck, kBinOp, kUnOp, kFieldAddr, kField, kIndexAddr, kIndex, kLookup, kMapUpdate, kMakeMap, kExtract, kSlice, kCall, lenA, evA, evAs, evParts, toAV, toAV0, toAVs, T.get_set, T.get_nil, Nat.reduceAdd, Nat.reduceMul, Nat.reduceEqDiff, Nat.zero_add, Nat.add_zero, Nat.mul_one, Nat.zero_mul, AV.cells, List.all_cons, List.all_nil, AV.scalar, Bool.and_true, Bool.true_and, ↓reduceIte, if_true, und_all, Tryd.underlying3, Tryd.underlying4, Tryd.underlying5, Tryd.underlying9, Tryd.underlying23, Tryd.underlying24, Tryd.underlying31, Tryd.underlying38, Tryd.underlying39, Tryd.underlying40, Tryd.underlying41, Tryd.underlying42, Tryd.underlying45, Tryd.underlying46, Tryd.underlying48, Tryd.underlying50, Tryd.underlying55, Tryd.underlying57, Tryd.underlying67, siz3, agg3, zer3, byt3, siz4, agg4, zer4, byt4, siz5, agg5, zer5, byt5, siz9, agg9, zer9, byt9, siz23, agg23, zer23, byt23, siz24, agg24, zer24, byt24, siz31, agg31, zer31, byt31, siz38, agg38, zer38, byt38, siz39, agg39, zer39, byt39, siz40, agg40, zer40, byt40, siz41, agg41, zer41, byt41, siz42, agg42, zer42, byt42, siz45, agg45, zer45, byt45, siz46, agg46, zer46, byt46, siz48, agg48, zer48, byt48, siz50, agg50, zer50, byt50, siz55, agg55, zer55, byt55, siz57, agg57, zer57, byt57, siz67, agg67, zer67, byt67, AHeap.get_alloc, AHeap.get_set, AHeap.next_alloc, AHeap.next_set, AHeap.loadCells, AHeap.load1, AHeap.storeCells, List.getElem?_cons_zero, List.getElem?_cons_succ, List.length_cons, List.length_nil, List.drop_zero, List.take_succ_cons, List.take_zero, List.drop_succ_cons, List.drop_nil, List.take_nil, List.append_nil, List.cons_append, List.nil_append, binA, isConstO, keyOk, ents_some, Bool.or_true, Bool.or_false, Bool.true_or, Bool.false_or, wantedA, dstOk, Option.bind_some, List.append_nil, decide_true, decide_false, Int.toNat_zero, Int.le_refl, beq_self_eq_true, boundsA, boundA, Int.toNat_natCast, Int.natCast_one, c1, w1, g1, g2, g3, g4, g5, r2, r4, r6] <;> rfl))
                  | ((with_reducible apply wpOps_skipT); (first | exact rfl | (apply wantedGF; exact rfl; exact rfl; exact rfl; (simp only [T.get_set, Nat.reduceEqDiff, ↓reduceIte, evA, r2, r4, r6] <;> rfl)) | (apply wantedZ; exact rfl; exact rfl; exact rfl; (simp only [T.get_set, Nat.reduceEqDiff, ↓reduceIte, evA, r2, r4, r6] <;> rfl))); exact rfl)
                  | ((with_reducible apply wpOps_skipN); (first | exact rfl | (apply wantedGF; exact rfl; exact rfl; exact rfl; (simp only [T.get_set, Nat.reduceEqDiff, ↓reduceIte, evA, r2, r4, r6] <;> rfl)) | (apply wantedZ; exact rfl; exact rfl; exact rfl; (simp only [T.get_set, Nat.reduceEqDiff, ↓reduceIte, evA, r2, r4, r6] <;> rfl))); exact rfl)
                  | ((with_reducible apply dw_skipT); (first | exact rfl | (apply wantedGF; exact rfl; exact rfl; exact rfl; (simp only [T.get_set, Nat.reduceEqDiff, ↓reduceIte, evA, r2, r4, r6] <;> rfl)) | (apply wantedZ; exact rfl; exact rfl; exact rfl; (simp only [T.get_set, Nat.reduceEqDiff, ↓reduceIte, evA, r2, r4, r6] <;> rfl))); exact rfl)
                  | (with_reducible apply aw_seq)
                  | (with_reducible apply aw_regionL)
                  | (with_reducible apply aw_block)
                  | (with_reducible apply aw_scope)
                  | (with_reducible apply aw_nil)
                  | (with_reducible apply aw_then)
                  | (with_reducible apply aw_thenR)
                  | (with_reducible apply aw_thenE)
                  | (with_reducible apply aw_blockR)
                  | (with_reducible apply aw_blockN)
                  | (with_reducible apply aw_blockE)
                  | (with_reducible apply aw_ret)
                  | (with_reducible apply aw_exit)
                  | (with_reducible apply aw_skip)
                  | ((with_reducible apply aw_condT); (first | exact rfl | (simp only [T.get_set, Nat.reduceEqDiff, ↓reduceIte, evA, r2, r4, r6] <;> rfl)))
                  | ((with_reducible apply aw_condF); (first | exact rfl | (simp only [T.get_set, Nat.reduceEqDiff, ↓reduceIte, evA, r2, r4, r6] <;> rfl)))
                  | ((with_reducible apply aw_drawL); (simp only [List.zipIdx_cons, List.zipIdx_nil, Nat.zero_add, Nat.reduceAdd] <;> rfl); kernel_rfl; kernel_rfl)
                  | (with_reducible apply dw_nil)
                  | fail)
                refine ⟨rfl, _, (by simp only [res17, resultsA, resultA, List.getElem?_toArray, List.toList_toArray, bin_eql, bin_neq, bin_lss, bin_leq, bin_gtr, bin_geq, bin_add, bin_sub, bin_mul, un_not, unA, AHeap.get_bump, AHeap.next_bump, opK0, kMove, kPick, kAlloc, kBox, kBuild, kBuildSlice, kLoad, kStore, kNilCheck, kBinOp, kUnOp, kFieldAddr, kField, kIndexAddr, kIndex, kLookup, kMapUpdate, kMakeMap, kExtract, kSlice, kCall, lenA, evA, evAs, evParts, toAV, toAV0, toAVs, T.get_set, T.get_nil, Nat.reduceAdd, Nat.reduceMul, Nat.reduceEqDiff, Nat.zero_add, Nat.add_zero, Nat.mul_one, Nat.zero_mul, AV.cells, List.all_cons, List.all_nil, AV.scalar, Bool.and_true, Bool.true_and, ↓reduceIte, if_true, und_all, Tryd.underlying3, Tryd.underlying4, Tryd.underlying5, Tryd.underlying9, Tryd.underlying23, Tryd.underlying24, Tryd.underlying31, Tryd.underlying38, Tryd.underlying39, Tryd.underlying40, Tryd.underlying41, Tryd.underlying42, Tryd.underlying45, Tryd.underlying46, Tryd.underlying48, Tryd.underlying50, Tryd.underlying55, Tryd.underlying57, Tryd.underlying67, siz3, agg3, zer3, byt3, siz4, agg4, zer4, byt4, siz5, agg5, zer5, byt5, siz9, agg9, zer9, byt9, siz23, agg23, zer23, byt23, siz24, agg24, zer24, byt24, siz31, agg31, zer31, byt31, siz38, agg38, zer38, byt38, siz39, agg39, zer39, byt39, siz40, agg40, zer40, byt40, siz41, agg41, zer41, byt41, siz42, agg42, zer42, byt42, siz45, agg45, zer45, byt45, siz46, agg46, zer46, byt46, siz48, agg48, zer48, byt48, siz50, agg50, zer50, byt50, siz55, agg55, zer55, byt55, siz57, agg57, zer57, byt57, siz67, agg67, zer67, byt67, AHeap.get_alloc, AHeap.get_set, AHeap.next_alloc, AHeap.next_set, AHeap.loadCells, AHeap.load1, AHeap.storeCells, List.getElem?_cons_zero, List.getElem?_cons_succ, List.length_cons, List.length_nil, List.drop_zero, List.take_succ_cons, List.take_zero, List.drop_succ_cons, List.drop_nil, List.take_nil, List.append_nil, List.cons_append, List.nil_append, binA, isConstO, keyOk, ents_some, Bool.or_true, Bool.or_false, Bool.true_or, Bool.false_or, wantedA, dstOk, Option.bind_some, List.append_nil, decide_true, decide_false, Int.toNat_zero, Int.le_refl, beq_self_eq_true, boundsA, boundA, Int.toNat_natCast, Int.natCast_one, c1, r2, AHeap.get_set, AHeap.get_bump] <;> rfl), rfl, ?_⟩
                try dsimp only
                repeat (first | exact Keep.refl _ | exact k1 | (with_reducible apply Keep.bump) | (with_reducible apply Keep.alloc) | ((with_reducible apply Keep.set); (first | exact Nat.le_refl _ | (have := Keep.next k1; omega)); ((try simp only [AHeap.next_alloc, AHeap.next_bump, AHeap.next_set]); have := Keep.next k1; omega)))

              | true => cases b5 with
                | true => 
                  repeat (first
                    | ((first | ((with_reducible apply wpOps_valT); (first | exact rfl | (apply wantedGT; exact rfl; exact rfl; exact rfl; (simp only [T.get_set, Nat.reduceEqDiff, ↓reduceIte, evA, r2, r4, r6] <;> rfl))); exact rfl) | ((with_reducible apply wpOps_storeN); (first | exact rfl | (apply wantedGT; exact rfl; exact rfl; exact rfl; (simp only [T.get_set, Nat.reduceEqDiff, ↓reduceIte, evA, r2, r4, r6] <;> rfl))); exact rfl) | ((with_reducible apply dw_pureT); (first | exact rfl | (apply wantedGT; exact rfl; exact rfl; exact rfl; (simp only [T.get_set, Nat.reduceEqDiff, ↓reduceIte, evA, r2, r4, r6] <;> rfl))); exact rfl; exact rfl) | ((with_reducible apply dw_readT); (first | exact rfl | (apply wantedGT; exact rfl; exact rfl; exact rfl; (simp only [T.get_set, Nat.reduceEqDiff, ↓reduceIte, evA, r2, r4, r6] <;> rfl))); exact rfl; exact rfl)); (simp only [List.getElem?_toArray, List.toList_toArray, bin_eql, bin_neq, bin_lss, bin_leq, bin_gtr, bin_geq, bin_add, bin_sub, bin_mul, un_not, unA, AHeap.get_bump, AHeap.next_bump, opK0, kMove, kPick, kAlloc, kBox, kBuild, kBuildSlice, kLoad, kStore, kNilCheck, kBinOp, kUnOp, kFieldAddr, kField, kIndexAddr, kIndex, kLookup, kMapUpdate, kMakeMap, kExtract, kSlice, kCall, lenA, evA, evAs, evParts, toAV, toAV0, toAVs, T.get_set, T.get_nil, Nat.reduceAdd, Nat.reduceMul, Nat.reduceEqDiff, Nat.zero_add, Nat.add_zero, Nat.mul_one, Nat.zero_mul, AV.cells, List.all_cons, List.all_nil, AV.scalar, Bool.and_true, Bool.true_and, ↓reduceIte, if_true, und_all, Tryd.underlying3, Tryd.underlying4, Tryd.underlying5, Tryd.underlying9, Tryd.underlying23, Tryd.underlying24, Tryd.underlying31, Tryd.underlying38, Tryd.underlying39, Tryd.underlying40, Tryd.underlying41, Tryd.underlying42, Tryd.underlying45, Tryd.underlying46, Tryd.underlying48, Tryd.underlying50, Tryd.underlying55, Tryd.underlying57, Tryd.underlying67, siz3, agg3, zer3, byt3, siz4, agg4, zer4, byt4, siz5, agg5, zer5, byt5, siz9, agg9, zer9, byt9, siz23, agg23, zer23, byt23, siz24, agg24, zer24, byt24, siz31, agg31, zer31, byt31, siz38, agg38, zer38, byt38, siz39, agg39, zer39, byt39, siz40, agg40, zer40, byt40, siz41, agg41, zer41, byt41, siz42, agg42, zer42, byt42, siz45, agg45, zer45, byt45, siz46, agg46, zer46, byt46, siz48, agg48, zer48, byt48, siz50, agg50, zer50, byt50, siz55, agg55, zer55, byt55, siz57, agg57, zer57, byt57, siz67, agg67, zer67, byt67, AHeap.get_alloc, AHeap.get_set, AHeap.next_alloc, AHeap.next_set, AHeap.loadCells, AHeap.load1, AHeap.storeCells, List.getElem?_cons_zero, List.getElem?_cons_succ, List.length_cons, List.length_nil, List.drop_zero, List.take_succ_cons, List.take_zero, List.drop_succ_cons, List.drop_nil, List.take_nil, List.append_nil, List.cons_append, List.nil_append, binA, isConstO, keyOk, ents_some, Bool.or_true, Bool.or_false, Bool.true_or, Bool.false_or, wantedA, dstOk, Option.bind_some, List.append_nil, decide_true, decide_false, Int.toNat_zero, Int.le_refl, beq_self_eq_true, boundsA, boundA, Int.toNat_natCast, Int.natCast_one, c1, w1, g1, g2, g3, g4, g5, r2, r4, r6] <;> rfl))
                    | ((with_reducible apply wpOps_skipT); (first | exact rfl | (apply wantedGF; exact rfl; exact rfl; exact rfl; (simp only [T.get_set, Nat.reduceEqDiff, ↓reduceIte, evA, r2, r4, r6] <;> rfl)) | (apply wantedZ; exact rfl; exact rfl; exact rfl; (simp only [T.get_set, Nat.reduceEqDiff, ↓reduceIte, evA, r2, r4, r6] <;> rfl))); exact rfl)
                    | ((with_reducible apply wpOps_skipN); (first | exact rfl | (apply wantedGF; exact rfl; exact rfl; exact rfl; (simp only [T.get_set, Nat.reduceEqDiff, ↓reduceIte, evA, r2, r4, r6] <;> rfl)) | (apply wantedZ; exact rfl; exact rfl; exact rfl; (simp only [T.get_set, Nat.reduceEqDiff, ↓reduceIte, evA, r2, r4, r6] <;> rfl))); exact rfl)
                    | ((with_reducible apply dw_skipT); (first | exact rfl | (apply wantedGF; exact rfl; exact rfl; exact rfl; (simp only [T.get_set, Nat.reduceEqDiff, ↓reduceIte, evA, r2, r4, r6] <;> rfl)) | (apply wantedZ; exact rfl; exact rfl; exact rfl; (simp only [T.get_set, Nat.reduceEqDiff, ↓reduceIte, evA, r2, r4, r6] <;> rfl))); exact rfl)
                    | (with_reducible apply aw_seq)
                    | (with_reducible apply aw_regionL)
                    | (with_reducible apply aw_block)
                    | (with_reducible apply aw_scope)
                    | (with_reducible apply aw_nil)
                    | (with_reducible apply aw_then)
                    | (with_reducible apply aw_thenR)
                    | (with_reducible apply aw_thenE)
                    | (with_reducible apply aw_blockR)
                    | (with_reducible apply aw_blockN)
                    | (with_reducible apply aw_blockE)
                    | (with_reducible apply aw_ret)
                    | (with_reducible apply aw_exit)
                    | (with_reducible apply aw_skip)
                    | ((with_reducible apply aw_condT); (first | exact rfl | (simp only [T.get_set, Nat.reduceEqDiff, ↓reduceIte, evA, r2, r4, r6] <;> rfl)))
                    | ((with_reducible apply aw_condF); (first | exact rfl | (simp only [T.get_set, Nat.reduceEqDiff, ↓reduceIte, evA, r2, r4, r6] <;> rfl)))
                    | ((with_reducible apply aw_drawL); (simp only [List.zipIdx_cons, List.zipIdx_nil, Nat.zero_add, Nat.reduceAdd] <;> rfl); kernel_rfl; kernel_rfl)
                    | (with_reducible apply dw_nil)
                    | fail)
                  refine ⟨rfl, _, (by simp only [res17, resultsA, resultA, List.getElem?_toArray, List.toList_toArray, bin_eql, bin_neq, bin_lss, bin_leq, bin_gtr, bin_geq, bin_add, bin_sub, bin_mul, un_not, unA, AHeap.get_bump, AHeap.next_bump, opK0, kMove, kPick, kAlloc, kBox, kBuild, kBuildSlice, kLoad, kStore, kNilCheck, kBinOp, kUnOp, kFieldAddr, kField, kIndexAddr, kIndex, kLookup, kMapUpdate, kMakeMap, kExtract, kSlice, kCall, lenA, evA, evAs, evParts, toAV, toAV0, toAVs, T.get_set, T.get_nil, Nat.reduceAdd, Nat.reduceMul, Nat.reduceEqDiff, Nat.zero_add, Nat.add_zero, Nat.mul_one, Nat.zero_mul, AV.cells, List.all_cons, List.all_nil, AV.scalar, Bool.and_true, Bool.true_and, ↓reduceIte, if_true, und_all, Tryd.underlying3, Tryd.underlying4, Tryd.underlying5, Tryd.underlying9, Tryd.underlying23, Tryd.underlying24, Tryd.underlying31, Tryd.underlying38, Tryd.underlying39, Tryd.underlying40, Tryd.underlying41, Tryd.underlying42, Tryd.underlying45, Tryd.underlying46, Tryd.underlying48, Tryd.underlying50, Tryd.underlying55, Tryd.underlying57, Tryd.underlying67, siz3, agg3, zer3, byt3, siz4, agg4, zer4, byt4, siz5, agg5, zer5, byt5, siz9, agg9, zer9, byt9, siz23, agg23, zer23, byt23, siz24, agg24, zer24, byt24, siz31, agg31, zer31, byt31, siz38, agg38, zer38, byt38, siz39, agg39, zer39, byt39, siz40, agg40, zer40, byt40, siz41, agg41, zer41, byt41, siz42, agg42, zer42, byt42, siz45, agg45, zer45, byt45, siz46, agg46, zer46, byt46, siz48, agg48, zer48, byt48, siz50, agg50, zer50, byt50, siz55, agg55, zer55, byt55, siz57, agg57, zer57, byt57, siz67, agg67, zer67, byt67, AHeap.get_alloc, AHeap.get_set, AHeap.next_alloc, AHeap.next_set, AHeap.loadCells, AHeap.load1, AHeap.storeCells, List.getElem?_cons_zero, List.getElem?_cons_succ, List.length_cons, List.length_nil, List.drop_zero, List.take_succ_cons, List.take_zero, List.drop_succ_cons, List.drop_nil, List.take_nil, List.append_nil, List.cons_append, List.nil_append, binA, isConstO, keyOk, ents_some, Bool.or_true, Bool.or_false, Bool.true_or, Bool.false_or, wantedA, dstOk, Option.bind_some, List.append_nil, decide_true, decide_false, Int.toNat_zero, Int.le_refl, beq_self_eq_true, boundsA, boundA, Int.toNat_natCast, Int.natCast_one, c1, r2, AHeap.get_set, AHeap.get_bump] <;> rfl), rfl, ?_⟩
                  try dsimp only
                  repeat (first | exact Keep.refl _ | exact k1 | (with_reducible apply Keep.bump) | (with_reducible apply Keep.alloc) | ((with_reducible apply Keep.set); (first | exact Nat.le_refl _ | (have := Keep.next k1; omega)); ((try simp only [AHeap.next_alloc, AHeap.next_bump, AHeap.next_set]); have := Keep.next k1; omega)))

                | false => cases a with
                  | true => 
                    repeat (first
                      | ((first | ((with_reducible apply wpOps_valT); (first | exact rfl | (apply wantedGT; exact rfl; exact rfl; exact rfl; (simp only [T.get_set, Nat.reduceEqDiff, ↓reduceIte, evA, r2, r4, r6] <;> rfl))); exact rfl) | ((with_reducible apply wpOps_storeN); (first | exact rfl | (apply wantedGT; exact rfl; exact rfl; exact rfl; (simp only [T.get_set, Nat.reduceEqDiff, ↓reduceIte, evA, r2, r4, r6] <;> rfl))); exact rfl) | ((with_reducible apply dw_pureT); (first | exact rfl | (apply wantedGT; exact rfl; exact rfl; exact rfl; (simp only [T.get_set, Nat.reduceEqDiff, ↓reduceIte, evA, r2, r4, r6] <;> rfl))); exact rfl; exact rfl) | ((with_reducible apply dw_readT); (first | exact rfl | (apply wantedGT; exact rfl; exact rfl; exact rfl; (simp only [T.get_set, Nat.reduceEqDiff, ↓reduceIte, evA, r2, r4, r6] <;> rfl))); exact rfl; exact rfl)); (simp only [List.getElem?_toArray, List.toList_toArray, bin_eql, bin_neq, bin_lss, bin_leq, bin_gtr, bin_geq, bin_add, bin_sub, bin_mul, un_not, unA, AHeap.get_bump, AHeap.next_bump, opK0, kMove, kPick, kAlloc, kBox, kBuild, kBuildSlice, kLoad, kStore, kNilCheck, kBinOp, kUnOp, kFieldAddr, kField, kIndexAddr, kIndex, kLookup, kMapUpdate, kMakeMap, kExtract, kSlice, kCall, lenA, evA, evAs, evParts, toAV, toAV0, toAVs, T.get_set, T.get_nil, Nat.reduceAdd, Nat.reduceMul, Nat.reduceEqDiff, Nat.zero_add, Nat.add_zero, Nat.mul_one, Nat.zero_mul, AV.cells, List.all_cons, List.all_nil, AV.scalar, Bool.and_true, Bool.true_and, ↓reduceIte, if_true, und_all, Tryd.underlying3, Tryd.underlying4, Tryd.underlying5, Tryd.underlying9, Tryd.underlying23, Tryd.underlying24, Tryd.underlying31, Tryd.underlying38, Tryd.underlying39, Tryd.underlying40, Tryd.underlying41, Tryd.underlying42, Tryd.underlying45, Tryd.underlying46, Tryd.underlying48, Tryd.underlying50, Tryd.underlying55, Tryd.underlying57, Tryd.underlying67, siz3, agg3, zer3, byt3, siz4, agg4, zer4, byt4, siz5, agg5, zer5, byt5, siz9, agg9, zer9, byt9, siz23, agg23, zer23, byt23, siz24, agg24, zer24, byt24, siz31, agg31, zer31, byt31, siz38, agg38, zer38, byt38, siz39, agg39, zer39, byt39, siz40, agg40, zer40, byt40, siz41, agg41, zer41, byt41, siz42, agg42, zer42, byt42, siz45, agg45, zer45, byt45, siz46, agg46, zer46, byt46, siz48, agg48, zer48, byt48, siz50, agg50, zer50, byt50, siz55, agg55, zer55, byt55, siz57, agg57, zer57, byt57, siz67, agg67, zer67, byt67, AHeap.get_alloc, AHeap.get_set, AHeap.next_alloc, AHeap.next_set, AHeap.loadCells, AHeap.load1, AHeap.storeCells, List.getElem?_cons_zero, List.getElem?_cons_succ, List.length_cons, List.length_nil, List.drop_zero, List.take_succ_cons, List.take_zero, List.drop_succ_cons, List.drop_nil, List.take_nil, List.append_nil, List.cons_append, List.nil_append, binA, isConstO, keyOk, ents_some, Bool.or_true, Bool.or_false, Bool.true_or, Bool.false_or, wantedA, dstOk, Option.bind_some, List.append_nil, decide_true, decide_false, Int.toNat_zero, Int.le_refl, beq_self_eq_true, boundsA, boundA, Int.toNat_natCast, Int.natCast_one, c1, w1, g1, g2, g3, g4, g5, r2, r4, r6] <;> rfl))
                      | ((with_reducible apply wpOps_skipT); (first | exact rfl | (apply wantedGF; exact rfl; exact rfl; exact rfl; (simp only [T.get_set, Nat.reduceEqDiff, ↓reduceIte, evA, r2, r4, r6] <;> rfl)) | (apply wantedZ; exact rfl; exact rfl; exact rfl; (simp only [T.get_set, Nat.reduceEqDiff, ↓reduceIte, evA, r2, r4, r6] <;> rfl))); exact rfl)
                      | ((with_reducible apply wpOps_skipN); (first | exact rfl | (apply wantedGF; exact rfl; exact rfl; exact rfl; (simp only [T.get_set, Nat.reduceEqDiff, ↓reduceIte, evA, r2, r4, r6] <;> rfl)) | (apply wantedZ; exact rfl; exact rfl; exact rfl; (simp only [T.get_set, Nat.reduceEqDiff, ↓reduceIte, evA, r2, r4, r6] <;> rfl))); exact rfl)
                      | ((with_reducible apply dw_skipT); (first | exact rfl | (apply wantedGF; exact rfl; exact rfl; exact rfl; (simp only [T.get_set, Nat.reduceEqDiff, ↓reduceIte, evA, r2, r4, r6] <;> rfl)) | (apply wantedZ; exact rfl; exact rfl; exact rfl; (simp only [T.get_set, Nat.reduceEqDiff, ↓reduceIte, evA, r2, r4, r6] <;> rfl))); exact rfl)
                      | (with_reducible apply aw_seq)
                      | (with_reducible apply aw_regionL)
                      | (with_reducible apply aw_block)
                      | (with_reducible apply aw_scope)
                      | (with_reducible apply aw_nil)
                      | (with_reducible apply aw_then)
                      | (with_reducible apply aw_thenR)
                      | (with_reducible apply aw_thenE)
                      | (with_reducible apply aw_blockR)
                      | (with_reducible apply aw_blockN)
                      | (with_reducible apply aw_blockE)
                      | (with_reducible apply aw_ret)
                      | (with_reducible apply aw_exit)
                      | (with_reducible apply aw_skip)
                      | ((with_reducible apply aw_condT); (first | exact rfl | (simp only [T.get_set, Nat.reduceEqDiff, ↓reduceIte, evA, r2, r4, r6] <;> rfl)))
                      | ((with_reducible apply aw_condF); (first | exact rfl | (simp only [T.get_set, Nat.reduceEqDiff, ↓reduceIte, evA, r2, r4, r6] <;> rfl)))
                      | ((with_reducible apply aw_drawL); (simp only [List.zipIdx_cons, List.zipIdx_nil, Nat.zero_add, Nat.reduceAdd] <;> rfl); kernel_rfl; kernel_rfl)
                      | (with_reducible apply dw_nil)
                      | fail)
                    refine ⟨rfl, _, (by simp only [res17, resultsA, resultA, List.getElem?_toArray, List.toList_toArray, bin_eql, bin_neq, bin_lss, bin_leq, bin_gtr, bin_geq, bin_add, bin_sub, bin_mul, un_not, unA, AHeap.get_bump, AHeap.next_bump, opK0, kMove, kPick, kAlloc, kBox, kBuild, kBuildSlice, kLoad, kStore, kNilCheck, kBinOp, kUnOp, kFieldAddr, kField, kIndexAddr, kIndex, kLookup, kMapUpdate, kMakeMap, kExtract, kSlice, kCall, lenA, evA, evAs, evParts, toAV, toAV0, toAVs, T.get_set, T.get_nil, Nat.reduceAdd, Nat.reduceMul, Nat.reduceEqDiff, Nat.zero_add, Nat.add_zero, Nat.mul_one, Nat.zero_mul, AV.cells, List.all_cons, List.all_nil, AV.scalar, Bool.and_true, Bool.true_and, ↓reduceIte, if_true, und_all, Tryd.underlying3, Tryd.underlying4, Tryd.underlying5, Tryd.underlying9, Tryd.underlying23, Tryd.underlying24, Tryd.underlying31, Tryd.underlying38, Tryd.underlying39, Tryd.underlying40, Tryd.underlying41, Tryd.underlying42, Tryd.underlying45, Tryd.underlying46, Tryd.underlying48, Tryd.underlying50, Tryd.underlying55, Tryd.underlying57, Tryd.underlying67, siz3, agg3, zer3, byt3, siz4, agg4, zer4, byt4, siz5, agg5, zer5, byt5, siz9, agg9, zer9, byt9, siz23, agg23, zer23, byt23, siz24, agg24, zer24, byt24, siz31, agg31, zer31, byt31, siz38, agg38, zer38, byt38, siz39, agg39, zer39, byt39, siz40, agg40, zer40, byt40, siz41, agg41, zer41, byt41, siz42, agg42, zer42, byt42, siz45, agg45, zer45, byt45, siz46, agg46, zer46, byt46, siz48, agg48, zer48, byt48, siz50, agg50, zer50, byt50, siz55, agg55, zer55, byt55, siz57, agg57, zer57, byt57, siz67, agg67, zer67, byt67, AHeap.get_alloc, AHeap.get_set, AHeap.next_alloc, AHeap.next_set, AHeap.loadCells, AHeap.load1, AHeap.storeCells, List.getElem?_cons_zero, List.getElem?_cons_succ, List.length_cons, List.length_nil, List.drop_zero, List.take_succ_cons, List.take_zero, List.drop_succ_cons, List.drop_nil, List.take_nil, List.append_nil, List.cons_append, List.nil_append, binA, isConstO, keyOk, ents_some, Bool.or_true, Bool.or_false, Bool.true_or, Bool.false_or, wantedA, dstOk, Option.bind_some, List.append_nil, decide_true, decide_false, Int.toNat_zero, Int.le_refl, beq_self_eq_true, boundsA, boundA, Int.toNat_natCast, Int.natCast_one, c1, r2, AHeap.get_set, AHeap.get_bump] <;> rfl), rfl, ?_⟩
                    try dsimp only
                    repeat (first | exact Keep.refl _ | exact k1 | (with_reducible apply Keep.bump) | (with_reducible apply Keep.alloc) | ((with_reducible apply Keep.set); (first | exact Nat.le_refl _ | (have := Keep.next k1; omega)); ((try simp only [AHeap.next_alloc, AHeap.next_bump, AHeap.next_set]); have := Keep.next k1; omega)))

                  | false => 
                    repeat (first
                      | ((first | ((with_reducible apply wpOps_valT); (first | exact rfl | (apply wantedGT; exact rfl; exact rfl; exact rfl; (simp only [T.get_set, Nat.reduceEqDiff, ↓reduceIte, evA, r2, r4, r6] <;> rfl))); exact rfl) | ((with_reducible apply wpOps_storeN); (first | exact rfl | (apply wantedGT; exact rfl; exact rfl; exact rfl; (simp only [T.get_set, Nat.reduceEqDiff, ↓reduceIte, evA, r2, r4, r6] <;> rfl))); exact rfl) | ((with_reducible apply dw_pureT); (first | exact rfl | (apply wantedGT; exact rfl; exact rfl; exact rfl; (simp only [T.get_set, Nat.reduceEqDiff, ↓reduceIte, evA, r2, r4, r6] <;> rfl))); exact rfl; exact rfl) | ((with_reducible apply dw_readT); (first | exact rfl | (apply wantedGT; exact rfl; exact rfl; exact rfl; (simp only [T.get_set, Nat.reduceEqDiff, ↓reduceIte, evA, r2, r4, r6] <;> rfl))); exact rfl; exact rfl)); (simp only [List.getElem?_toArray, List.toList_toArray, bin_eql, bin_neq, bin_lss, bin_leq, bin_gtr, bin_geq, bin_add, bin_sub, bin_mul, un_not, unA, AHeap.get_bump, AHeap.next_bump, opK0, kMove, kPick, kAlloc, kBox, kBuild, kBuildSlice, kLoad, kStore, kNilCheck, kBinOp, kUnOp, kFieldAddr, kField, kIndexAddr, kIndex, kLookup, kMapUpdate, kMakeMap, kExtract, kSlice, kCall, lenA, evA, evAs, evParts, toAV, toAV0, toAVs, T.get_set, T.get_nil, Nat.reduceAdd, Nat.reduceMul, Nat.reduceEqDiff, Nat.zero_add, Nat.add_zero, Nat.mul_one, Nat.zero_mul, AV.cells, List.all_cons, List.all_nil, AV.scalar, Bool.and_true, Bool.true_and, ↓reduceIte, if_true, und_all, Tryd.underlying3, Tryd.underlying4, Tryd.underlying5, Tryd.underlying9, Tryd.underlying23, Tryd.underlying24, Tryd.underlying31, Tryd.underlying38, Tryd.underlying39, Tryd.underlying40, Tryd.underlying41, Tryd.underlying42, Tryd.underlying45, Tryd.underlying46, Tryd.underlying48, Tryd.underlying50, Tryd.underlying55, Tryd.underlying57, Tryd.underlying67, siz3, agg3, zer3, byt3, siz4, agg4, zer4, byt4, siz5, agg5, zer5, byt5, siz9, agg9, zer9, byt9, siz23, agg23, zer23, byt23, siz24, agg24, zer24, byt24, siz31, agg31, zer31, byt31, siz38, agg38, zer38, byt38, siz39, agg39, zer39, byt39, siz40, agg40, zer40, byt40, siz41, agg41, zer41, byt41, siz42, agg42, zer42, byt42, siz45, agg45, zer45, byt45, siz46, agg46, zer46, byt46, siz48, agg48, zer48, byt48, siz50, agg50, zer50, byt50, siz55, agg55, zer55, byt55, siz57, agg57, zer57, byt57, siz67, agg67, zer67, byt67, AHeap.get_alloc, AHeap.get_set, AHeap.next_alloc, AHeap.next_set, AHeap.loadCells, AHeap.load1, AHeap.storeCells, List.getElem?_cons_zero, List.getElem?_cons_succ, List.length_cons, List.length_nil, List.drop_zero, List.take_succ_cons, List.take_zero, List.drop_succ_cons, List.drop_nil, List.take_nil, List.append_nil, List.cons_append, List.nil_append, binA, isConstO, keyOk, ents_some, Bool.or_true, Bool.or_false, Bool.true_or, Bool.false_or, wantedA, dstOk, Option.bind_some, List.append_nil, decide_true, decide_false, Int.toNat_zero, Int.le_refl, beq_self_eq_true, boundsA, boundA, Int.toNat_natCast, Int.natCast_one, c1, w1, g1, g2, g3, g4, g5, r2, r4, r6] <;> rfl))
                      | ((with_reducible apply wpOps_skipT); (first | exact rfl | (apply wantedGF; exact rfl; exact rfl; exact rfl; (simp only [T.get_set, Nat.reduceEqDiff, ↓reduceIte, evA, r2, r4, r6] <;> rfl)) | (apply wantedZ; exact rfl; exact rfl; exact rfl; (simp only [T.get_set, Nat.reduceEqDiff, ↓reduceIte, evA, r2, r4, r6] <;> rfl))); exact rfl)
                      | ((with_reducible apply wpOps_skipN); (first | exact rfl | (apply wantedGF; exact rfl; exact rfl; exact rfl; (simp only [T.get_set, Nat.reduceEqDiff, ↓reduceIte, evA, r2, r4, r6] <;> rfl)) | (apply wantedZ; exact rfl; exact rfl; exact rfl; (simp only [T.get_set, Nat.reduceEqDiff, ↓reduceIte, evA, r2, r4, r6] <;> rfl))); exact rfl)
                      | ((with_reducible apply dw_skipT); (first | exact rfl | (apply wantedGF; exact rfl; exact rfl; exact rfl; (simp only [T.get_set, Nat.reduceEqDiff, ↓reduceIte, evA, r2, r4, r6] <;> rfl)) | (apply wantedZ; exact rfl; exact rfl; exact rfl; (simp only [T.get_set, Nat.reduceEqDiff, ↓reduceIte, evA, r2, r4, r6] <;> rfl))); exact rfl)
                      | (with_reducible apply aw_seq)
                      | (with_reducible apply aw_regionL)
                      | (with_reducible apply aw_block)
                      | (with_reducible apply aw_scope)
                      | (with_reducible apply aw_nil)
                      | (with_reducible apply aw_then)
                      | (with_reducible apply aw_thenR)
                      | (with_reducible apply aw_thenE)
                      | (with_reducible apply aw_blockR)
                      | (with_reducible apply aw_blockN)
                      | (with_reducible apply aw_blockE)
                      | (with_reducible apply aw_ret)
                      | (with_reducible apply aw_exit)
                      | (with_reducible apply aw_skip)
                      | ((with_reducible apply aw_condT); (first | exact rfl | (simp only [T.get_set, Nat.reduceEqDiff, ↓reduceIte, evA, r2, r4, r6] <;> rfl)))
                      | ((with_reducible apply aw_condF); (first | exact rfl | (simp only [T.get_set, Nat.reduceEqDiff, ↓reduceIte, evA, r2, r4, r6] <;> rfl)))
                      | ((with_reducible apply aw_drawL); (simp only [List.zipIdx_cons, List.zipIdx_nil, Nat.zero_add, Nat.reduceAdd] <;> rfl); kernel_rfl; kernel_rfl)
                      | (with_reducible apply dw_nil)
                      | fail)
                    refine ⟨rfl, _, (by simp only [res17, resultsA, resultA, List.getElem?_toArray, List.toList_toArray, bin_eql, bin_neq, bin_lss, bin_leq, bin_gtr, bin_geq, bin_add, bin_sub, bin_mul, un_not, unA, AHeap.get_bump, AHeap.next_bump, opK0, kMove, kPick, kAlloc, kBox, kBuild, kBuildSlice, kLoad, kStore, kNilCheck, kBinOp, kUnOp, kFieldAddr, kField, kIndexAddr, kIndex, kLookup, kMapUpdate, kMakeMap, kExtract, kSlice, kCall, lenA, evA, evAs, evParts, toAV, toAV0, toAVs, T.get_set, T.get_nil, Nat.reduceAdd, Nat.reduceMul, Nat.reduceEqDiff, Nat.zero_add, Nat.add_zero, Nat.mul_one, Nat.zero_mul, AV.cells, List.all_cons, List.all_nil, AV.scalar, Bool.and_true, Bool.true_and, ↓reduceIte, if_true, und_all, Tryd.underlying3, Tryd.underlying4, Tryd.underlying5, Tryd.underlying9, Tryd.underlying23, Tryd.underlying24, Tryd.underlying31, Tryd.underlying38, Tryd.underlying39, Tryd.underlying40, Tryd.underlying41, Tryd.underlying42, Tryd.underlying45, Tryd.underlying46, Tryd.underlying48, Tryd.underlying50, Tryd.underlying55, Tryd.underlying57, Tryd.underlying67, siz3, agg3, zer3, byt3, siz4, agg4, zer4, byt4, siz5, agg5, zer5, byt5, siz9, agg9, zer9, byt9, siz23, agg23, zer23, byt23, siz24, agg24, zer24, byt24, siz31, agg31, zer31, byt31, siz38, agg38, zer38, byt38, siz39, agg39, zer39, byt39, siz40, agg40, zer40, byt40, siz41, agg41, zer41, byt41, siz42, agg42, zer42, byt42, siz45, agg45, zer45, byt45, siz46, agg46, zer46, byt46, siz48, agg48, zer48, byt48, siz50, agg50, zer50, byt50, siz55, agg55, zer55, byt55, siz57, agg57, zer57, byt57, siz67, agg67, zer67, byt67, AHeap.get_alloc, AHeap.get_set, AHeap.next_alloc, AHeap.next_set, AHeap.loadCells, AHeap.load1, AHeap.storeCells, List.getElem?_cons_zero, List.getElem?_cons_succ, List.length_cons, List.length_nil, List.drop_zero, List.take_succ_cons, List.take_zero, List.drop_succ_cons, List.drop_nil, List.take_nil, List.append_nil, List.cons_append, List.nil_append, binA, isConstO, keyOk, ents_some, Bool.or_true, Bool.or_false, Bool.true_or, Bool.false_or, wantedA, dstOk, Option.bind_some, List.append_nil, decide_true, decide_false, Int.toNat_zero, Int.le_refl, beq_self_eq_true, boundsA, boundA, Int.toNat_natCast, Int.natCast_one, c1, r2, AHeap.get_set, AHeap.get_bump] <;> rfl), rfl, ?_⟩
                    try dsimp only
                    repeat (first | exact Keep.refl _ | exact k1 | (with_reducible apply Keep.bump) | (with_reducible apply Keep.alloc) | ((with_reducible apply Keep.set); (first | exact Nat.le_refl _ | (have := Keep.next k1; omega)); ((try simp only [AHeap.next_alloc, AHeap.next_bump, AHeap.next_set]); have := Keep.next k1; omega)))

end Go.Proofs.YtkkhpibnbaepiaaDoor
