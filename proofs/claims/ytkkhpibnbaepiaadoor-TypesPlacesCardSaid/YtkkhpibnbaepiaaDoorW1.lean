/-
  Law 6 on the abstract machine: goodName and strings.Cut. Each theorem states its own conditions; there are no others.
-/
import Derived.Test.YtkkhpibnbaepiaaDoorEnvRun
set_option maxRecDepth 100000
set_option linter.unusedSimpArgs false
set_option linter.unusedVariables false
set_option maxHeartbeats 0
namespace Go.Proofs.YtkkhpibnbaepiaaDoor
open Go.Am
theorem ents_some (h : AHeap) (r : Nat) : h.ents (some r) = (match h.get r with | some (.map es) => some es | _ => none) := rfl

def letters : List UInt8 := [97, 98, 99, 100, 101, 102, 103, 104, 105, 106, 107, 108, 109, 110, 111, 112, 113, 114, 115, 116, 117, 118, 119, 120, 121, 122, 65, 66, 67, 68, 69, 70, 71, 72, 73, 74, 75, 76, 77, 78, 79, 80, 81, 82, 83, 84, 85, 86, 87, 88, 89, 90, 95]
def digits : List UInt8 := [48, 49, 50, 51, 52, 53, 54, 55, 56, 57]
theorem pr22 : env.prim 22 = some (valPrim ibF) := by unfold env; rfl
theorem pr23 : env.prim 23 = some (valPrim trimF) := by unfold env; rfl
theorem fn22 : env.fn 22 = some Tryd.f22 := by kernel_rfl
theorem fn23 : env.fn 23 = some Tryd.f23 := by kernel_rfl
/-- What goodName answers. -/
def gn : List UInt8 → Bool
  | [] => false
  | c :: s => decide (((s.length + 1 : Nat) : Int) ≤ 40) && (decide (0 ≤ Lib.indexByte letters c) && (Lib.trimS (c :: s) (letters ++ digits) == []))
theorem goodName_w (h : AHeap) (s : List UInt8) (hs : s.length ≤ 9223372036854775807) : WCall env 15 [.str s] h (fun out h' => out = .ret (.bool (gn s)) ∧ h' = h) := by
  cases s with
  | nil =>
    refine WCall.body pr15 fn15 rfl (Nat.le_of_ble_eq_true rfl) ?_
    simp only [argsA]
    repeat (first
      | ((first | ((with_reducible apply wpOps_valT); exact rfl; exact rfl) | ((with_reducible apply wpOps_storeN); exact rfl; exact rfl) | ((with_reducible apply dw_pureT); exact rfl; exact rfl; exact rfl) | ((with_reducible apply dw_readT); exact rfl; exact rfl; exact rfl)); (simp only [List.getElem?_toArray, List.toList_toArray, bin_eql, bin_neq, bin_lss, bin_leq, bin_gtr, bin_geq, bin_add, bin_sub, bin_mul, un_not, unA, AHeap.get_bump, AHeap.next_bump, opK0, kMove, kPick, kAlloc, kBox, kBuild, kBuildSlice, kLoad, kStore, kNilCheck, kBinOp, kUnOp, kFieldAddr, kField, kIndexAddr, kIndex, kLookup, kMapUpdate, kMakeMap, kExtract, kSlice, kCall, lenA, evA, evAs, evParts, toAV, toAV0, toAVs, T.get_set, T.get_nil, Nat.reduceAdd, Nat.reduceMul, Nat.reduceEqDiff, Nat.zero_add, Nat.add_zero, Nat.mul_one, Nat.zero_mul, AV.cells, List.all_cons, List.all_nil, AV.scalar, Bool.and_true, Bool.true_and, ↓reduceIte, if_true, und_all, Tryd.underlying3, Tryd.underlying4, Tryd.underlying5, Tryd.underlying9, Tryd.underlying23, Tryd.underlying24, Tryd.underlying31, Tryd.underlying38, Tryd.underlying39, Tryd.underlying40, Tryd.underlying41, Tryd.underlying42, Tryd.underlying45, Tryd.underlying46, Tryd.underlying48, Tryd.underlying50, Tryd.underlying55, Tryd.underlying57, Tryd.underlying67, siz3, agg3, zer3, byt3, siz4, agg4, zer4, byt4, siz5, agg5, zer5, byt5, siz9, agg9, zer9, byt9, siz23, agg23, zer23, byt23, siz24, agg24, zer24, byt24, siz31, agg31, zer31, byt31, siz38, agg38, zer38, byt38, siz39, agg39, zer39, byt39, siz40, agg40, zer40, byt40, siz41, agg41, zer41, byt41, siz42, agg42, zer42, byt42, siz45, agg45, zer45, byt45, siz46, agg46, zer46, byt46, siz48, agg48, zer48, byt48, siz50, agg50, zer50, byt50, siz55, agg55, zer55, byt55, siz57, agg57, zer57, byt57, siz67, agg67, zer67, byt67, AHeap.get_alloc, AHeap.get_set, AHeap.next_alloc, AHeap.next_set, AHeap.loadCells, AHeap.load1, AHeap.storeCells, List.getElem?_cons_zero, List.getElem?_cons_succ, List.length_cons, List.length_nil, List.drop_zero, List.take_succ_cons, List.take_zero, List.drop_succ_cons, List.drop_nil, List.take_nil, List.append_nil, List.cons_append, List.nil_append, binA, isConstO, keyOk, ents_some, Bool.or_true, Bool.or_false, Bool.true_or, Bool.false_or, wantedA, dstOk, Option.bind_some, List.append_nil, List.length_nil, decide_true, decide_false, Int.toNat_zero, Int.le_refl, fn22, fn23] <;> rfl))
      | ((with_reducible apply wpOps_skipT); exact rfl; exact rfl)
      | ((with_reducible apply wpOps_skipN); exact rfl; exact rfl)
      | ((with_reducible apply dw_skipT); exact rfl; exact rfl)
      | (with_reducible apply aw_seq)
      | (with_reducible apply aw_regionL)
      | (with_reducible apply aw_block)
      | (with_reducible apply aw_scope)
      | (with_reducible apply aw_nil)
      | (with_reducible apply aw_then)
      | (with_reducible apply aw_thenR)
      | (with_reducible apply aw_thenE)
      | (with_reducible apply aw_blockR)
      | (with_reducible apply aw_blockN)
      | (with_reducible apply aw_blockE)
      | (with_reducible apply aw_ret)
      | (with_reducible apply aw_exit)
      | (with_reducible apply aw_skip)
      | ((with_reducible apply aw_condT); exact rfl)
      | ((with_reducible apply aw_condF); exact rfl)
      | ((with_reducible apply aw_drawL); (simp only [List.zipIdx_cons, List.zipIdx_nil, Nat.zero_add, Nat.reduceAdd] <;> rfl); kernel_rfl; kernel_rfl)
      | (with_reducible apply dw_nil)
      | fail)

    exact ⟨rfl, _, rfl, rfl, rfl⟩
  | cons c s =>
    have h1 : ((1 : Int) ≤ ((s.length + 1 : Nat) : Int)) = True := by simp; omega
    by_cases h2' : ((s.length + 1 : Nat) : Int) ≤ 40
    · have h2 : (((s.length + 1 : Nat) : Int) ≤ 40) = True := eq_true h2'
      have e1 : (c.toNat : Int).toNat.toUInt8 = c := by simp
      refine WCall.body pr15 fn15 rfl (Nat.le_of_ble_eq_true rfl) ?_
      simp only [argsA]
      repeat (first
        | ((first | ((with_reducible apply wpOps_valT); exact rfl; exact rfl) | ((with_reducible apply wpOps_storeN); exact rfl; exact rfl) | ((with_reducible apply dw_pureT); exact rfl; exact rfl; exact rfl) | ((with_reducible apply dw_readT); exact rfl; exact rfl; exact rfl)); (simp only [List.getElem?_toArray, List.toList_toArray, bin_eql, bin_neq, bin_lss, bin_leq, bin_gtr, bin_geq, bin_add, bin_sub, bin_mul, un_not, unA, AHeap.get_bump, AHeap.next_bump, opK0, kMove, kPick, kAlloc, kBox, kBuild, kBuildSlice, kLoad, kStore, kNilCheck, kBinOp, kUnOp, kFieldAddr, kField, kIndexAddr, kIndex, kLookup, kMapUpdate, kMakeMap, kExtract, kSlice, kCall, lenA, evA, evAs, evParts, toAV, toAV0, toAVs, T.get_set, T.get_nil, Nat.reduceAdd, Nat.reduceMul, Nat.reduceEqDiff, Nat.zero_add, Nat.add_zero, Nat.mul_one, Nat.zero_mul, AV.cells, List.all_cons, List.all_nil, AV.scalar, Bool.and_true, Bool.true_and, ↓reduceIte, if_true, und_all, Tryd.underlying3, Tryd.underlying4, Tryd.underlying5, Tryd.underlying9, Tryd.underlying23, Tryd.underlying24, Tryd.underlying31, Tryd.underlying38, Tryd.underlying39, Tryd.underlying40, Tryd.underlying41, Tryd.underlying42, Tryd.underlying45, Tryd.underlying46, Tryd.underlying48, Tryd.underlying50, Tryd.underlying55, Tryd.underlying57, Tryd.underlying67, siz3, agg3, zer3, byt3, siz4, agg4, zer4, byt4, siz5, agg5, zer5, byt5, siz9, agg9, zer9, byt9, siz23, agg23, zer23, byt23, siz24, agg24, zer24, byt24, siz31, agg31, zer31, byt31, siz38, agg38, zer38, byt38, siz39, agg39, zer39, byt39, siz40, agg40, zer40, byt40, siz41, agg41, zer41, byt41, siz42, agg42, zer42, byt42, siz45, agg45, zer45, byt45, siz46, agg46, zer46, byt46, siz48, agg48, zer48, byt48, siz50, agg50, zer50, byt50, siz55, agg55, zer55, byt55, siz57, agg57, zer57, byt57, siz67, agg67, zer67, byt67, AHeap.get_alloc, AHeap.get_set, AHeap.next_alloc, AHeap.next_set, AHeap.loadCells, AHeap.load1, AHeap.storeCells, List.getElem?_cons_zero, List.getElem?_cons_succ, List.length_cons, List.length_nil, List.drop_zero, List.take_succ_cons, List.take_zero, List.drop_succ_cons, List.drop_nil, List.take_nil, List.append_nil, List.cons_append, List.nil_append, binA, isConstO, keyOk, ents_some, Bool.or_true, Bool.or_false, Bool.true_or, Bool.false_or, wantedA, dstOk, Option.bind_some, List.append_nil, h1, h2, decide_true, decide_false, Int.toNat_zero, Int.le_refl, fn22, fn23] <;> rfl))
        | ((with_reducible apply wpOps_skipT); exact rfl; exact rfl)
        | ((with_reducible apply wpOps_skipN); exact rfl; exact rfl)
        | ((with_reducible apply dw_skipT); exact rfl; exact rfl)
        | (with_reducible apply aw_seq)
        | (with_reducible apply aw_regionL)
        | (with_reducible apply aw_block)
        | (with_reducible apply aw_scope)
        | (with_reducible apply aw_nil)
        | (with_reducible apply aw_then)
        | (with_reducible apply aw_thenR)
        | (with_reducible apply aw_thenE)
        | (with_reducible apply aw_blockR)
        | (with_reducible apply aw_blockN)
        | (with_reducible apply aw_blockE)
        | (with_reducible apply aw_ret)
        | (with_reducible apply aw_exit)
        | (with_reducible apply aw_skip)
        | ((with_reducible apply aw_condT); exact rfl)
        | ((with_reducible apply aw_condF); exact rfl)
        | ((with_reducible apply aw_drawL); (simp only [List.zipIdx_cons, List.zipIdx_nil, Nat.zero_add, Nat.reduceAdd] <;> rfl); kernel_rfl; kernel_rfl)
        | (with_reducible apply dw_nil)
        | fail)

      (with_reducible apply wpOps_callT); exact rfl; exact rfl; (simp only [List.getElem?_toArray, List.toList_toArray, bin_eql, bin_neq, bin_lss, bin_leq, bin_gtr, bin_geq, bin_add, bin_sub, bin_mul, un_not, unA, AHeap.get_bump, AHeap.next_bump, opK0, kMove, kPick, kAlloc, kBox, kBuild, kBuildSlice, kLoad, kStore, kNilCheck, kBinOp, kUnOp, kFieldAddr, kField, kIndexAddr, kIndex, kLookup, kMapUpdate, kMakeMap, kExtract, kSlice, kCall, lenA, evA, evAs, evParts, toAV, toAV0, toAVs, T.get_set, T.get_nil, Nat.reduceAdd, Nat.reduceMul, Nat.reduceEqDiff, Nat.zero_add, Nat.add_zero, Nat.mul_one, Nat.zero_mul, AV.cells, List.all_cons, List.all_nil, AV.scalar, Bool.and_true, Bool.true_and, ↓reduceIte, if_true, und_all, Tryd.underlying3, Tryd.underlying4, Tryd.underlying5, Tryd.underlying9, Tryd.underlying23, Tryd.underlying24, Tryd.underlying31, Tryd.underlying38, Tryd.underlying39, Tryd.underlying40, Tryd.underlying41, Tryd.underlying42, Tryd.underlying45, Tryd.underlying46, Tryd.underlying48, Tryd.underlying50, Tryd.underlying55, Tryd.underlying57, Tryd.underlying67, siz3, agg3, zer3, byt3, siz4, agg4, zer4, byt4, siz5, agg5, zer5, byt5, siz9, agg9, zer9, byt9, siz23, agg23, zer23, byt23, siz24, agg24, zer24, byt24, siz31, agg31, zer31, byt31, siz38, agg38, zer38, byt38, siz39, agg39, zer39, byt39, siz40, agg40, zer40, byt40, siz41, agg41, zer41, byt41, siz42, agg42, zer42, byt42, siz45, agg45, zer45, byt45, siz46, agg46, zer46, byt46, siz48, agg48, zer48, byt48, siz50, agg50, zer50, byt50, siz55, agg55, zer55, byt55, siz57, agg57, zer57, byt57, siz67, agg67, zer67, byt67, AHeap.get_alloc, AHeap.get_set, AHeap.next_alloc, AHeap.next_set, AHeap.loadCells, AHeap.load1, AHeap.storeCells, List.getElem?_cons_zero, List.getElem?_cons_succ, List.length_cons, List.length_nil, List.drop_zero, List.take_succ_cons, List.take_zero, List.drop_succ_cons, List.drop_nil, List.take_nil, List.append_nil, List.cons_append, List.nil_append, binA, isConstO, keyOk, ents_some, Bool.or_true, Bool.or_false, Bool.true_or, Bool.false_or, wantedA, dstOk, Option.bind_some, List.append_nil, fn22, fn23] <;> rfl)

      refine WCall.prim pr22 rfl ?_
      dsimp only
      generalize hx : Lib.indexByte _ _ = x
      have hx' : Lib.indexByte letters c = x := by rw [← hx, e1]; rfl
      by_cases h3' : 0 ≤ x
      · have h3 : (0 ≤ x) = True := eq_true h3'
        repeat (first
          | ((first | ((with_reducible apply wpOps_valT); exact rfl; exact rfl) | ((with_reducible apply wpOps_storeN); exact rfl; exact rfl) | ((with_reducible apply dw_pureT); exact rfl; exact rfl; exact rfl) | ((with_reducible apply dw_readT); exact rfl; exact rfl; exact rfl)); (simp only [List.getElem?_toArray, List.toList_toArray, bin_eql, bin_neq, bin_lss, bin_leq, bin_gtr, bin_geq, bin_add, bin_sub, bin_mul, un_not, unA, AHeap.get_bump, AHeap.next_bump, opK0, kMove, kPick, kAlloc, kBox, kBuild, kBuildSlice, kLoad, kStore, kNilCheck, kBinOp, kUnOp, kFieldAddr, kField, kIndexAddr, kIndex, kLookup, kMapUpdate, kMakeMap, kExtract, kSlice, kCall, lenA, evA, evAs, evParts, toAV, toAV0, toAVs, T.get_set, T.get_nil, Nat.reduceAdd, Nat.reduceMul, Nat.reduceEqDiff, Nat.zero_add, Nat.add_zero, Nat.mul_one, Nat.zero_mul, AV.cells, List.all_cons, List.all_nil, AV.scalar, Bool.and_true, Bool.true_and, ↓reduceIte, if_true, und_all, Tryd.underlying3, Tryd.underlying4, Tryd.underlying5, Tryd.underlying9, Tryd.underlying23, Tryd.underlying24, Tryd.underlying31, Tryd.underlying38, Tryd.underlying39, Tryd.underlying40, Tryd.underlying41, Tryd.underlying42, Tryd.underlying45, Tryd.underlying46, Tryd.underlying48, Tryd.underlying50, Tryd.underlying55, Tryd.underlying57, Tryd.underlying67, siz3, agg3, zer3, byt3, siz4, agg4, zer4, byt4, siz5, agg5, zer5, byt5, siz9, agg9, zer9, byt9, siz23, agg23, zer23, byt23, siz24, agg24, zer24, byt24, siz31, agg31, zer31, byt31, siz38, agg38, zer38, byt38, siz39, agg39, zer39, byt39, siz40, agg40, zer40, byt40, siz41, agg41, zer41, byt41, siz42, agg42, zer42, byt42, siz45, agg45, zer45, byt45, siz46, agg46, zer46, byt46, siz48, agg48, zer48, byt48, siz50, agg50, zer50, byt50, siz55, agg55, zer55, byt55, siz57, agg57, zer57, byt57, siz67, agg67, zer67, byt67, AHeap.get_alloc, AHeap.get_set, AHeap.next_alloc, AHeap.next_set, AHeap.loadCells, AHeap.load1, AHeap.storeCells, List.getElem?_cons_zero, List.getElem?_cons_succ, List.length_cons, List.length_nil, List.drop_zero, List.take_succ_cons, List.take_zero, List.drop_succ_cons, List.drop_nil, List.take_nil, List.append_nil, List.cons_append, List.nil_append, binA, isConstO, keyOk, ents_some, Bool.or_true, Bool.or_false, Bool.true_or, Bool.false_or, wantedA, dstOk, Option.bind_some, List.append_nil, h1, h2, h3, decide_true, decide_false, Int.toNat_zero, Int.le_refl, fn22, fn23] <;> rfl))
          | ((with_reducible apply wpOps_skipT); exact rfl; exact rfl)
          | ((with_reducible apply wpOps_skipN); exact rfl; exact rfl)
          | ((with_reducible apply dw_skipT); exact rfl; exact rfl)
          | (with_reducible apply aw_seq)
          | (with_reducible apply aw_regionL)
          | (with_reducible apply aw_block)
          | (with_reducible apply aw_scope)
          | (with_reducible apply aw_nil)
          | (with_reducible apply aw_then)
          | (with_reducible apply aw_thenR)
          | (with_reducible apply aw_thenE)
          | (with_reducible apply aw_blockR)
          | (with_reducible apply aw_blockN)
          | (with_reducible apply aw_blockE)
          | (with_reducible apply aw_ret)
          | (with_reducible apply aw_exit)
          | (with_reducible apply aw_skip)
          | ((with_reducible apply aw_condT); exact rfl)
          | ((with_reducible apply aw_condF); exact rfl)
          | ((with_reducible apply aw_drawL); (simp only [List.zipIdx_cons, List.zipIdx_nil, Nat.zero_add, Nat.reduceAdd] <;> rfl); kernel_rfl; kernel_rfl)
          | (with_reducible apply dw_nil)
          | fail)

        (with_reducible apply wpOps_callT); exact rfl; exact rfl; (simp only [List.getElem?_toArray, List.toList_toArray, bin_eql, bin_neq, bin_lss, bin_leq, bin_gtr, bin_geq, bin_add, bin_sub, bin_mul, un_not, unA, AHeap.get_bump, AHeap.next_bump, opK0, kMove, kPick, kAlloc, kBox, kBuild, kBuildSlice, kLoad, kStore, kNilCheck, kBinOp, kUnOp, kFieldAddr, kField, kIndexAddr, kIndex, kLookup, kMapUpdate, kMakeMap, kExtract, kSlice, kCall, lenA, evA, evAs, evParts, toAV, toAV0, toAVs, T.get_set, T.get_nil, Nat.reduceAdd, Nat.reduceMul, Nat.reduceEqDiff, Nat.zero_add, Nat.add_zero, Nat.mul_one, Nat.zero_mul, AV.cells, List.all_cons, List.all_nil, AV.scalar, Bool.and_true, Bool.true_and, ↓reduceIte, if_true, und_all, Tryd.underlying3, Tryd.underlying4, Tryd.underlying5, Tryd.underlying9, Tryd.underlying23, Tryd.underlying24, Tryd.underlying31, Tryd.underlying38, Tryd.underlying39, Tryd.underlying40, Tryd.underlying41, Tryd.underlying42, Tryd.underlying45, Tryd.underlying46, Tryd.underlying48, Tryd.underlying50, Tryd.underlying55, Tryd.underlying57, Tryd.underlying67, siz3, agg3, zer3, byt3, siz4, agg4, zer4, byt4, siz5, agg5, zer5, byt5, siz9, agg9, zer9, byt9, siz23, agg23, zer23, byt23, siz24, agg24, zer24, byt24, siz31, agg31, zer31, byt31, siz38, agg38, zer38, byt38, siz39, agg39, zer39, byt39, siz40, agg40, zer40, byt40, siz41, agg41, zer41, byt41, siz42, agg42, zer42, byt42, siz45, agg45, zer45, byt45, siz46, agg46, zer46, byt46, siz48, agg48, zer48, byt48, siz50, agg50, zer50, byt50, siz55, agg55, zer55, byt55, siz57, agg57, zer57, byt57, siz67, agg67, zer67, byt67, AHeap.get_alloc, AHeap.get_set, AHeap.next_alloc, AHeap.next_set, AHeap.loadCells, AHeap.load1, AHeap.storeCells, List.getElem?_cons_zero, List.getElem?_cons_succ, List.length_cons, List.length_nil, List.drop_zero, List.take_succ_cons, List.take_zero, List.drop_succ_cons, List.drop_nil, List.take_nil, List.append_nil, List.cons_append, List.nil_append, binA, isConstO, keyOk, ents_some, Bool.or_true, Bool.or_false, Bool.true_or, Bool.false_or, wantedA, dstOk, Option.bind_some, List.append_nil, fn22, fn23] <;> rfl)

        refine WCall.prim (out := .ret (.str (Lib.trimS (c :: s) (letters ++ digits)))) (h' := h) pr23 ?_ ?_
        · simp only [valPrim, trimF]
          rw [if_pos ⟨hs, by decide, by decide +kernel⟩]
          rfl
        · dsimp only
          generalize hy : Lib.trimS (c :: s) (letters ++ digits) = y
          repeat (first
            | ((first | ((with_reducible apply wpOps_valT); exact rfl; exact rfl) | ((with_reducible apply wpOps_storeN); exact rfl; exact rfl) | ((with_reducible apply dw_pureT); exact rfl; exact rfl; exact rfl) | ((with_reducible apply dw_readT); exact rfl; exact rfl; exact rfl)); (simp only [List.getElem?_toArray, List.toList_toArray, bin_eql, bin_neq, bin_lss, bin_leq, bin_gtr, bin_geq, bin_add, bin_sub, bin_mul, un_not, unA, AHeap.get_bump, AHeap.next_bump, opK0, kMove, kPick, kAlloc, kBox, kBuild, kBuildSlice, kLoad, kStore, kNilCheck, kBinOp, kUnOp, kFieldAddr, kField, kIndexAddr, kIndex, kLookup, kMapUpdate, kMakeMap, kExtract, kSlice, kCall, lenA, evA, evAs, evParts, toAV, toAV0, toAVs, T.get_set, T.get_nil, Nat.reduceAdd, Nat.reduceMul, Nat.reduceEqDiff, Nat.zero_add, Nat.add_zero, Nat.mul_one, Nat.zero_mul, AV.cells, List.all_cons, List.all_nil, AV.scalar, Bool.and_true, Bool.true_and, ↓reduceIte, if_true, und_all, Tryd.underlying3, Tryd.underlying4, Tryd.underlying5, Tryd.underlying9, Tryd.underlying23, Tryd.underlying24, Tryd.underlying31, Tryd.underlying38, Tryd.underlying39, Tryd.underlying40, Tryd.underlying41, Tryd.underlying42, Tryd.underlying45, Tryd.underlying46, Tryd.underlying48, Tryd.underlying50, Tryd.underlying55, Tryd.underlying57, Tryd.underlying67, siz3, agg3, zer3, byt3, siz4, agg4, zer4, byt4, siz5, agg5, zer5, byt5, siz9, agg9, zer9, byt9, siz23, agg23, zer23, byt23, siz24, agg24, zer24, byt24, siz31, agg31, zer31, byt31, siz38, agg38, zer38, byt38, siz39, agg39, zer39, byt39, siz40, agg40, zer40, byt40, siz41, agg41, zer41, byt41, siz42, agg42, zer42, byt42, siz45, agg45, zer45, byt45, siz46, agg46, zer46, byt46, siz48, agg48, zer48, byt48, siz50, agg50, zer50, byt50, siz55, agg55, zer55, byt55, siz57, agg57, zer57, byt57, siz67, agg67, zer67, byt67, AHeap.get_alloc, AHeap.get_set, AHeap.next_alloc, AHeap.next_set, AHeap.loadCells, AHeap.load1, AHeap.storeCells, List.getElem?_cons_zero, List.getElem?_cons_succ, List.length_cons, List.length_nil, List.drop_zero, List.take_succ_cons, List.take_zero, List.drop_succ_cons, List.drop_nil, List.take_nil, List.append_nil, List.cons_append, List.nil_append, binA, isConstO, keyOk, ents_some, Bool.or_true, Bool.or_false, Bool.true_or, Bool.false_or, wantedA, dstOk, Option.bind_some, List.append_nil, h1, h2, h3, decide_true, decide_false, Int.toNat_zero, Int.le_refl, fn22, fn23] <;> rfl))
            | ((with_reducible apply wpOps_skipT); exact rfl; exact rfl)
            | ((with_reducible apply wpOps_skipN); exact rfl; exact rfl)
            | ((with_reducible apply dw_skipT); exact rfl; exact rfl)
            | (with_reducible apply aw_seq)
            | (with_reducible apply aw_regionL)
            | (with_reducible apply aw_block)
            | (with_reducible apply aw_scope)
            | (with_reducible apply aw_nil)
            | (with_reducible apply aw_then)
            | (with_reducible apply aw_thenR)
            | (with_reducible apply aw_thenE)
            | (with_reducible apply aw_blockR)
            | (with_reducible apply aw_blockN)
            | (with_reducible apply aw_blockE)
            | (with_reducible apply aw_ret)
            | (with_reducible apply aw_exit)
            | (with_reducible apply aw_skip)
            | ((with_reducible apply aw_condT); exact rfl)
            | ((with_reducible apply aw_condF); exact rfl)
            | ((with_reducible apply aw_drawL); (simp only [List.zipIdx_cons, List.zipIdx_nil, Nat.zero_add, Nat.reduceAdd] <;> rfl); kernel_rfl; kernel_rfl)
            | (with_reducible apply dw_nil)
            | fail)

          exact ⟨rfl, _, rfl, by simp only [gn, hx', h2, h3, hy, decide_true, Bool.true_and]; rfl, rfl⟩
      · have h3 : (0 ≤ x) = False := eq_false h3'
        repeat (first
          | ((first | ((with_reducible apply wpOps_valT); exact rfl; exact rfl) | ((with_reducible apply wpOps_storeN); exact rfl; exact rfl) | ((with_reducible apply dw_pureT); exact rfl; exact rfl; exact rfl) | ((with_reducible apply dw_readT); exact rfl; exact rfl; exact rfl)); (simp only [List.getElem?_toArray, List.toList_toArray, bin_eql, bin_neq, bin_lss, bin_leq, bin_gtr, bin_geq, bin_add, bin_sub, bin_mul, un_not, unA, AHeap.get_bump, AHeap.next_bump, opK0, kMove, kPick, kAlloc, kBox, kBuild, kBuildSlice, kLoad, kStore, kNilCheck, kBinOp, kUnOp, kFieldAddr, kField, kIndexAddr, kIndex, kLookup, kMapUpdate, kMakeMap, kExtract, kSlice, kCall, lenA, evA, evAs, evParts, toAV, toAV0, toAVs, T.get_set, T.get_nil, Nat.reduceAdd, Nat.reduceMul, Nat.reduceEqDiff, Nat.zero_add, Nat.add_zero, Nat.mul_one, Nat.zero_mul, AV.cells, List.all_cons, List.all_nil, AV.scalar, Bool.and_true, Bool.true_and, ↓reduceIte, if_true, und_all, Tryd.underlying3, Tryd.underlying4, Tryd.underlying5, Tryd.underlying9, Tryd.underlying23, Tryd.underlying24, Tryd.underlying31, Tryd.underlying38, Tryd.underlying39, Tryd.underlying40, Tryd.underlying41, Tryd.underlying42, Tryd.underlying45, Tryd.underlying46, Tryd.underlying48, Tryd.underlying50, Tryd.underlying55, Tryd.underlying57, Tryd.underlying67, siz3, agg3, zer3, byt3, siz4, agg4, zer4, byt4, siz5, agg5, zer5, byt5, siz9, agg9, zer9, byt9, siz23, agg23, zer23, byt23, siz24, agg24, zer24, byt24, siz31, agg31, zer31, byt31, siz38, agg38, zer38, byt38, siz39, agg39, zer39, byt39, siz40, agg40, zer40, byt40, siz41, agg41, zer41, byt41, siz42, agg42, zer42, byt42, siz45, agg45, zer45, byt45, siz46, agg46, zer46, byt46, siz48, agg48, zer48, byt48, siz50, agg50, zer50, byt50, siz55, agg55, zer55, byt55, siz57, agg57, zer57, byt57, siz67, agg67, zer67, byt67, AHeap.get_alloc, AHeap.get_set, AHeap.next_alloc, AHeap.next_set, AHeap.loadCells, AHeap.load1, AHeap.storeCells, List.getElem?_cons_zero, List.getElem?_cons_succ, List.length_cons, List.length_nil, List.drop_zero, List.take_succ_cons, List.take_zero, List.drop_succ_cons, List.drop_nil, List.take_nil, List.append_nil, List.cons_append, List.nil_append, binA, isConstO, keyOk, ents_some, Bool.or_true, Bool.or_false, Bool.true_or, Bool.false_or, wantedA, dstOk, Option.bind_some, List.append_nil, h1, h2, h3, decide_true, decide_false, Int.toNat_zero, Int.le_refl, fn22, fn23] <;> rfl))
          | ((with_reducible apply wpOps_skipT); exact rfl; exact rfl)
          | ((with_reducible apply wpOps_skipN); exact rfl; exact rfl)
          | ((with_reducible apply dw_skipT); exact rfl; exact rfl)
          | (with_reducible apply aw_seq)
          | (with_reducible apply aw_regionL)
          | (with_reducible apply aw_block)
          | (with_reducible apply aw_scope)
          | (with_reducible apply aw_nil)
          | (with_reducible apply aw_then)
          | (with_reducible apply aw_thenR)
          | (with_reducible apply aw_thenE)
          | (with_reducible apply aw_blockR)
          | (with_reducible apply aw_blockN)
          | (with_reducible apply aw_blockE)
          | (with_reducible apply aw_ret)
          | (with_reducible apply aw_exit)
          | (with_reducible apply aw_skip)
          | ((with_reducible apply aw_condT); exact rfl)
          | ((with_reducible apply aw_condF); exact rfl)
          | ((with_reducible apply aw_drawL); (simp only [List.zipIdx_cons, List.zipIdx_nil, Nat.zero_add, Nat.reduceAdd] <;> rfl); kernel_rfl; kernel_rfl)
          | (with_reducible apply dw_nil)
          | fail)

        exact ⟨rfl, _, rfl, by simp only [gn, hx', h2, h3, decide_true, decide_false, Bool.true_and, Bool.false_and]; rfl, rfl⟩
    · have h2 : (((s.length + 1 : Nat) : Int) ≤ 40) = False := eq_false h2'
      refine WCall.body pr15 fn15 rfl (Nat.le_of_ble_eq_true rfl) ?_
      simp only [argsA]
      repeat (first
        | ((first | ((with_reducible apply wpOps_valT); exact rfl; exact rfl) | ((with_reducible apply wpOps_storeN); exact rfl; exact rfl) | ((with_reducible apply dw_pureT); exact rfl; exact rfl; exact rfl) | ((with_reducible apply dw_readT); exact rfl; exact rfl; exact rfl)); (simp only [List.getElem?_toArray, List.toList_toArray, bin_eql, bin_neq, bin_lss, bin_leq, bin_gtr, bin_geq, bin_add, bin_sub, bin_mul, un_not, unA, AHeap.get_bump, AHeap.next_bump, opK0, kMove, kPick, kAlloc, kBox, kBuild, kBuildSlice, kLoad, kStore, kNilCheck, kBinOp, kUnOp, kFieldAddr, kField, kIndexAddr, kIndex, kLookup, kMapUpdate, kMakeMap, kExtract, kSlice, kCall, lenA, evA, evAs, evParts, toAV, toAV0, toAVs, T.get_set, T.get_nil, Nat.reduceAdd, Nat.reduceMul, Nat.reduceEqDiff, Nat.zero_add, Nat.add_zero, Nat.mul_one, Nat.zero_mul, AV.cells, List.all_cons, List.all_nil, AV.scalar, Bool.and_true, Bool.true_and, ↓reduceIte, if_true, und_all, Tryd.underlying3, Tryd.underlying4, Tryd.underlying5, Tryd.underlying9, Tryd.underlying23, Tryd.underlying24, Tryd.underlying31, Tryd.underlying38, Tryd.underlying39, Tryd.underlying40, Tryd.underlying41, Tryd.underlying42, Tryd.underlying45, Tryd.underlying46, Tryd.underlying48, Tryd.underlying50, Tryd.underlying55, Tryd.underlying57, Tryd.underlying67, siz3, agg3, zer3, byt3, siz4, agg4, zer4, byt4, siz5, agg5, zer5, byt5, siz9, agg9, zer9, byt9, siz23, agg23, zer23, byt23, siz24, agg24, zer24, byt24, siz31, agg31, zer31, byt31, siz38, agg38, zer38, byt38, siz39, agg39, zer39, byt39, siz40, agg40, zer40, byt40, siz41, agg41, zer41, byt41, siz42, agg42, zer42, byt42, siz45, agg45, zer45, byt45, siz46, agg46, zer46, byt46, siz48, agg48, zer48, byt48, siz50, agg50, zer50, byt50, siz55, agg55, zer55, byt55, siz57, agg57, zer57, byt57, siz67, agg67, zer67, byt67, AHeap.get_alloc, AHeap.get_set, AHeap.next_alloc, AHeap.next_set, AHeap.loadCells, AHeap.load1, AHeap.storeCells, List.getElem?_cons_zero, List.getElem?_cons_succ, List.length_cons, List.length_nil, List.drop_zero, List.take_succ_cons, List.take_zero, List.drop_succ_cons, List.drop_nil, List.take_nil, List.append_nil, List.cons_append, List.nil_append, binA, isConstO, keyOk, ents_some, Bool.or_true, Bool.or_false, Bool.true_or, Bool.false_or, wantedA, dstOk, Option.bind_some, List.append_nil, h1, h2, decide_true, decide_false, Int.toNat_zero, Int.le_refl, fn22, fn23] <;> rfl))
        | ((with_reducible apply wpOps_skipT); exact rfl; exact rfl)
        | ((with_reducible apply wpOps_skipN); exact rfl; exact rfl)
        | ((with_reducible apply dw_skipT); exact rfl; exact rfl)
        | (with_reducible apply aw_seq)
        | (with_reducible apply aw_regionL)
        | (with_reducible apply aw_block)
        | (with_reducible apply aw_scope)
        | (with_reducible apply aw_nil)
        | (with_reducible apply aw_then)
        | (with_reducible apply aw_thenR)
        | (with_reducible apply aw_thenE)
        | (with_reducible apply aw_blockR)
        | (with_reducible apply aw_blockN)
        | (with_reducible apply aw_blockE)
        | (with_reducible apply aw_ret)
        | (with_reducible apply aw_exit)
        | (with_reducible apply aw_skip)
        | ((with_reducible apply aw_condT); exact rfl)
        | ((with_reducible apply aw_condF); exact rfl)
        | ((with_reducible apply aw_drawL); (simp only [List.zipIdx_cons, List.zipIdx_nil, Nat.zero_add, Nat.reduceAdd] <;> rfl); kernel_rfl; kernel_rfl)
        | (with_reducible apply dw_nil)
        | fail)

      exact ⟨rfl, _, rfl, by simp only [gn, h2, decide_false]; rfl, rfl⟩

theorem pr30 : env.prim 30 = some (valPrim ibF) := by unfold env; rfl
theorem fn30 : env.fn 30 = some Tryd.f30 := by kernel_rfl
theorem index_w (h : AHeap) (s : List UInt8) : WCall env 54 [.str s, .str [91]] h (fun out h' => out = .ret (.int .i64 (Lib.indexByte s 91)) ∧ h' = h) := by
  by_cases hs : s = [91]
  · subst hs
    refine WCall.body pr54 fn54 rfl (Nat.le_of_ble_eq_true rfl) ?_
    simp only [argsA]
    repeat (first
      | ((first | ((with_reducible apply wpOps_valT); exact rfl; exact rfl) | ((with_reducible apply wpOps_storeN); exact rfl; exact rfl) | ((with_reducible apply dw_pureT); exact rfl; exact rfl; exact rfl) | ((with_reducible apply dw_readT); exact rfl; exact rfl; exact rfl)); (simp only [List.getElem?_toArray, List.toList_toArray, bin_eql, bin_neq, bin_lss, bin_leq, bin_gtr, bin_geq, bin_add, bin_sub, bin_mul, un_not, unA, AHeap.get_bump, AHeap.next_bump, opK0, kMove, kPick, kAlloc, kBox, kBuild, kBuildSlice, kLoad, kStore, kNilCheck, kBinOp, kUnOp, kFieldAddr, kField, kIndexAddr, kIndex, kLookup, kMapUpdate, kMakeMap, kExtract, kSlice, kCall, lenA, evA, evAs, evParts, toAV, toAV0, toAVs, T.get_set, T.get_nil, Nat.reduceAdd, Nat.reduceMul, Nat.reduceEqDiff, Nat.zero_add, Nat.add_zero, Nat.mul_one, Nat.zero_mul, AV.cells, List.all_cons, List.all_nil, AV.scalar, Bool.and_true, Bool.true_and, ↓reduceIte, if_true, und_all, Tryd.underlying3, Tryd.underlying4, Tryd.underlying5, Tryd.underlying9, Tryd.underlying23, Tryd.underlying24, Tryd.underlying31, Tryd.underlying38, Tryd.underlying39, Tryd.underlying40, Tryd.underlying41, Tryd.underlying42, Tryd.underlying45, Tryd.underlying46, Tryd.underlying48, Tryd.underlying50, Tryd.underlying55, Tryd.underlying57, Tryd.underlying67, siz3, agg3, zer3, byt3, siz4, agg4, zer4, byt4, siz5, agg5, zer5, byt5, siz9, agg9, zer9, byt9, siz23, agg23, zer23, byt23, siz24, agg24, zer24, byt24, siz31, agg31, zer31, byt31, siz38, agg38, zer38, byt38, siz39, agg39, zer39, byt39, siz40, agg40, zer40, byt40, siz41, agg41, zer41, byt41, siz42, agg42, zer42, byt42, siz45, agg45, zer45, byt45, siz46, agg46, zer46, byt46, siz48, agg48, zer48, byt48, siz50, agg50, zer50, byt50, siz55, agg55, zer55, byt55, siz57, agg57, zer57, byt57, siz67, agg67, zer67, byt67, AHeap.get_alloc, AHeap.get_set, AHeap.next_alloc, AHeap.next_set, AHeap.loadCells, AHeap.load1, AHeap.storeCells, List.getElem?_cons_zero, List.getElem?_cons_succ, List.length_cons, List.length_nil, List.drop_zero, List.take_succ_cons, List.take_zero, List.drop_succ_cons, List.drop_nil, List.take_nil, List.append_nil, List.cons_append, List.nil_append, binA, isConstO, keyOk, ents_some, Bool.or_true, Bool.or_false, Bool.true_or, Bool.false_or, wantedA, dstOk, Option.bind_some, List.append_nil, decide_true, decide_false, Int.toNat_zero, Int.le_refl, fn30, beq_self_eq_true] <;> rfl))
      | ((with_reducible apply wpOps_skipT); exact rfl; exact rfl)
      | ((with_reducible apply wpOps_skipN); exact rfl; exact rfl)
      | ((with_reducible apply dw_skipT); exact rfl; exact rfl)
      | (with_reducible apply aw_seq)
      | (with_reducible apply aw_regionL)
      | (with_reducible apply aw_block)
      | (with_reducible apply aw_scope)
      | (with_reducible apply aw_nil)
      | (with_reducible apply aw_then)
      | (with_reducible apply aw_thenR)
      | (with_reducible apply aw_thenE)
      | (with_reducible apply aw_blockR)
      | (with_reducible apply aw_blockN)
      | (with_reducible apply aw_blockE)
      | (with_reducible apply aw_ret)
      | (with_reducible apply aw_exit)
      | (with_reducible apply aw_skip)
      | ((with_reducible apply aw_condT); exact rfl)
      | ((with_reducible apply aw_condF); exact rfl)
      | ((with_reducible apply aw_drawL); (simp only [List.zipIdx_cons, List.zipIdx_nil, Nat.zero_add, Nat.reduceAdd] <;> rfl); kernel_rfl; kernel_rfl)
      | (with_reducible apply dw_nil)
      | fail)

    exact ⟨rfl, _, rfl, rfl, rfl⟩
  · have h1 : (([91] : List UInt8) == s) = false := by
      rw [beq_eq_false_iff_ne]; exact fun e => hs e.symm
    refine WCall.body pr54 fn54 rfl (Nat.le_of_ble_eq_true rfl) ?_
    simp only [argsA]
    repeat (first
      | ((first | ((with_reducible apply wpOps_valT); exact rfl; exact rfl) | ((with_reducible apply wpOps_storeN); exact rfl; exact rfl) | ((with_reducible apply dw_pureT); exact rfl; exact rfl; exact rfl) | ((with_reducible apply dw_readT); exact rfl; exact rfl; exact rfl)); (simp only [List.getElem?_toArray, List.toList_toArray, bin_eql, bin_neq, bin_lss, bin_leq, bin_gtr, bin_geq, bin_add, bin_sub, bin_mul, un_not, unA, AHeap.get_bump, AHeap.next_bump, opK0, kMove, kPick, kAlloc, kBox, kBuild, kBuildSlice, kLoad, kStore, kNilCheck, kBinOp, kUnOp, kFieldAddr, kField, kIndexAddr, kIndex, kLookup, kMapUpdate, kMakeMap, kExtract, kSlice, kCall, lenA, evA, evAs, evParts, toAV, toAV0, toAVs, T.get_set, T.get_nil, Nat.reduceAdd, Nat.reduceMul, Nat.reduceEqDiff, Nat.zero_add, Nat.add_zero, Nat.mul_one, Nat.zero_mul, AV.cells, List.all_cons, List.all_nil, AV.scalar, Bool.and_true, Bool.true_and, ↓reduceIte, if_true, und_all, Tryd.underlying3, Tryd.underlying4, Tryd.underlying5, Tryd.underlying9, Tryd.underlying23, Tryd.underlying24, Tryd.underlying31, Tryd.underlying38, Tryd.underlying39, Tryd.underlying40, Tryd.underlying41, Tryd.underlying42, Tryd.underlying45, Tryd.underlying46, Tryd.underlying48, Tryd.underlying50, Tryd.underlying55, Tryd.underlying57, Tryd.underlying67, siz3, agg3, zer3, byt3, siz4, agg4, zer4, byt4, siz5, agg5, zer5, byt5, siz9, agg9, zer9, byt9, siz23, agg23, zer23, byt23, siz24, agg24, zer24, byt24, siz31, agg31, zer31, byt31, siz38, agg38, zer38, byt38, siz39, agg39, zer39, byt39, siz40, agg40, zer40, byt40, siz41, agg41, zer41, byt41, siz42, agg42, zer42, byt42, siz45, agg45, zer45, byt45, siz46, agg46, zer46, byt46, siz48, agg48, zer48, byt48, siz50, agg50, zer50, byt50, siz55, agg55, zer55, byt55, siz57, agg57, zer57, byt57, siz67, agg67, zer67, byt67, AHeap.get_alloc, AHeap.get_set, AHeap.next_alloc, AHeap.next_set, AHeap.loadCells, AHeap.load1, AHeap.storeCells, List.getElem?_cons_zero, List.getElem?_cons_succ, List.length_cons, List.length_nil, List.drop_zero, List.take_succ_cons, List.take_zero, List.drop_succ_cons, List.drop_nil, List.take_nil, List.append_nil, List.cons_append, List.nil_append, binA, isConstO, keyOk, ents_some, Bool.or_true, Bool.or_false, Bool.true_or, Bool.false_or, wantedA, dstOk, Option.bind_some, List.append_nil, decide_true, decide_false, Int.toNat_zero, Int.le_refl, fn30, beq_self_eq_true, h1] <;> rfl))
      | ((with_reducible apply wpOps_skipT); exact rfl; exact rfl)
      | ((with_reducible apply wpOps_skipN); exact rfl; exact rfl)
      | ((with_reducible apply dw_skipT); exact rfl; exact rfl)
      | (with_reducible apply aw_seq)
      | (with_reducible apply aw_regionL)
      | (with_reducible apply aw_block)
      | (with_reducible apply aw_scope)
      | (with_reducible apply aw_nil)
      | (with_reducible apply aw_then)
      | (with_reducible apply aw_thenR)
      | (with_reducible apply aw_thenE)
      | (with_reducible apply aw_blockR)
      | (with_reducible apply aw_blockN)
      | (with_reducible apply aw_blockE)
      | (with_reducible apply aw_ret)
      | (with_reducible apply aw_exit)
      | (with_reducible apply aw_skip)
      | ((with_reducible apply aw_condT); exact rfl)
      | ((with_reducible apply aw_condF); exact rfl)
      | ((with_reducible apply aw_drawL); (simp only [List.zipIdx_cons, List.zipIdx_nil, Nat.zero_add, Nat.reduceAdd] <;> rfl); kernel_rfl; kernel_rfl)
      | (with_reducible apply dw_nil)
      | fail)

    (with_reducible apply wpOps_callT); exact rfl; exact rfl; (simp only [List.getElem?_toArray, List.toList_toArray, bin_eql, bin_neq, bin_lss, bin_leq, bin_gtr, bin_geq, bin_add, bin_sub, bin_mul, un_not, unA, AHeap.get_bump, AHeap.next_bump, opK0, kMove, kPick, kAlloc, kBox, kBuild, kBuildSlice, kLoad, kStore, kNilCheck, kBinOp, kUnOp, kFieldAddr, kField, kIndexAddr, kIndex, kLookup, kMapUpdate, kMakeMap, kExtract, kSlice, kCall, lenA, evA, evAs, evParts, toAV, toAV0, toAVs, T.get_set, T.get_nil, Nat.reduceAdd, Nat.reduceMul, Nat.reduceEqDiff, Nat.zero_add, Nat.add_zero, Nat.mul_one, Nat.zero_mul, AV.cells, List.all_cons, List.all_nil, AV.scalar, Bool.and_true, Bool.true_and, ↓reduceIte, if_true, und_all, Tryd.underlying3, Tryd.underlying4, Tryd.underlying5, Tryd.underlying9, Tryd.underlying23, Tryd.underlying24, Tryd.underlying31, Tryd.underlying38, Tryd.underlying39, Tryd.underlying40, Tryd.underlying41, Tryd.underlying42, Tryd.underlying45, Tryd.underlying46, Tryd.underlying48, Tryd.underlying50, Tryd.underlying55, Tryd.underlying57, Tryd.underlying67, siz3, agg3, zer3, byt3, siz4, agg4, zer4, byt4, siz5, agg5, zer5, byt5, siz9, agg9, zer9, byt9, siz23, agg23, zer23, byt23, siz24, agg24, zer24, byt24, siz31, agg31, zer31, byt31, siz38, agg38, zer38, byt38, siz39, agg39, zer39, byt39, siz40, agg40, zer40, byt40, siz41, agg41, zer41, byt41, siz42, agg42, zer42, byt42, siz45, agg45, zer45, byt45, siz46, agg46, zer46, byt46, siz48, agg48, zer48, byt48, siz50, agg50, zer50, byt50, siz55, agg55, zer55, byt55, siz57, agg57, zer57, byt57, siz67, agg67, zer67, byt67, AHeap.get_alloc, AHeap.get_set, AHeap.next_alloc, AHeap.next_set, AHeap.loadCells, AHeap.load1, AHeap.storeCells, List.getElem?_cons_zero, List.getElem?_cons_succ, List.length_cons, List.length_nil, List.drop_zero, List.take_succ_cons, List.take_zero, List.drop_succ_cons, List.drop_nil, List.take_nil, List.append_nil, List.cons_append, List.nil_append, binA, isConstO, keyOk, ents_some, Bool.or_true, Bool.or_false, Bool.true_or, Bool.false_or, wantedA, dstOk, Option.bind_some, List.append_nil, decide_true, decide_false, Int.toNat_zero, Int.le_refl, fn30, beq_self_eq_true, h1] <;> rfl)

    refine WCall.prim pr30 rfl ?_
    dsimp only
    repeat (first
      | ((first | ((with_reducible apply wpOps_valT); exact rfl; exact rfl) | ((with_reducible apply wpOps_storeN); exact rfl; exact rfl) | ((with_reducible apply dw_pureT); exact rfl; exact rfl; exact rfl) | ((with_reducible apply dw_readT); exact rfl; exact rfl; exact rfl)); (simp only [List.getElem?_toArray, List.toList_toArray, bin_eql, bin_neq, bin_lss, bin_leq, bin_gtr, bin_geq, bin_add, bin_sub, bin_mul, un_not, unA, AHeap.get_bump, AHeap.next_bump, opK0, kMove, kPick, kAlloc, kBox, kBuild, kBuildSlice, kLoad, kStore, kNilCheck, kBinOp, kUnOp, kFieldAddr, kField, kIndexAddr, kIndex, kLookup, kMapUpdate, kMakeMap, kExtract, kSlice, kCall, lenA, evA, evAs, evParts, toAV, toAV0, toAVs, T.get_set, T.get_nil, Nat.reduceAdd, Nat.reduceMul, Nat.reduceEqDiff, Nat.zero_add, Nat.add_zero, Nat.mul_one, Nat.zero_mul, AV.cells, List.all_cons, List.all_nil, AV.scalar, Bool.and_true, Bool.true_and, ↓reduceIte, if_true, und_all, Tryd.underlying3, Tryd.underlying4, Tryd.underlying5, Tryd.underlying9, Tryd.underlying23, Tryd.underlying24, Tryd.underlying31, Tryd.underlying38, Tryd.underlying39, Tryd.underlying40, Tryd.underlying41, Tryd.underlying42, Tryd.underlying45, Tryd.underlying46, Tryd.underlying48, Tryd.underlying50, Tryd.underlying55, Tryd.underlying57, Tryd.underlying67, siz3, agg3, zer3, byt3, siz4, agg4, zer4, byt4, siz5, agg5, zer5, byt5, siz9, agg9, zer9, byt9, siz23, agg23, zer23, byt23, siz24, agg24, zer24, byt24, siz31, agg31, zer31, byt31, siz38, agg38, zer38, byt38, siz39, agg39, zer39, byt39, siz40, agg40, zer40, byt40, siz41, agg41, zer41, byt41, siz42, agg42, zer42, byt42, siz45, agg45, zer45, byt45, siz46, agg46, zer46, byt46, siz48, agg48, zer48, byt48, siz50, agg50, zer50, byt50, siz55, agg55, zer55, byt55, siz57, agg57, zer57, byt57, siz67, agg67, zer67, byt67, AHeap.get_alloc, AHeap.get_set, AHeap.next_alloc, AHeap.next_set, AHeap.loadCells, AHeap.load1, AHeap.storeCells, List.getElem?_cons_zero, List.getElem?_cons_succ, List.length_cons, List.length_nil, List.drop_zero, List.take_succ_cons, List.take_zero, List.drop_succ_cons, List.drop_nil, List.take_nil, List.append_nil, List.cons_append, List.nil_append, binA, isConstO, keyOk, ents_some, Bool.or_true, Bool.or_false, Bool.true_or, Bool.false_or, wantedA, dstOk, Option.bind_some, List.append_nil, decide_true, decide_false, Int.toNat_zero, Int.le_refl, fn30, beq_self_eq_true, h1] <;> rfl))
      | ((with_reducible apply wpOps_skipT); exact rfl; exact rfl)
      | ((with_reducible apply wpOps_skipN); exact rfl; exact rfl)
      | ((with_reducible apply dw_skipT); exact rfl; exact rfl)
      | (with_reducible apply aw_seq)
      | (with_reducible apply aw_regionL)
      | (with_reducible apply aw_block)
      | (with_reducible apply aw_scope)
      | (with_reducible apply aw_nil)
      | (with_reducible apply aw_then)
      | (with_reducible apply aw_thenR)
      | (with_reducible apply aw_thenE)
      | (with_reducible apply aw_blockR)
      | (with_reducible apply aw_blockN)
      | (with_reducible apply aw_blockE)
      | (with_reducible apply aw_ret)
      | (with_reducible apply aw_exit)
      | (with_reducible apply aw_skip)
      | ((with_reducible apply aw_condT); exact rfl)
      | ((with_reducible apply aw_condF); exact rfl)
      | ((with_reducible apply aw_drawL); (simp only [List.zipIdx_cons, List.zipIdx_nil, Nat.zero_add, Nat.reduceAdd] <;> rfl); kernel_rfl; kernel_rfl)
      | (with_reducible apply dw_nil)
      | fail)

    exact ⟨rfl, _, rfl, rfl, rfl⟩

/-- A call that leaves the heap's objects alone but for new ones. -/
structure Keep (h h' : AHeap) : Prop where
  next : h.next ≤ h'.next
  old : ∀ i, i < h.next → h'.get i = h.get i
  fresh : (∀ i, h.next ≤ i → h.get i = Option.none) → ∀ i, h'.next ≤ i → h'.get i = Option.none
theorem Keep.refl (h : AHeap) : Keep h h := ⟨Nat.le_refl _, fun _ _ => rfl, fun hf => hf⟩
theorem Keep.trans {a b c : AHeap} (h : Keep a b) (h' : Keep b c) : Keep a c :=
  ⟨Nat.le_trans h.next h'.next, fun i hi => (h'.old i (Nat.lt_of_lt_of_le hi h.next)).trans (h.old i hi), fun hf => h'.fresh (h.fresh hf)⟩
theorem Keep.bump {h g : AHeap} (k : Nat) (hk : Keep h g) : Keep h (g.bump k) :=
  ⟨Nat.le_trans hk.next (Nat.le_add_right _ _), hk.old, fun hf i hi => hk.fresh hf i (Nat.le_trans (Nat.le_add_right _ _) hi)⟩
theorem Keep.alloc {h g : AHeap} (o : AObj) (hk : Keep h g) : Keep h (g.alloc o).2 :=
  ⟨Nat.le_trans hk.next (Nat.le_succ _), fun i hi => by rw [AHeap.get_alloc, if_neg (by have := hk.next; omega)]; exact hk.old i hi,
   fun hf i hi => by
    rw [AHeap.next_alloc] at hi
    rw [AHeap.get_alloc, if_neg (by omega)]; exact hk.fresh hf i (by omega)⟩
theorem Keep.set {h g : AHeap} {i : Nat} (o : AObj) (h1 : h.next ≤ i) (h2 : i < g.next) (hk : Keep h g) : Keep h (g.set i o) :=
  ⟨hk.next, fun j hj => by rw [AHeap.get_set, if_neg (by omega)]; exact hk.old j hj,
   fun hf j hj => by
    rw [AHeap.next_set] at hj
    rw [AHeap.get_set, if_neg (by omega)]; exact hk.fresh hf j hj⟩
theorem wr {a : Int} (h0 : -9223372036854775808 ≤ a) (h1 : a ≤ 9223372036854775807) : IntKind.wrap .i64 a = a := by
  rw [IntKind.wrap_i64]; omega
theorem indexByte_le : ∀ (s : List UInt8) (c : UInt8), 0 ≤ Lib.indexByte s c → ∃ k : Nat, Lib.indexByte s c = k ∧ k < s.length
  | [], c, h => by simp [Lib.indexByte] at h
  | x :: s, c, h => by
    simp only [Lib.indexByte] at h ⊢
    by_cases hx : x = c
    · exact ⟨0, by simp [hx]⟩
    · by_cases h1 : 0 ≤ Lib.indexByte s c
      · obtain ⟨k, hk, hl⟩ := indexByte_le s c h1
        exact ⟨k + 1, by simp [hx, hk], by simp; omega⟩
      · have := Lib.indexByte_ge s c
        have : Lib.indexByte s c = -1 := by omega
        simp [hx, this] at h
/-- What strings.Cut at '[' answers. -/
def cutF (s : List UInt8) : List UInt8 × List UInt8 × Bool :=
  if 0 ≤ Lib.indexByte s 91 then (s.take (Lib.indexByte s 91).toNat, s.drop ((Lib.indexByte s 91).toNat + 1), true) else (s, [], false)
theorem cut38_w (h : AHeap) (s : List UInt8) (hs : s.length ≤ 281474976710656) : WCall env 38 [.str s, .str [91]] h (fun out h' => out = .ret (.tup [.str (cutF s).1, .str (cutF s).2.1, .bool (cutF s).2.2]) ∧ Keep h h') := by
    refine WCall.body pr38 fn38 rfl (Nat.le_of_ble_eq_true rfl) ?_
    simp only [argsA]
    repeat (first
      | ((first | ((with_reducible apply wpOps_valT); exact rfl; exact rfl) | ((with_reducible apply wpOps_storeN); exact rfl; exact rfl) | ((with_reducible apply dw_pureT); exact rfl; exact rfl; exact rfl) | ((with_reducible apply dw_readT); exact rfl; exact rfl; exact rfl)); (simp only [List.getElem?_toArray, List.toList_toArray, bin_eql, bin_neq, bin_lss, bin_leq, bin_gtr, bin_geq, bin_add, bin_sub, bin_mul, un_not, unA, AHeap.get_bump, AHeap.next_bump, opK0, kMove, kPick, kAlloc, kBox, kBuild, kBuildSlice, kLoad, kStore, kNilCheck, kBinOp, kUnOp, kFieldAddr, kField, kIndexAddr, kIndex, kLookup, kMapUpdate, kMakeMap, kExtract, kSlice, kCall, lenA, evA, evAs, evParts, toAV, toAV0, toAVs, T.get_set, T.get_nil, Nat.reduceAdd, Nat.reduceMul, Nat.reduceEqDiff, Nat.zero_add, Nat.add_zero, Nat.mul_one, Nat.zero_mul, AV.cells, List.all_cons, List.all_nil, AV.scalar, Bool.and_true, Bool.true_and, ↓reduceIte, if_true, und_all, Tryd.underlying3, Tryd.underlying4, Tryd.underlying5, Tryd.underlying9, Tryd.underlying23, Tryd.underlying24, Tryd.underlying31, Tryd.underlying38, Tryd.underlying39, Tryd.underlying40, Tryd.underlying41, Tryd.underlying42, Tryd.underlying45, Tryd.underlying46, Tryd.underlying48, Tryd.underlying50, Tryd.underlying55, Tryd.underlying57, Tryd.underlying67, siz3, agg3, zer3, byt3, siz4, agg4, zer4, byt4, siz5, agg5, zer5, byt5, siz9, agg9, zer9, byt9, siz23, agg23, zer23, byt23, siz24, agg24, zer24, byt24, siz31, agg31, zer31, byt31, siz38, agg38, zer38, byt38, siz39, agg39, zer39, byt39, siz40, agg40, zer40, byt40, siz41, agg41, zer41, byt41, siz42, agg42, zer42, byt42, siz45, agg45, zer45, byt45, siz46, agg46, zer46, byt46, siz48, agg48, zer48, byt48, siz50, agg50, zer50, byt50, siz55, agg55, zer55, byt55, siz57, agg57, zer57, byt57, siz67, agg67, zer67, byt67, AHeap.get_alloc, AHeap.get_set, AHeap.next_alloc, AHeap.next_set, AHeap.loadCells, AHeap.load1, AHeap.storeCells, List.getElem?_cons_zero, List.getElem?_cons_succ, List.length_cons, List.length_nil, List.drop_zero, List.take_succ_cons, List.take_zero, List.drop_succ_cons, List.drop_nil, List.take_nil, List.append_nil, List.cons_append, List.nil_append, binA, isConstO, keyOk, ents_some, Bool.or_true, Bool.or_false, Bool.true_or, Bool.false_or, wantedA, dstOk, Option.bind_some, List.append_nil, decide_true, decide_false, Int.toNat_zero, Int.le_refl, beq_self_eq_true, fn54, fn38, boundsA, boundA, Int.toNat_natCast, Int.natCast_one] <;> rfl))
      | ((with_reducible apply wpOps_skipT); exact rfl; exact rfl)
      | ((with_reducible apply wpOps_skipN); exact rfl; exact rfl)
      | ((with_reducible apply dw_skipT); exact rfl; exact rfl)
      | (with_reducible apply aw_seq)
      | (with_reducible apply aw_regionL)
      | (with_reducible apply aw_block)
      | (with_reducible apply aw_scope)
      | (with_reducible apply aw_nil)
      | (with_reducible apply aw_then)
      | (with_reducible apply aw_thenR)
      | (with_reducible apply aw_thenE)
      | (with_reducible apply aw_blockR)
      | (with_reducible apply aw_blockN)
      | (with_reducible apply aw_blockE)
      | (with_reducible apply aw_ret)
      | (with_reducible apply aw_exit)
      | (with_reducible apply aw_skip)
      | ((with_reducible apply aw_condT); exact rfl)
      | ((with_reducible apply aw_condF); exact rfl)
      | ((with_reducible apply aw_drawL); (simp only [List.zipIdx_cons, List.zipIdx_nil, Nat.zero_add, Nat.reduceAdd] <;> rfl); kernel_rfl; kernel_rfl)
      | (with_reducible apply dw_nil)
      | fail)

    (with_reducible apply wpOps_callT); exact rfl; exact rfl; (simp only [List.getElem?_toArray, List.toList_toArray, bin_eql, bin_neq, bin_lss, bin_leq, bin_gtr, bin_geq, bin_add, bin_sub, bin_mul, un_not, unA, AHeap.get_bump, AHeap.next_bump, opK0, kMove, kPick, kAlloc, kBox, kBuild, kBuildSlice, kLoad, kStore, kNilCheck, kBinOp, kUnOp, kFieldAddr, kField, kIndexAddr, kIndex, kLookup, kMapUpdate, kMakeMap, kExtract, kSlice, kCall, lenA, evA, evAs, evParts, toAV, toAV0, toAVs, T.get_set, T.get_nil, Nat.reduceAdd, Nat.reduceMul, Nat.reduceEqDiff, Nat.zero_add, Nat.add_zero, Nat.mul_one, Nat.zero_mul, AV.cells, List.all_cons, List.all_nil, AV.scalar, Bool.and_true, Bool.true_and, ↓reduceIte, if_true, und_all, Tryd.underlying3, Tryd.underlying4, Tryd.underlying5, Tryd.underlying9, Tryd.underlying23, Tryd.underlying24, Tryd.underlying31, Tryd.underlying38, Tryd.underlying39, Tryd.underlying40, Tryd.underlying41, Tryd.underlying42, Tryd.underlying45, Tryd.underlying46, Tryd.underlying48, Tryd.underlying50, Tryd.underlying55, Tryd.underlying57, Tryd.underlying67, siz3, agg3, zer3, byt3, siz4, agg4, zer4, byt4, siz5, agg5, zer5, byt5, siz9, agg9, zer9, byt9, siz23, agg23, zer23, byt23, siz24, agg24, zer24, byt24, siz31, agg31, zer31, byt31, siz38, agg38, zer38, byt38, siz39, agg39, zer39, byt39, siz40, agg40, zer40, byt40, siz41, agg41, zer41, byt41, siz42, agg42, zer42, byt42, siz45, agg45, zer45, byt45, siz46, agg46, zer46, byt46, siz48, agg48, zer48, byt48, siz50, agg50, zer50, byt50, siz55, agg55, zer55, byt55, siz57, agg57, zer57, byt57, siz67, agg67, zer67, byt67, AHeap.get_alloc, AHeap.get_set, AHeap.next_alloc, AHeap.next_set, AHeap.loadCells, AHeap.load1, AHeap.storeCells, List.getElem?_cons_zero, List.getElem?_cons_succ, List.length_cons, List.length_nil, List.drop_zero, List.take_succ_cons, List.take_zero, List.drop_succ_cons, List.drop_nil, List.take_nil, List.append_nil, List.cons_append, List.nil_append, binA, isConstO, keyOk, ents_some, Bool.or_true, Bool.or_false, Bool.true_or, Bool.false_or, wantedA, dstOk, Option.bind_some, List.append_nil, decide_true, decide_false, Int.toNat_zero, Int.le_refl, beq_self_eq_true, fn54, fn38, boundsA, boundA, Int.toNat_natCast, Int.natCast_one] <;> rfl)

    refine (index_w h s).mono fun out h2 hq => ?_
    obtain ⟨rfl, rfl⟩ := hq
    dsimp only
    by_cases hx : 0 ≤ Lib.indexByte s 91
    · obtain ⟨k, hk, hl⟩ := indexByte_le s 91 hx
      have e1 : cutF s = (s.take k, s.drop (k + 1), true) := by simp only [cutF, if_pos hx]; simp only [hk, Int.toNat_natCast]
      rw [e1, hk]
      have f1 : (0 ≤ (k : Int)) = True := eq_true (by omega)
      have f2 : ((k : Int) ≤ (s.length : Int)) = True := eq_true (by omega)
      have f3 : ((k : Int) + 1 ≤ (s.length : Int)) = True := eq_true (by omega)
      have f4 : IntKind.wrap .i64 ((k : Int) + 1) = (k : Int) + 1 := wr (by omega) (by omega)
      have f5 : (0 ≤ (k : Int) + 1) = True := eq_true (by omega)
      have f6 : ((k : Int) + 1).toNat = k + 1 := by omega
      repeat (first
        | ((first | ((with_reducible apply wpOps_valT); exact rfl; exact rfl) | ((with_reducible apply wpOps_storeN); exact rfl; exact rfl) | ((with_reducible apply dw_pureT); exact rfl; exact rfl; exact rfl) | ((with_reducible apply dw_readT); exact rfl; exact rfl; exact rfl)); (simp only [List.getElem?_toArray, List.toList_toArray, bin_eql, bin_neq, bin_lss, bin_leq, bin_gtr, bin_geq, bin_add, bin_sub, bin_mul, un_not, unA, AHeap.get_bump, AHeap.next_bump, opK0, kMove, kPick, kAlloc, kBox, kBuild, kBuildSlice, kLoad, kStore, kNilCheck, kBinOp, kUnOp, kFieldAddr, kField, kIndexAddr, kIndex, kLookup, kMapUpdate, kMakeMap, kExtract, kSlice, kCall, lenA, evA, evAs, evParts, toAV, toAV0, toAVs, T.get_set, T.get_nil, Nat.reduceAdd, Nat.reduceMul, Nat.reduceEqDiff, Nat.zero_add, Nat.add_zero, Nat.mul_one, Nat.zero_mul, AV.cells, List.all_cons, List.all_nil, AV.scalar, Bool.and_true, Bool.true_and, ↓reduceIte, if_true, und_all, Tryd.underlying3, Tryd.underlying4, Tryd.underlying5, Tryd.underlying9, Tryd.underlying23, Tryd.underlying24, Tryd.underlying31, Tryd.underlying38, Tryd.underlying39, Tryd.underlying40, Tryd.underlying41, Tryd.underlying42, Tryd.underlying45, Tryd.underlying46, Tryd.underlying48, Tryd.underlying50, Tryd.underlying55, Tryd.underlying57, Tryd.underlying67, siz3, agg3, zer3, byt3, siz4, agg4, zer4, byt4, siz5, agg5, zer5, byt5, siz9, agg9, zer9, byt9, siz23, agg23, zer23, byt23, siz24, agg24, zer24, byt24, siz31, agg31, zer31, byt31, siz38, agg38, zer38, byt38, siz39, agg39, zer39, byt39, siz40, agg40, zer40, byt40, siz41, agg41, zer41, byt41, siz42, agg42, zer42, byt42, siz45, agg45, zer45, byt45, siz46, agg46, zer46, byt46, siz48, agg48, zer48, byt48, siz50, agg50, zer50, byt50, siz55, agg55, zer55, byt55, siz57, agg57, zer57, byt57, siz67, agg67, zer67, byt67, AHeap.get_alloc, AHeap.get_set, AHeap.next_alloc, AHeap.next_set, AHeap.loadCells, AHeap.load1, AHeap.storeCells, List.getElem?_cons_zero, List.getElem?_cons_succ, List.length_cons, List.length_nil, List.drop_zero, List.take_succ_cons, List.take_zero, List.drop_succ_cons, List.drop_nil, List.take_nil, List.append_nil, List.cons_append, List.nil_append, binA, isConstO, keyOk, ents_some, Bool.or_true, Bool.or_false, Bool.true_or, Bool.false_or, wantedA, dstOk, Option.bind_some, List.append_nil, decide_true, decide_false, Int.toNat_zero, Int.le_refl, beq_self_eq_true, fn54, fn38, boundsA, boundA, Int.toNat_natCast, Int.natCast_one, f1, f2, f3, f4, f5, f6, and_self, List.take_length] <;> rfl))
        | ((with_reducible apply wpOps_skipT); exact rfl; exact rfl)
        | ((with_reducible apply wpOps_skipN); exact rfl; exact rfl)
        | ((with_reducible apply dw_skipT); exact rfl; exact rfl)
        | (with_reducible apply aw_seq)
        | (with_reducible apply aw_regionL)
        | (with_reducible apply aw_block)
        | (with_reducible apply aw_scope)
        | (with_reducible apply aw_nil)
        | (with_reducible apply aw_then)
        | (with_reducible apply aw_thenR)
        | (with_reducible apply aw_thenE)
        | (with_reducible apply aw_blockR)
        | (with_reducible apply aw_blockN)
        | (with_reducible apply aw_blockE)
        | (with_reducible apply aw_ret)
        | (with_reducible apply aw_exit)
        | (with_reducible apply aw_skip)
        | ((with_reducible apply aw_condT); exact rfl)
        | ((with_reducible apply aw_condF); exact rfl)
        | ((with_reducible apply aw_drawL); (simp only [List.zipIdx_cons, List.zipIdx_nil, Nat.zero_add, Nat.reduceAdd] <;> rfl); kernel_rfl; kernel_rfl)
        | (with_reducible apply dw_nil)
        | fail)

      repeat (first
        | ((first | ((with_reducible apply wpOps_valT); exact rfl; exact rfl) | ((with_reducible apply wpOps_storeN); exact rfl; exact rfl) | ((with_reducible apply dw_pureT); exact rfl; exact rfl; exact rfl) | ((with_reducible apply dw_readT); exact rfl; exact rfl; exact rfl)); (simp only [List.getElem?_toArray, List.toList_toArray, bin_eql, bin_neq, bin_lss, bin_leq, bin_gtr, bin_geq, bin_add, bin_sub, bin_mul, un_not, unA, AHeap.get_bump, AHeap.next_bump, opK0, kMove, kPick, kAlloc, kBox, kBuild, kBuildSlice, kLoad, kStore, kNilCheck, kBinOp, kUnOp, kFieldAddr, kField, kIndexAddr, kIndex, kLookup, kMapUpdate, kMakeMap, kExtract, kSlice, kCall, lenA, evA, evAs, evParts, toAV, toAV0, toAVs, T.get_set, T.get_nil, Nat.reduceAdd, Nat.reduceMul, Nat.reduceEqDiff, Nat.zero_add, Nat.add_zero, Nat.mul_one, Nat.zero_mul, AV.cells, List.all_cons, List.all_nil, AV.scalar, Bool.and_true, Bool.true_and, ↓reduceIte, if_true, und_all, Tryd.underlying3, Tryd.underlying4, Tryd.underlying5, Tryd.underlying9, Tryd.underlying23, Tryd.underlying24, Tryd.underlying31, Tryd.underlying38, Tryd.underlying39, Tryd.underlying40, Tryd.underlying41, Tryd.underlying42, Tryd.underlying45, Tryd.underlying46, Tryd.underlying48, Tryd.underlying50, Tryd.underlying55, Tryd.underlying57, Tryd.underlying67, siz3, agg3, zer3, byt3, siz4, agg4, zer4, byt4, siz5, agg5, zer5, byt5, siz9, agg9, zer9, byt9, siz23, agg23, zer23, byt23, siz24, agg24, zer24, byt24, siz31, agg31, zer31, byt31, siz38, agg38, zer38, byt38, siz39, agg39, zer39, byt39, siz40, agg40, zer40, byt40, siz41, agg41, zer41, byt41, siz42, agg42, zer42, byt42, siz45, agg45, zer45, byt45, siz46, agg46, zer46, byt46, siz48, agg48, zer48, byt48, siz50, agg50, zer50, byt50, siz55, agg55, zer55, byt55, siz57, agg57, zer57, byt57, siz67, agg67, zer67, byt67, AHeap.get_alloc, AHeap.get_set, AHeap.next_alloc, AHeap.next_set, AHeap.loadCells, AHeap.load1, AHeap.storeCells, List.getElem?_cons_zero, List.getElem?_cons_succ, List.length_cons, List.length_nil, List.drop_zero, List.take_succ_cons, List.take_zero, List.drop_succ_cons, List.drop_nil, List.take_nil, List.append_nil, List.cons_append, List.nil_append, binA, isConstO, keyOk, ents_some, Bool.or_true, Bool.or_false, Bool.true_or, Bool.false_or, wantedA, dstOk, Option.bind_some, List.append_nil, decide_true, decide_false, Int.toNat_zero, Int.le_refl, beq_self_eq_true, fn54, fn38, boundsA, boundA, Int.toNat_natCast, Int.natCast_one, f1, f2, f3, f4, f5, f6, and_self, List.take_length] <;> rfl))
        | ((with_reducible apply wpOps_skipT); exact rfl; exact rfl)
        | ((with_reducible apply wpOps_skipN); exact rfl; exact rfl)
        | ((with_reducible apply dw_skipT); exact rfl; exact rfl)
        | (with_reducible apply aw_seq)
        | (with_reducible apply aw_regionL)
        | (with_reducible apply aw_block)
        | (with_reducible apply aw_scope)
        | (with_reducible apply aw_nil)
        | (with_reducible apply aw_then)
        | (with_reducible apply aw_thenR)
        | (with_reducible apply aw_thenE)
        | (with_reducible apply aw_blockR)
        | (with_reducible apply aw_blockN)
        | (with_reducible apply aw_blockE)
        | (with_reducible apply aw_ret)
        | (with_reducible apply aw_exit)
        | (with_reducible apply aw_skip)
        | ((with_reducible apply aw_condT); exact rfl)
        | ((with_reducible apply aw_condF); exact rfl)
        | ((with_reducible apply aw_drawL); (simp only [List.zipIdx_cons, List.zipIdx_nil, Nat.zero_add, Nat.reduceAdd] <;> rfl); kernel_rfl; kernel_rfl)
        | (with_reducible apply dw_nil)
        | fail)

      exact ⟨rfl, _, rfl, rfl, (Keep.refl _).bump _⟩
    · have f1 : (0 ≤ Lib.indexByte s 91) = False := eq_false hx
      have e1 : cutF s = (s, [], false) := by simp only [cutF, if_neg hx]
      rw [e1]
      repeat (first
        | ((first | ((with_reducible apply wpOps_valT); exact rfl; exact rfl) | ((with_reducible apply wpOps_storeN); exact rfl; exact rfl) | ((with_reducible apply dw_pureT); exact rfl; exact rfl; exact rfl) | ((with_reducible apply dw_readT); exact rfl; exact rfl; exact rfl)); (simp only [List.getElem?_toArray, List.toList_toArray, bin_eql, bin_neq, bin_lss, bin_leq, bin_gtr, bin_geq, bin_add, bin_sub, bin_mul, un_not, unA, AHeap.get_bump, AHeap.next_bump, opK0, kMove, kPick, kAlloc, kBox, kBuild, kBuildSlice, kLoad, kStore, kNilCheck, kBinOp, kUnOp, kFieldAddr, kField, kIndexAddr, kIndex, kLookup, kMapUpdate, kMakeMap, kExtract, kSlice, kCall, lenA, evA, evAs, evParts, toAV, toAV0, toAVs, T.get_set, T.get_nil, Nat.reduceAdd, Nat.reduceMul, Nat.reduceEqDiff, Nat.zero_add, Nat.add_zero, Nat.mul_one, Nat.zero_mul, AV.cells, List.all_cons, List.all_nil, AV.scalar, Bool.and_true, Bool.true_and, ↓reduceIte, if_true, und_all, Tryd.underlying3, Tryd.underlying4, Tryd.underlying5, Tryd.underlying9, Tryd.underlying23, Tryd.underlying24, Tryd.underlying31, Tryd.underlying38, Tryd.underlying39, Tryd.underlying40, Tryd.underlying41, Tryd.underlying42, Tryd.underlying45, Tryd.underlying46, Tryd.underlying48, Tryd.underlying50, Tryd.underlying55, Tryd.underlying57, Tryd.underlying67, siz3, agg3, zer3, byt3, siz4, agg4, zer4, byt4, siz5, agg5, zer5, byt5, siz9, agg9, zer9, byt9, siz23, agg23, zer23, byt23, siz24, agg24, zer24, byt24, siz31, agg31, zer31, byt31, siz38, agg38, zer38, byt38, siz39, agg39, zer39, byt39, siz40, agg40, zer40, byt40, siz41, agg41, zer41, byt41, siz42, agg42, zer42, byt42, siz45, agg45, zer45, byt45, siz46, agg46, zer46, byt46, siz48, agg48, zer48, byt48, siz50, agg50, zer50, byt50, siz55, agg55, zer55, byt55, siz57, agg57, zer57, byt57, siz67, agg67, zer67, byt67, AHeap.get_alloc, AHeap.get_set, AHeap.next_alloc, AHeap.next_set, AHeap.loadCells, AHeap.load1, AHeap.storeCells, List.getElem?_cons_zero, List.getElem?_cons_succ, List.length_cons, List.length_nil, List.drop_zero, List.take_succ_cons, List.take_zero, List.drop_succ_cons, List.drop_nil, List.take_nil, List.append_nil, List.cons_append, List.nil_append, binA, isConstO, keyOk, ents_some, Bool.or_true, Bool.or_false, Bool.true_or, Bool.false_or, wantedA, dstOk, Option.bind_some, List.append_nil, decide_true, decide_false, Int.toNat_zero, Int.le_refl, beq_self_eq_true, fn54, fn38, boundsA, boundA, Int.toNat_natCast, Int.natCast_one, f1] <;> rfl))
        | ((with_reducible apply wpOps_skipT); exact rfl; exact rfl)
        | ((with_reducible apply wpOps_skipN); exact rfl; exact rfl)
        | ((with_reducible apply dw_skipT); exact rfl; exact rfl)
        | (with_reducible apply aw_seq)
        | (with_reducible apply aw_regionL)
        | (with_reducible apply aw_block)
        | (with_reducible apply aw_scope)
        | (with_reducible apply aw_nil)
        | (with_reducible apply aw_then)
        | (with_reducible apply aw_thenR)
        | (with_reducible apply aw_thenE)
        | (with_reducible apply aw_blockR)
        | (with_reducible apply aw_blockN)
        | (with_reducible apply aw_blockE)
        | (with_reducible apply aw_ret)
        | (with_reducible apply aw_exit)
        | (with_reducible apply aw_skip)
        | ((with_reducible apply aw_condT); exact rfl)
        | ((with_reducible apply aw_condF); exact rfl)
        | ((with_reducible apply aw_drawL); (simp only [List.zipIdx_cons, List.zipIdx_nil, Nat.zero_add, Nat.reduceAdd] <;> rfl); kernel_rfl; kernel_rfl)
        | (with_reducible apply dw_nil)
        | fail)

      exact ⟨rfl, _, rfl, rfl, Keep.refl _⟩
theorem cut_w (h : AHeap) (s : List UInt8) (hs : s.length ≤ 281474976710656) : WCall env 24 [.str s, .str [91]] h (fun out h' => out = .ret (.tup [.str (cutF s).1, .str (cutF s).2.1, .bool (cutF s).2.2]) ∧ Keep h h') := by
    refine WCall.body pr24 fn24 rfl (Nat.le_of_ble_eq_true rfl) ?_
    simp only [argsA]
    repeat (first
      | ((first | ((with_reducible apply wpOps_valT); exact rfl; exact rfl) | ((with_reducible apply wpOps_storeN); exact rfl; exact rfl) | ((with_reducible apply dw_pureT); exact rfl; exact rfl; exact rfl) | ((with_reducible apply dw_readT); exact rfl; exact rfl; exact rfl)); (simp only [List.getElem?_toArray, List.toList_toArray, bin_eql, bin_neq, bin_lss, bin_leq, bin_gtr, bin_geq, bin_add, bin_sub, bin_mul, un_not, unA, AHeap.get_bump, AHeap.next_bump, opK0, kMove, kPick, kAlloc, kBox, kBuild, kBuildSlice, kLoad, kStore, kNilCheck, kBinOp, kUnOp, kFieldAddr, kField, kIndexAddr, kIndex, kLookup, kMapUpdate, kMakeMap, kExtract, kSlice, kCall, lenA, evA, evAs, evParts, toAV, toAV0, toAVs, T.get_set, T.get_nil, Nat.reduceAdd, Nat.reduceMul, Nat.reduceEqDiff, Nat.zero_add, Nat.add_zero, Nat.mul_one, Nat.zero_mul, AV.cells, List.all_cons, List.all_nil, AV.scalar, Bool.and_true, Bool.true_and, ↓reduceIte, if_true, und_all, Tryd.underlying3, Tryd.underlying4, Tryd.underlying5, Tryd.underlying9, Tryd.underlying23, Tryd.underlying24, Tryd.underlying31, Tryd.underlying38, Tryd.underlying39, Tryd.underlying40, Tryd.underlying41, Tryd.underlying42, Tryd.underlying45, Tryd.underlying46, Tryd.underlying48, Tryd.underlying50, Tryd.underlying55, Tryd.underlying57, Tryd.underlying67, siz3, agg3, zer3, byt3, siz4, agg4, zer4, byt4, siz5, agg5, zer5, byt5, siz9, agg9, zer9, byt9, siz23, agg23, zer23, byt23, siz24, agg24, zer24, byt24, siz31, agg31, zer31, byt31, siz38, agg38, zer38, byt38, siz39, agg39, zer39, byt39, siz40, agg40, zer40, byt40, siz41, agg41, zer41, byt41, siz42, agg42, zer42, byt42, siz45, agg45, zer45, byt45, siz46, agg46, zer46, byt46, siz48, agg48, zer48, byt48, siz50, agg50, zer50, byt50, siz55, agg55, zer55, byt55, siz57, agg57, zer57, byt57, siz67, agg67, zer67, byt67, AHeap.get_alloc, AHeap.get_set, AHeap.next_alloc, AHeap.next_set, AHeap.loadCells, AHeap.load1, AHeap.storeCells, List.getElem?_cons_zero, List.getElem?_cons_succ, List.length_cons, List.length_nil, List.drop_zero, List.take_succ_cons, List.take_zero, List.drop_succ_cons, List.drop_nil, List.take_nil, List.append_nil, List.cons_append, List.nil_append, binA, isConstO, keyOk, ents_some, Bool.or_true, Bool.or_false, Bool.true_or, Bool.false_or, wantedA, dstOk, Option.bind_some, List.append_nil, decide_true, decide_false, Int.toNat_zero, Int.le_refl, beq_self_eq_true, fn54, fn38, boundsA, boundA, Int.toNat_natCast, Int.natCast_one] <;> rfl))
      | ((with_reducible apply wpOps_skipT); exact rfl; exact rfl)
      | ((with_reducible apply wpOps_skipN); exact rfl; exact rfl)
      | ((with_reducible apply dw_skipT); exact rfl; exact rfl)
      | (with_reducible apply aw_seq)
      | (with_reducible apply aw_regionL)
      | (with_reducible apply aw_block)
      | (with_reducible apply aw_scope)
      | (with_reducible apply aw_nil)
      | (with_reducible apply aw_then)
      | (with_reducible apply aw_thenR)
      | (with_reducible apply aw_thenE)
      | (with_reducible apply aw_blockR)
      | (with_reducible apply aw_blockN)
      | (with_reducible apply aw_blockE)
      | (with_reducible apply aw_ret)
      | (with_reducible apply aw_exit)
      | (with_reducible apply aw_skip)
      | ((with_reducible apply aw_condT); exact rfl)
      | ((with_reducible apply aw_condF); exact rfl)
      | ((with_reducible apply aw_drawL); (simp only [List.zipIdx_cons, List.zipIdx_nil, Nat.zero_add, Nat.reduceAdd] <;> rfl); kernel_rfl; kernel_rfl)
      | (with_reducible apply dw_nil)
      | fail)

    (with_reducible apply wpOps_callT); exact rfl; exact rfl; (simp only [List.getElem?_toArray, List.toList_toArray, bin_eql, bin_neq, bin_lss, bin_leq, bin_gtr, bin_geq, bin_add, bin_sub, bin_mul, un_not, unA, AHeap.get_bump, AHeap.next_bump, opK0, kMove, kPick, kAlloc, kBox, kBuild, kBuildSlice, kLoad, kStore, kNilCheck, kBinOp, kUnOp, kFieldAddr, kField, kIndexAddr, kIndex, kLookup, kMapUpdate, kMakeMap, kExtract, kSlice, kCall, lenA, evA, evAs, evParts, toAV, toAV0, toAVs, T.get_set, T.get_nil, Nat.reduceAdd, Nat.reduceMul, Nat.reduceEqDiff, Nat.zero_add, Nat.add_zero, Nat.mul_one, Nat.zero_mul, AV.cells, List.all_cons, List.all_nil, AV.scalar, Bool.and_true, Bool.true_and, ↓reduceIte, if_true, und_all, Tryd.underlying3, Tryd.underlying4, Tryd.underlying5, Tryd.underlying9, Tryd.underlying23, Tryd.underlying24, Tryd.underlying31, Tryd.underlying38, Tryd.underlying39, Tryd.underlying40, Tryd.underlying41, Tryd.underlying42, Tryd.underlying45, Tryd.underlying46, Tryd.underlying48, Tryd.underlying50, Tryd.underlying55, Tryd.underlying57, Tryd.underlying67, siz3, agg3, zer3, byt3, siz4, agg4, zer4, byt4, siz5, agg5, zer5, byt5, siz9, agg9, zer9, byt9, siz23, agg23, zer23, byt23, siz24, agg24, zer24, byt24, siz31, agg31, zer31, byt31, siz38, agg38, zer38, byt38, siz39, agg39, zer39, byt39, siz40, agg40, zer40, byt40, siz41, agg41, zer41, byt41, siz42, agg42, zer42, byt42, siz45, agg45, zer45, byt45, siz46, agg46, zer46, byt46, siz48, agg48, zer48, byt48, siz50, agg50, zer50, byt50, siz55, agg55, zer55, byt55, siz57, agg57, zer57, byt57, siz67, agg67, zer67, byt67, AHeap.get_alloc, AHeap.get_set, AHeap.next_alloc, AHeap.next_set, AHeap.loadCells, AHeap.load1, AHeap.storeCells, List.getElem?_cons_zero, List.getElem?_cons_succ, List.length_cons, List.length_nil, List.drop_zero, List.take_succ_cons, List.take_zero, List.drop_succ_cons, List.drop_nil, List.take_nil, List.append_nil, List.cons_append, List.nil_append, binA, isConstO, keyOk, ents_some, Bool.or_true, Bool.or_false, Bool.true_or, Bool.false_or, wantedA, dstOk, Option.bind_some, List.append_nil, decide_true, decide_false, Int.toNat_zero, Int.le_refl, beq_self_eq_true, fn54, fn38, boundsA, boundA, Int.toNat_natCast, Int.natCast_one] <;> rfl)

    refine (cut38_w h s hs).mono fun out h2 hq => ?_
    obtain ⟨rfl, hk⟩ := hq
    dsimp only
    repeat (first
      | ((first | ((with_reducible apply wpOps_valT); exact rfl; exact rfl) | ((with_reducible apply wpOps_storeN); exact rfl; exact rfl) | ((with_reducible apply dw_pureT); exact rfl; exact rfl; exact rfl) | ((with_reducible apply dw_readT); exact rfl; exact rfl; exact rfl)); (simp only [List.getElem?_toArray, List.toList_toArray, bin_eql, bin_neq, bin_lss, bin_leq, bin_gtr, bin_geq, bin_add, bin_sub, bin_mul, un_not, unA, AHeap.get_bump, AHeap.next_bump, opK0, kMove, kPick, kAlloc, kBox, kBuild, kBuildSlice, kLoad, kStore, kNilCheck, kBinOp, kUnOp, kFieldAddr, kField, kIndexAddr, kIndex, kLookup, kMapUpdate, kMakeMap, kExtract, kSlice, kCall, lenA, evA, evAs, evParts, toAV, toAV0, toAVs, T.get_set, T.get_nil, Nat.reduceAdd, Nat.reduceMul, Nat.reduceEqDiff, Nat.zero_add, Nat.add_zero, Nat.mul_one, Nat.zero_mul, AV.cells, List.all_cons, List.all_nil, AV.scalar, Bool.and_true, Bool.true_and, ↓reduceIte, if_true, und_all, Tryd.underlying3, Tryd.underlying4, Tryd.underlying5, Tryd.underlying9, Tryd.underlying23, Tryd.underlying24, Tryd.underlying31, Tryd.underlying38, Tryd.underlying39, Tryd.underlying40, Tryd.underlying41, Tryd.underlying42, Tryd.underlying45, Tryd.underlying46, Tryd.underlying48, Tryd.underlying50, Tryd.underlying55, Tryd.underlying57, Tryd.underlying67, siz3, agg3, zer3, byt3, siz4, agg4, zer4, byt4, siz5, agg5, zer5, byt5, siz9, agg9, zer9, byt9, siz23, agg23, zer23, byt23, siz24, agg24, zer24, byt24, siz31, agg31, zer31, byt31, siz38, agg38, zer38, byt38, siz39, agg39, zer39, byt39, siz40, agg40, zer40, byt40, siz41, agg41, zer41, byt41, siz42, agg42, zer42, byt42, siz45, agg45, zer45, byt45, siz46, agg46, zer46, byt46, siz48, agg48, zer48, byt48, siz50, agg50, zer50, byt50, siz55, agg55, zer55, byt55, siz57, agg57, zer57, byt57, siz67, agg67, zer67, byt67, AHeap.get_alloc, AHeap.get_set, AHeap.next_alloc, AHeap.next_set, AHeap.loadCells, AHeap.load1, AHeap.storeCells, List.getElem?_cons_zero, List.getElem?_cons_succ, List.length_cons, List.length_nil, List.drop_zero, List.take_succ_cons, List.take_zero, List.drop_succ_cons, List.drop_nil, List.take_nil, List.append_nil, List.cons_append, List.nil_append, binA, isConstO, keyOk, ents_some, Bool.or_true, Bool.or_false, Bool.true_or, Bool.false_or, wantedA, dstOk, Option.bind_some, List.append_nil, decide_true, decide_false, Int.toNat_zero, Int.le_refl, beq_self_eq_true, fn54, fn38, boundsA, boundA, Int.toNat_natCast, Int.natCast_one] <;> rfl))
      | ((with_reducible apply wpOps_skipT); exact rfl; exact rfl)
      | ((with_reducible apply wpOps_skipN); exact rfl; exact rfl)
      | ((with_reducible apply dw_skipT); exact rfl; exact rfl)
      | (with_reducible apply aw_seq)
      | (with_reducible apply aw_regionL)
      | (with_reducible apply aw_block)
      | (with_reducible apply aw_scope)
      | (with_reducible apply aw_nil)
      | (with_reducible apply aw_then)
      | (with_reducible apply aw_thenR)
      | (with_reducible apply aw_thenE)
      | (with_reducible apply aw_blockR)
      | (with_reducible apply aw_blockN)
      | (with_reducible apply aw_blockE)
      | (with_reducible apply aw_ret)
      | (with_reducible apply aw_exit)
      | (with_reducible apply aw_skip)
      | ((with_reducible apply aw_condT); exact rfl)
      | ((with_reducible apply aw_condF); exact rfl)
      | ((with_reducible apply aw_drawL); (simp only [List.zipIdx_cons, List.zipIdx_nil, Nat.zero_add, Nat.reduceAdd] <;> rfl); kernel_rfl; kernel_rfl)
      | (with_reducible apply dw_nil)
      | fail)

    exact ⟨rfl, _, rfl, rfl, hk⟩
end Go.Proofs.YtkkhpibnbaepiaaDoor
