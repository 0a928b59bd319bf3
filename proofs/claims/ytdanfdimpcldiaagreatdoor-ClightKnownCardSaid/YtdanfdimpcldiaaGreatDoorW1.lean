/-
  ClightKnown: a function that calls itself runs into the limit on calls, walked on the abstract machine. Each theorem states its own conditions; there are no others.
-/
import Derived.Test.YtdanfdimpcldiaaGreatDoorEnvRun
set_option maxRecDepth 100000
set_option linter.unusedSimpArgs false
set_option linter.unusedVariables false
set_option maxHeartbeats 0
namespace Go.Proofs.YtdanfdimpcldiaaGreatDoor
open Go.Am
theorem ents_some (h : AHeap) (r : Nat) : h.ents (some r) = (match h.get r with | some (.map es) => some es | _ => none) := rfl
theorem wr {a : Int} (h0 : -9223372036854775808 ≤ a) (h1 : a ≤ 9223372036854775807) : IntKind.wrap .i64 a = a := by
  rw [IntKind.wrap_i64]; omega

/-- How a run without a meaning ends. -/
def stuckV : AV := .iface 79 (.agg [.int .i64 3])
/-- The run's object. -/
def rc (p mm ww : AV) (lf : Int) (kd ex ev lk : AV) (sp : Int) (gl : AV) (c : Int) (by_ : AV) : List AV := [p, mm, ww, .int .i64 lf, kd, ex, ev, lk, .int .i64 sp, gl, .int .i64 c, by_]
/-- One object changed. -/
structure Upd (R : Nat) (c : List AV) (h h' : AHeap) : Prop where
  get : h'.get R = some (.cells true 0 c)
  old : ∀ i, i ≠ R → h'.get i = h.get i
  next : h'.next = h.next
def LkAt (H : AHeap) (j n : Nat) : Prop := ∃ cs, H.get j = some (.cells true 3 cs) ∧ cs.length = n * 3

theorem must_w (R : Nat) (h : AHeap) : WCall env1 22 [.ptr (some (R, 0)), .bool true] h (fun out h' => out = .ret (.tup []) ∧ h' = h) := by
  refine WCall.body pr22 fn22 rfl (Nat.le_of_ble_eq_true rfl) ?_
  simp only [argsA]
  repeat (first
    | ((first | ((with_reducible apply wpOps_valT); exact rfl; exact rfl) | ((with_reducible apply wpOps_storeN); exact rfl; exact rfl) | ((with_reducible apply dw_pureT); exact rfl; exact rfl; exact rfl) | ((with_reducible apply dw_readT); exact rfl; exact rfl; exact rfl)); (simp only [List.getElem?_toArray, List.toList_toArray, bin_eql, bin_neq, bin_lss, bin_leq, bin_gtr, bin_geq, bin_add, bin_sub, bin_mul, un_not, unA, AHeap.get_bump, AHeap.next_bump, opK0, kMove, kPick, kAlloc, kBox, kBuild, kBuildSlice, kLoad, kStore, kNilCheck, kBinOp, kUnOp, kFieldAddr, kField, kIndexAddr, kIndex, kLookup, kMapUpdate, kMakeMap, kExtract, kSlice, kCall, lenA, evA, evAs, evParts, toAV, toAV0, toAVs, T.get_set, T.get_nil, Nat.reduceAdd, Nat.reduceMul, Nat.reduceEqDiff, Nat.zero_add, Nat.add_zero, Nat.mul_one, Nat.zero_mul, AV.cells, List.all_cons, List.all_nil, AV.scalar, Bool.and_true, Bool.true_and, ↓reduceIte, if_true, und_all, AHeap.get_alloc, AHeap.get_set, AHeap.next_alloc, AHeap.next_set, AHeap.loadCells, AHeap.load1, AHeap.storeCells, List.getElem?_cons_zero, List.getElem?_cons_succ, List.length_cons, List.length_nil, List.drop_zero, List.take_succ_cons, List.take_zero, List.drop_succ_cons, List.drop_nil, List.take_nil, List.append_nil, List.cons_append, List.nil_append, binA, isConstO, keyOk, ents_some, Bool.or_true, Bool.or_false, Bool.true_or, Bool.false_or, wantedA, dstOk, Option.bind_some, List.append_nil, Tryz.underlying2, Tryz.underlying3, Tryz.underlying4, Tryz.underlying9, Tryz.underlying24, Tryz.underlying26, Tryz.underlying30, Tryz.underlying35, Tryz.underlying42, Tryz.underlying44, Tryz.underlying45, Tryz.underlying47, Tryz.underlying51, Tryz.underlying63, Tryz.underlying64, Tryz.underlying66, Tryz.underlying67, Tryz.underlying69, Tryz.underlying71, Tryz.underlying79, Tryz.underlying88, Tryz.underlying90, Tryz.underlying131, Tryz.underlying132, Tryz.underlying134, Tryz.underlying135, Tryz.underlying137, Tryz.underlying177, Tryz.underlying178, Tryz.underlying180, Tryz.underlying207, Tryz.underlying209, agg131, agg132, agg134, agg135, agg137, agg177, agg178, agg180, agg2, agg207, agg209, agg24, agg26, agg3, agg30, agg35, agg4, agg42, agg44, agg45, agg47, agg51, agg63, agg64, agg66, agg67, agg69, agg71, agg79, agg88, agg9, agg90, byt131, byt132, byt134, byt135, byt137, byt177, byt178, byt180, byt2, byt207, byt209, byt24, byt26, byt3, byt30, byt35, byt4, byt42, byt44, byt45, byt47, byt51, byt63, byt64, byt66, byt67, byt69, byt71, byt79, byt88, byt9, byt90, siz131, siz132, siz134, siz135, siz137, siz177, siz178, siz180, siz2, siz207, siz209, siz24, siz26, siz3, siz30, siz35, siz4, siz42, siz44, siz45, siz47, siz51, siz63, siz64, siz66, siz67, siz69, siz71, siz79, siz88, siz9, siz90, zer131, zer132, zer134, zer135, zer137, zer177, zer178, zer180, zer2, zer207, zer209, zer24, zer26, zer3, zer30, zer35, zer4, zer42, zer44, zer45, zer47, zer51, zer63, zer64, zer66, zer67, zer69, zer71, zer79, zer88, zer9, zer90, decide_true, decide_false, beq_self_eq_true, bne_self_eq_false, Bool.not_true, Bool.not_false, Bool.false_eq_true, if_false, List.zipIdx_cons, reid, toAV, Int.toNat_natCast, kPanic, kMakeInterface] <;> rfl))
    | ((with_reducible apply wpOps_skipT); exact rfl; exact rfl)
    | ((with_reducible apply wpOps_skipN); exact rfl; exact rfl)
    | ((with_reducible apply dw_skipT); exact rfl; exact rfl)
    | (with_reducible apply aw_seq)
    | (with_reducible apply aw_regionL)
    | (with_reducible apply aw_block)
    | (with_reducible apply aw_scope)
    | (with_reducible apply aw_nil)
    | (with_reducible apply aw_then)
    | (with_reducible apply aw_thenR)
    | (with_reducible apply aw_thenE)
    | (with_reducible apply aw_thenP)
    | (with_reducible apply aw_blockP)
    | (with_reducible apply aw_blockR)
    | (with_reducible apply aw_blockN)
    | (with_reducible apply aw_blockE)
    | (with_reducible apply aw_ret)
    | (with_reducible apply aw_exit)
    | (with_reducible apply aw_skip)
    | ((with_reducible apply aw_condT); exact rfl)
    | ((with_reducible apply aw_condF); exact rfl)
    | ((with_reducible apply aw_drawL); (simp only [List.zipIdx_cons, List.zipIdx_nil, Nat.zero_add, Nat.reduceAdd] <;> rfl); kernel_rfl; kernel_rfl)
    | (with_reducible apply dw_nil)
    | fail)

  exact ⟨rfl, _, rfl, rfl, rfl⟩
theorem stop_w (R : Nat) (h : AHeap) : WCall env1 35 [.ptr (some (R, 0)), .int .i64 3] h (fun out h' => out = .pan stuckV ∧ h' = h) := by
  refine WCall.body pr35 fn35 rfl (Nat.le_of_ble_eq_true rfl) ?_
  simp only [argsA]
  repeat (first
    | ((first | ((with_reducible apply wpOps_valT); exact rfl; exact rfl) | ((with_reducible apply wpOps_storeN); exact rfl; exact rfl) | ((with_reducible apply dw_pureT); exact rfl; exact rfl; exact rfl) | ((with_reducible apply dw_readT); exact rfl; exact rfl; exact rfl)); (simp only [List.getElem?_toArray, List.toList_toArray, bin_eql, bin_neq, bin_lss, bin_leq, bin_gtr, bin_geq, bin_add, bin_sub, bin_mul, un_not, unA, AHeap.get_bump, AHeap.next_bump, opK0, kMove, kPick, kAlloc, kBox, kBuild, kBuildSlice, kLoad, kStore, kNilCheck, kBinOp, kUnOp, kFieldAddr, kField, kIndexAddr, kIndex, kLookup, kMapUpdate, kMakeMap, kExtract, kSlice, kCall, lenA, evA, evAs, evParts, toAV, toAV0, toAVs, T.get_set, T.get_nil, Nat.reduceAdd, Nat.reduceMul, Nat.reduceEqDiff, Nat.zero_add, Nat.add_zero, Nat.mul_one, Nat.zero_mul, AV.cells, List.all_cons, List.all_nil, AV.scalar, Bool.and_true, Bool.true_and, ↓reduceIte, if_true, und_all, AHeap.get_alloc, AHeap.get_set, AHeap.next_alloc, AHeap.next_set, AHeap.loadCells, AHeap.load1, AHeap.storeCells, List.getElem?_cons_zero, List.getElem?_cons_succ, List.length_cons, List.length_nil, List.drop_zero, List.take_succ_cons, List.take_zero, List.drop_succ_cons, List.drop_nil, List.take_nil, List.append_nil, List.cons_append, List.nil_append, binA, isConstO, keyOk, ents_some, Bool.or_true, Bool.or_false, Bool.true_or, Bool.false_or, wantedA, dstOk, Option.bind_some, List.append_nil, Tryz.underlying2, Tryz.underlying3, Tryz.underlying4, Tryz.underlying9, Tryz.underlying24, Tryz.underlying26, Tryz.underlying30, Tryz.underlying35, Tryz.underlying42, Tryz.underlying44, Tryz.underlying45, Tryz.underlying47, Tryz.underlying51, Tryz.underlying63, Tryz.underlying64, Tryz.underlying66, Tryz.underlying67, Tryz.underlying69, Tryz.underlying71, Tryz.underlying79, Tryz.underlying88, Tryz.underlying90, Tryz.underlying131, Tryz.underlying132, Tryz.underlying134, Tryz.underlying135, Tryz.underlying137, Tryz.underlying177, Tryz.underlying178, Tryz.underlying180, Tryz.underlying207, Tryz.underlying209, agg131, agg132, agg134, agg135, agg137, agg177, agg178, agg180, agg2, agg207, agg209, agg24, agg26, agg3, agg30, agg35, agg4, agg42, agg44, agg45, agg47, agg51, agg63, agg64, agg66, agg67, agg69, agg71, agg79, agg88, agg9, agg90, byt131, byt132, byt134, byt135, byt137, byt177, byt178, byt180, byt2, byt207, byt209, byt24, byt26, byt3, byt30, byt35, byt4, byt42, byt44, byt45, byt47, byt51, byt63, byt64, byt66, byt67, byt69, byt71, byt79, byt88, byt9, byt90, siz131, siz132, siz134, siz135, siz137, siz177, siz178, siz180, siz2, siz207, siz209, siz24, siz26, siz3, siz30, siz35, siz4, siz42, siz44, siz45, siz47, siz51, siz63, siz64, siz66, siz67, siz69, siz71, siz79, siz88, siz9, siz90, zer131, zer132, zer134, zer135, zer137, zer177, zer178, zer180, zer2, zer207, zer209, zer24, zer26, zer3, zer30, zer35, zer4, zer42, zer44, zer45, zer47, zer51, zer63, zer64, zer66, zer67, zer69, zer71, zer79, zer88, zer9, zer90, decide_true, decide_false, beq_self_eq_true, bne_self_eq_false, Bool.not_true, Bool.not_false, Bool.false_eq_true, if_false, List.zipIdx_cons, reid, toAV, Int.toNat_natCast, kPanic, kMakeInterface] <;> rfl))
    | ((with_reducible apply wpOps_skipT); exact rfl; exact rfl)
    | ((with_reducible apply wpOps_skipN); exact rfl; exact rfl)
    | ((with_reducible apply dw_skipT); exact rfl; exact rfl)
    | (with_reducible apply aw_seq)
    | (with_reducible apply aw_regionL)
    | (with_reducible apply aw_block)
    | (with_reducible apply aw_scope)
    | (with_reducible apply aw_nil)
    | (with_reducible apply aw_then)
    | (with_reducible apply aw_thenR)
    | (with_reducible apply aw_thenE)
    | (with_reducible apply aw_thenP)
    | (with_reducible apply aw_blockP)
    | (with_reducible apply aw_blockR)
    | (with_reducible apply aw_blockN)
    | (with_reducible apply aw_blockE)
    | (with_reducible apply aw_ret)
    | (with_reducible apply aw_exit)
    | (with_reducible apply aw_skip)
    | ((with_reducible apply aw_condT); exact rfl)
    | ((with_reducible apply aw_condF); exact rfl)
    | ((with_reducible apply aw_drawL); (simp only [List.zipIdx_cons, List.zipIdx_nil, Nat.zero_add, Nat.reduceAdd] <;> rfl); kernel_rfl; kernel_rfl)
    | (with_reducible apply dw_nil)
    | ((with_reducible apply wpOps_panN); exact rfl; (simp only [List.getElem?_toArray, List.toList_toArray, bin_eql, bin_neq, bin_lss, bin_leq, bin_gtr, bin_geq, bin_add, bin_sub, bin_mul, un_not, unA, AHeap.get_bump, AHeap.next_bump, opK0, kMove, kPick, kAlloc, kBox, kBuild, kBuildSlice, kLoad, kStore, kNilCheck, kBinOp, kUnOp, kFieldAddr, kField, kIndexAddr, kIndex, kLookup, kMapUpdate, kMakeMap, kExtract, kSlice, kCall, lenA, evA, evAs, evParts, toAV, toAV0, toAVs, T.get_set, T.get_nil, Nat.reduceAdd, Nat.reduceMul, Nat.reduceEqDiff, Nat.zero_add, Nat.add_zero, Nat.mul_one, Nat.zero_mul, AV.cells, List.all_cons, List.all_nil, AV.scalar, Bool.and_true, Bool.true_and, ↓reduceIte, if_true, und_all, AHeap.get_alloc, AHeap.get_set, AHeap.next_alloc, AHeap.next_set, AHeap.loadCells, AHeap.load1, AHeap.storeCells, List.getElem?_cons_zero, List.getElem?_cons_succ, List.length_cons, List.length_nil, List.drop_zero, List.take_succ_cons, List.take_zero, List.drop_succ_cons, List.drop_nil, List.take_nil, List.append_nil, List.cons_append, List.nil_append, binA, isConstO, keyOk, ents_some, Bool.or_true, Bool.or_false, Bool.true_or, Bool.false_or, wantedA, dstOk, Option.bind_some, List.append_nil, Tryz.underlying2, Tryz.underlying3, Tryz.underlying4, Tryz.underlying9, Tryz.underlying24, Tryz.underlying26, Tryz.underlying30, Tryz.underlying35, Tryz.underlying42, Tryz.underlying44, Tryz.underlying45, Tryz.underlying47, Tryz.underlying51, Tryz.underlying63, Tryz.underlying64, Tryz.underlying66, Tryz.underlying67, Tryz.underlying69, Tryz.underlying71, Tryz.underlying79, Tryz.underlying88, Tryz.underlying90, Tryz.underlying131, Tryz.underlying132, Tryz.underlying134, Tryz.underlying135, Tryz.underlying137, Tryz.underlying177, Tryz.underlying178, Tryz.underlying180, Tryz.underlying207, Tryz.underlying209, agg131, agg132, agg134, agg135, agg137, agg177, agg178, agg180, agg2, agg207, agg209, agg24, agg26, agg3, agg30, agg35, agg4, agg42, agg44, agg45, agg47, agg51, agg63, agg64, agg66, agg67, agg69, agg71, agg79, agg88, agg9, agg90, byt131, byt132, byt134, byt135, byt137, byt177, byt178, byt180, byt2, byt207, byt209, byt24, byt26, byt3, byt30, byt35, byt4, byt42, byt44, byt45, byt47, byt51, byt63, byt64, byt66, byt67, byt69, byt71, byt79, byt88, byt9, byt90, siz131, siz132, siz134, siz135, siz137, siz177, siz178, siz180, siz2, siz207, siz209, siz24, siz26, siz3, siz30, siz35, siz4, siz42, siz44, siz45, siz47, siz51, siz63, siz64, siz66, siz67, siz69, siz71, siz79, siz88, siz9, siz90, zer131, zer132, zer134, zer135, zer137, zer177, zer178, zer180, zer2, zer207, zer209, zer24, zer26, zer3, zer30, zer35, zer4, zer42, zer44, zer45, zer47, zer51, zer63, zer64, zer66, zer67, zer69, zer71, zer79, zer88, zer9, zer90, decide_true, decide_false, beq_self_eq_true, bne_self_eq_false, Bool.not_true, Bool.not_false, Bool.false_eq_true, if_false, List.zipIdx_cons, reid, toAV, Int.toNat_natCast, kPanic, kMakeInterface] <;> rfl))
    | fail)

  exact ⟨rfl, rfl, rfl⟩
theorem mustnot_w (R : Nat) (h : AHeap) : WCall env1 22 [.ptr (some (R, 0)), .bool false] h (fun out h' => out = .pan stuckV ∧ h' = h) := by
  refine WCall.body pr22 fn22 rfl (Nat.le_of_ble_eq_true rfl) ?_
  simp only [argsA]
  repeat (first
    | ((first | ((with_reducible apply wpOps_valT); exact rfl; exact rfl) | ((with_reducible apply wpOps_storeN); exact rfl; exact rfl) | ((with_reducible apply dw_pureT); exact rfl; exact rfl; exact rfl) | ((with_reducible apply dw_readT); exact rfl; exact rfl; exact rfl)); (simp only [List.getElem?_toArray, List.toList_toArray, bin_eql, bin_neq, bin_lss, bin_leq, bin_gtr, bin_geq, bin_add, bin_sub, bin_mul, un_not, unA, AHeap.get_bump, AHeap.next_bump, opK0, kMove, kPick, kAlloc, kBox, kBuild, kBuildSlice, kLoad, kStore, kNilCheck, kBinOp, kUnOp, kFieldAddr, kField, kIndexAddr, kIndex, kLookup, kMapUpdate, kMakeMap, kExtract, kSlice, kCall, lenA, evA, evAs, evParts, toAV, toAV0, toAVs, T.get_set, T.get_nil, Nat.reduceAdd, Nat.reduceMul, Nat.reduceEqDiff, Nat.zero_add, Nat.add_zero, Nat.mul_one, Nat.zero_mul, AV.cells, List.all_cons, List.all_nil, AV.scalar, Bool.and_true, Bool.true_and, ↓reduceIte, if_true, und_all, AHeap.get_alloc, AHeap.get_set, AHeap.next_alloc, AHeap.next_set, AHeap.loadCells, AHeap.load1, AHeap.storeCells, List.getElem?_cons_zero, List.getElem?_cons_succ, List.length_cons, List.length_nil, List.drop_zero, List.take_succ_cons, List.take_zero, List.drop_succ_cons, List.drop_nil, List.take_nil, List.append_nil, List.cons_append, List.nil_append, binA, isConstO, keyOk, ents_some, Bool.or_true, Bool.or_false, Bool.true_or, Bool.false_or, wantedA, dstOk, Option.bind_some, List.append_nil, Tryz.underlying2, Tryz.underlying3, Tryz.underlying4, Tryz.underlying9, Tryz.underlying24, Tryz.underlying26, Tryz.underlying30, Tryz.underlying35, Tryz.underlying42, Tryz.underlying44, Tryz.underlying45, Tryz.underlying47, Tryz.underlying51, Tryz.underlying63, Tryz.underlying64, Tryz.underlying66, Tryz.underlying67, Tryz.underlying69, Tryz.underlying71, Tryz.underlying79, Tryz.underlying88, Tryz.underlying90, Tryz.underlying131, Tryz.underlying132, Tryz.underlying134, Tryz.underlying135, Tryz.underlying137, Tryz.underlying177, Tryz.underlying178, Tryz.underlying180, Tryz.underlying207, Tryz.underlying209, agg131, agg132, agg134, agg135, agg137, agg177, agg178, agg180, agg2, agg207, agg209, agg24, agg26, agg3, agg30, agg35, agg4, agg42, agg44, agg45, agg47, agg51, agg63, agg64, agg66, agg67, agg69, agg71, agg79, agg88, agg9, agg90, byt131, byt132, byt134, byt135, byt137, byt177, byt178, byt180, byt2, byt207, byt209, byt24, byt26, byt3, byt30, byt35, byt4, byt42, byt44, byt45, byt47, byt51, byt63, byt64, byt66, byt67, byt69, byt71, byt79, byt88, byt9, byt90, siz131, siz132, siz134, siz135, siz137, siz177, siz178, siz180, siz2, siz207, siz209, siz24, siz26, siz3, siz30, siz35, siz4, siz42, siz44, siz45, siz47, siz51, siz63, siz64, siz66, siz67, siz69, siz71, siz79, siz88, siz9, siz90, zer131, zer132, zer134, zer135, zer137, zer177, zer178, zer180, zer2, zer207, zer209, zer24, zer26, zer3, zer30, zer35, zer4, zer42, zer44, zer45, zer47, zer51, zer63, zer64, zer66, zer67, zer69, zer71, zer79, zer88, zer9, zer90, decide_true, decide_false, beq_self_eq_true, bne_self_eq_false, Bool.not_true, Bool.not_false, Bool.false_eq_true, if_false, List.zipIdx_cons, reid, toAV, Int.toNat_natCast, kPanic, kMakeInterface] <;> rfl))
    | ((with_reducible apply wpOps_skipT); exact rfl; exact rfl)
    | ((with_reducible apply wpOps_skipN); exact rfl; exact rfl)
    | ((with_reducible apply dw_skipT); exact rfl; exact rfl)
    | (with_reducible apply aw_seq)
    | (with_reducible apply aw_regionL)
    | (with_reducible apply aw_block)
    | (with_reducible apply aw_scope)
    | (with_reducible apply aw_nil)
    | (with_reducible apply aw_then)
    | (with_reducible apply aw_thenR)
    | (with_reducible apply aw_thenE)
    | (with_reducible apply aw_thenP)
    | (with_reducible apply aw_blockP)
    | (with_reducible apply aw_blockR)
    | (with_reducible apply aw_blockN)
    | (with_reducible apply aw_blockE)
    | (with_reducible apply aw_ret)
    | (with_reducible apply aw_exit)
    | (with_reducible apply aw_skip)
    | ((with_reducible apply aw_condT); exact rfl)
    | ((with_reducible apply aw_condF); exact rfl)
    | ((with_reducible apply aw_drawL); (simp only [List.zipIdx_cons, List.zipIdx_nil, Nat.zero_add, Nat.reduceAdd] <;> rfl); kernel_rfl; kernel_rfl)
    | (with_reducible apply dw_nil)
    | fail)

  (with_reducible apply wpOps_callT); exact rfl; exact rfl; (simp only [List.getElem?_toArray, List.toList_toArray, bin_eql, bin_neq, bin_lss, bin_leq, bin_gtr, bin_geq, bin_add, bin_sub, bin_mul, un_not, unA, AHeap.get_bump, AHeap.next_bump, opK0, kMove, kPick, kAlloc, kBox, kBuild, kBuildSlice, kLoad, kStore, kNilCheck, kBinOp, kUnOp, kFieldAddr, kField, kIndexAddr, kIndex, kLookup, kMapUpdate, kMakeMap, kExtract, kSlice, kCall, lenA, evA, evAs, evParts, toAV, toAV0, toAVs, T.get_set, T.get_nil, Nat.reduceAdd, Nat.reduceMul, Nat.reduceEqDiff, Nat.zero_add, Nat.add_zero, Nat.mul_one, Nat.zero_mul, AV.cells, List.all_cons, List.all_nil, AV.scalar, Bool.and_true, Bool.true_and, ↓reduceIte, if_true, und_all, AHeap.get_alloc, AHeap.get_set, AHeap.next_alloc, AHeap.next_set, AHeap.loadCells, AHeap.load1, AHeap.storeCells, List.getElem?_cons_zero, List.getElem?_cons_succ, List.length_cons, List.length_nil, List.drop_zero, List.take_succ_cons, List.take_zero, List.drop_succ_cons, List.drop_nil, List.take_nil, List.append_nil, List.cons_append, List.nil_append, binA, isConstO, keyOk, ents_some, Bool.or_true, Bool.or_false, Bool.true_or, Bool.false_or, wantedA, dstOk, Option.bind_some, List.append_nil, Tryz.underlying2, Tryz.underlying3, Tryz.underlying4, Tryz.underlying9, Tryz.underlying24, Tryz.underlying26, Tryz.underlying30, Tryz.underlying35, Tryz.underlying42, Tryz.underlying44, Tryz.underlying45, Tryz.underlying47, Tryz.underlying51, Tryz.underlying63, Tryz.underlying64, Tryz.underlying66, Tryz.underlying67, Tryz.underlying69, Tryz.underlying71, Tryz.underlying79, Tryz.underlying88, Tryz.underlying90, Tryz.underlying131, Tryz.underlying132, Tryz.underlying134, Tryz.underlying135, Tryz.underlying137, Tryz.underlying177, Tryz.underlying178, Tryz.underlying180, Tryz.underlying207, Tryz.underlying209, agg131, agg132, agg134, agg135, agg137, agg177, agg178, agg180, agg2, agg207, agg209, agg24, agg26, agg3, agg30, agg35, agg4, agg42, agg44, agg45, agg47, agg51, agg63, agg64, agg66, agg67, agg69, agg71, agg79, agg88, agg9, agg90, byt131, byt132, byt134, byt135, byt137, byt177, byt178, byt180, byt2, byt207, byt209, byt24, byt26, byt3, byt30, byt35, byt4, byt42, byt44, byt45, byt47, byt51, byt63, byt64, byt66, byt67, byt69, byt71, byt79, byt88, byt9, byt90, siz131, siz132, siz134, siz135, siz137, siz177, siz178, siz180, siz2, siz207, siz209, siz24, siz26, siz3, siz30, siz35, siz4, siz42, siz44, siz45, siz47, siz51, siz63, siz64, siz66, siz67, siz69, siz71, siz79, siz88, siz9, siz90, zer131, zer132, zer134, zer135, zer137, zer177, zer178, zer180, zer2, zer207, zer209, zer24, zer26, zer3, zer30, zer35, zer4, zer42, zer44, zer45, zer47, zer51, zer63, zer64, zer66, zer67, zer69, zer71, zer79, zer88, zer9, zer90, decide_true, decide_false, beq_self_eq_true, bne_self_eq_false, Bool.not_true, Bool.not_false, Bool.false_eq_true, if_false, List.zipIdx_cons, reid, toAV, Int.toNat_natCast, kPanic, kMakeInterface, fn35] <;> rfl)

  refine (stop_w R h).mono fun out h2 hq => ?_
  obtain ⟨rfl, rfl⟩ := hq
  dsimp only
  repeat (first
    | ((first | ((with_reducible apply wpOps_valT); exact rfl; exact rfl) | ((with_reducible apply wpOps_storeN); exact rfl; exact rfl) | ((with_reducible apply dw_pureT); exact rfl; exact rfl; exact rfl) | ((with_reducible apply dw_readT); exact rfl; exact rfl; exact rfl)); (simp only [List.getElem?_toArray, List.toList_toArray, bin_eql, bin_neq, bin_lss, bin_leq, bin_gtr, bin_geq, bin_add, bin_sub, bin_mul, un_not, unA, AHeap.get_bump, AHeap.next_bump, opK0, kMove, kPick, kAlloc, kBox, kBuild, kBuildSlice, kLoad, kStore, kNilCheck, kBinOp, kUnOp, kFieldAddr, kField, kIndexAddr, kIndex, kLookup, kMapUpdate, kMakeMap, kExtract, kSlice, kCall, lenA, evA, evAs, evParts, toAV, toAV0, toAVs, T.get_set, T.get_nil, Nat.reduceAdd, Nat.reduceMul, Nat.reduceEqDiff, Nat.zero_add, Nat.add_zero, Nat.mul_one, Nat.zero_mul, AV.cells, List.all_cons, List.all_nil, AV.scalar, Bool.and_true, Bool.true_and, ↓reduceIte, if_true, und_all, AHeap.get_alloc, AHeap.get_set, AHeap.next_alloc, AHeap.next_set, AHeap.loadCells, AHeap.load1, AHeap.storeCells, List.getElem?_cons_zero, List.getElem?_cons_succ, List.length_cons, List.length_nil, List.drop_zero, List.take_succ_cons, List.take_zero, List.drop_succ_cons, List.drop_nil, List.take_nil, List.append_nil, List.cons_append, List.nil_append, binA, isConstO, keyOk, ents_some, Bool.or_true, Bool.or_false, Bool.true_or, Bool.false_or, wantedA, dstOk, Option.bind_some, List.append_nil, Tryz.underlying2, Tryz.underlying3, Tryz.underlying4, Tryz.underlying9, Tryz.underlying24, Tryz.underlying26, Tryz.underlying30, Tryz.underlying35, Tryz.underlying42, Tryz.underlying44, Tryz.underlying45, Tryz.underlying47, Tryz.underlying51, Tryz.underlying63, Tryz.underlying64, Tryz.underlying66, Tryz.underlying67, Tryz.underlying69, Tryz.underlying71, Tryz.underlying79, Tryz.underlying88, Tryz.underlying90, Tryz.underlying131, Tryz.underlying132, Tryz.underlying134, Tryz.underlying135, Tryz.underlying137, Tryz.underlying177, Tryz.underlying178, Tryz.underlying180, Tryz.underlying207, Tryz.underlying209, agg131, agg132, agg134, agg135, agg137, agg177, agg178, agg180, agg2, agg207, agg209, agg24, agg26, agg3, agg30, agg35, agg4, agg42, agg44, agg45, agg47, agg51, agg63, agg64, agg66, agg67, agg69, agg71, agg79, agg88, agg9, agg90, byt131, byt132, byt134, byt135, byt137, byt177, byt178, byt180, byt2, byt207, byt209, byt24, byt26, byt3, byt30, byt35, byt4, byt42, byt44, byt45, byt47, byt51, byt63, byt64, byt66, byt67, byt69, byt71, byt79, byt88, byt9, byt90, siz131, siz132, siz134, siz135, siz137, siz177, siz178, siz180, siz2, siz207, siz209, siz24, siz26, siz3, siz30, siz35, siz4, siz42, siz44, siz45, siz47, siz51, siz63, siz64, siz66, siz67, siz69, siz71, siz79, siz88, siz9, siz90, zer131, zer132, zer134, zer135, zer137, zer177, zer178, zer180, zer2, zer207, zer209, zer24, zer26, zer3, zer30, zer35, zer4, zer42, zer44, zer45, zer47, zer51, zer63, zer64, zer66, zer67, zer69, zer71, zer79, zer88, zer9, zer90, decide_true, decide_false, beq_self_eq_true, bne_self_eq_false, Bool.not_true, Bool.not_false, Bool.false_eq_true, if_false, List.zipIdx_cons, reid, toAV, Int.toNat_natCast, kPanic, kMakeInterface] <;> rfl))
    | ((with_reducible apply wpOps_skipT); exact rfl; exact rfl)
    | ((with_reducible apply wpOps_skipN); exact rfl; exact rfl)
    | ((with_reducible apply dw_skipT); exact rfl; exact rfl)
    | (with_reducible apply aw_seq)
    | (with_reducible apply aw_regionL)
    | (with_reducible apply aw_block)
    | (with_reducible apply aw_scope)
    | (with_reducible apply aw_nil)
    | (with_reducible apply aw_then)
    | (with_reducible apply aw_thenR)
    | (with_reducible apply aw_thenE)
    | (with_reducible apply aw_thenP)
    | (with_reducible apply aw_blockP)
    | (with_reducible apply aw_blockR)
    | (with_reducible apply aw_blockN)
    | (with_reducible apply aw_blockE)
    | (with_reducible apply aw_ret)
    | (with_reducible apply aw_exit)
    | (with_reducible apply aw_skip)
    | ((with_reducible apply aw_condT); exact rfl)
    | ((with_reducible apply aw_condF); exact rfl)
    | ((with_reducible apply aw_drawL); (simp only [List.zipIdx_cons, List.zipIdx_nil, Nat.zero_add, Nat.reduceAdd] <;> rfl); kernel_rfl; kernel_rfl)
    | (with_reducible apply dw_nil)
    | fail)

  exact ⟨rfl, rfl, rfl⟩
theorem step_w (R : Nat) (h : AHeap) {p mm ww kd ex ev lk gl by_ : AV} {lf sp cc : Int} (hR : h.get R = some (.cells true 0 (rc p mm ww lf kd ex ev lk sp gl cc by_))) (h1 : 1 ≤ lf) (h2 : lf ≤ 100000000) (h3 : 0 ≤ sp) (h4 : sp ≤ 100000000) :
    WCall env1 58 [.ptr (some (R, 0))] h (fun out h' => out = .ret (.tup []) ∧ Upd R (rc p mm ww (lf - 1) kd ex ev lk (sp + 1) gl cc by_) h h') := by
  have g0 : (lf == 0) = false := by rw [beq_eq_false_iff_ne]; omega
  have w1 : IntKind.wrap .i64 (lf - 1) = lf - 1 := wr (by omega) (by omega)
  have w2 : IntKind.wrap .i64 (sp + 1) = sp + 1 := wr (by omega) (by omega)
  unfold rc at hR
  refine WCall.body pr58 fn58 rfl (Nat.le_of_ble_eq_true rfl) ?_
  simp only [argsA]
  repeat (first
    | ((first | ((with_reducible apply wpOps_valT); exact rfl; exact rfl) | ((with_reducible apply wpOps_storeN); exact rfl; exact rfl) | ((with_reducible apply dw_pureT); exact rfl; exact rfl; exact rfl) | ((with_reducible apply dw_readT); exact rfl; exact rfl; exact rfl)); (simp only [List.getElem?_toArray, List.toList_toArray, bin_eql, bin_neq, bin_lss, bin_leq, bin_gtr, bin_geq, bin_add, bin_sub, bin_mul, un_not, unA, AHeap.get_bump, AHeap.next_bump, opK0, kMove, kPick, kAlloc, kBox, kBuild, kBuildSlice, kLoad, kStore, kNilCheck, kBinOp, kUnOp, kFieldAddr, kField, kIndexAddr, kIndex, kLookup, kMapUpdate, kMakeMap, kExtract, kSlice, kCall, lenA, evA, evAs, evParts, toAV, toAV0, toAVs, T.get_set, T.get_nil, Nat.reduceAdd, Nat.reduceMul, Nat.reduceEqDiff, Nat.zero_add, Nat.add_zero, Nat.mul_one, Nat.zero_mul, AV.cells, List.all_cons, List.all_nil, AV.scalar, Bool.and_true, Bool.true_and, ↓reduceIte, if_true, und_all, AHeap.get_alloc, AHeap.get_set, AHeap.next_alloc, AHeap.next_set, AHeap.loadCells, AHeap.load1, AHeap.storeCells, List.getElem?_cons_zero, List.getElem?_cons_succ, List.length_cons, List.length_nil, List.drop_zero, List.take_succ_cons, List.take_zero, List.drop_succ_cons, List.drop_nil, List.take_nil, List.append_nil, List.cons_append, List.nil_append, binA, isConstO, keyOk, ents_some, Bool.or_true, Bool.or_false, Bool.true_or, Bool.false_or, wantedA, dstOk, Option.bind_some, List.append_nil, Tryz.underlying2, Tryz.underlying3, Tryz.underlying4, Tryz.underlying9, Tryz.underlying24, Tryz.underlying26, Tryz.underlying30, Tryz.underlying35, Tryz.underlying42, Tryz.underlying44, Tryz.underlying45, Tryz.underlying47, Tryz.underlying51, Tryz.underlying63, Tryz.underlying64, Tryz.underlying66, Tryz.underlying67, Tryz.underlying69, Tryz.underlying71, Tryz.underlying79, Tryz.underlying88, Tryz.underlying90, Tryz.underlying131, Tryz.underlying132, Tryz.underlying134, Tryz.underlying135, Tryz.underlying137, Tryz.underlying177, Tryz.underlying178, Tryz.underlying180, Tryz.underlying207, Tryz.underlying209, agg131, agg132, agg134, agg135, agg137, agg177, agg178, agg180, agg2, agg207, agg209, agg24, agg26, agg3, agg30, agg35, agg4, agg42, agg44, agg45, agg47, agg51, agg63, agg64, agg66, agg67, agg69, agg71, agg79, agg88, agg9, agg90, byt131, byt132, byt134, byt135, byt137, byt177, byt178, byt180, byt2, byt207, byt209, byt24, byt26, byt3, byt30, byt35, byt4, byt42, byt44, byt45, byt47, byt51, byt63, byt64, byt66, byt67, byt69, byt71, byt79, byt88, byt9, byt90, siz131, siz132, siz134, siz135, siz137, siz177, siz178, siz180, siz2, siz207, siz209, siz24, siz26, siz3, siz30, siz35, siz4, siz42, siz44, siz45, siz47, siz51, siz63, siz64, siz66, siz67, siz69, siz71, siz79, siz88, siz9, siz90, zer131, zer132, zer134, zer135, zer137, zer177, zer178, zer180, zer2, zer207, zer209, zer24, zer26, zer3, zer30, zer35, zer4, zer42, zer44, zer45, zer47, zer51, zer63, zer64, zer66, zer67, zer69, zer71, zer79, zer88, zer9, zer90, decide_true, decide_false, beq_self_eq_true, bne_self_eq_false, Bool.not_true, Bool.not_false, Bool.false_eq_true, if_false, List.zipIdx_cons, reid, toAV, Int.toNat_natCast, kPanic, kMakeInterface, hR, g0, w1, w2] <;> rfl))
    | ((with_reducible apply wpOps_skipT); exact rfl; exact rfl)
    | ((with_reducible apply wpOps_skipN); exact rfl; exact rfl)
    | ((with_reducible apply dw_skipT); exact rfl; exact rfl)
    | (with_reducible apply aw_seq)
    | (with_reducible apply aw_regionL)
    | (with_reducible apply aw_block)
    | (with_reducible apply aw_scope)
    | (with_reducible apply aw_nil)
    | (with_reducible apply aw_then)
    | (with_reducible apply aw_thenR)
    | (with_reducible apply aw_thenE)
    | (with_reducible apply aw_thenP)
    | (with_reducible apply aw_blockP)
    | (with_reducible apply aw_blockR)
    | (with_reducible apply aw_blockN)
    | (with_reducible apply aw_blockE)
    | (with_reducible apply aw_ret)
    | (with_reducible apply aw_exit)
    | (with_reducible apply aw_skip)
    | ((with_reducible apply aw_condT); exact rfl)
    | ((with_reducible apply aw_condF); exact rfl)
    | ((with_reducible apply aw_drawL); (simp only [List.zipIdx_cons, List.zipIdx_nil, Nat.zero_add, Nat.reduceAdd] <;> rfl); kernel_rfl; kernel_rfl)
    | (with_reducible apply dw_nil)
    | fail)

  exact ⟨rfl, _, rfl, rfl, ⟨by simp only [AHeap.get_set, if_true]; rfl, fun i hi => by simp only [AHeap.get_set, if_neg hi], rfl⟩⟩
theorem place_w (X : Nat) (h : AHeap) {k : Int} {cs : List AV} (hX : h.get X = some (.cells true 0 (.int .i64 k :: cs))) (h1 : 8 ≤ k) : WCall env1 89 [.ptr (some (X, 0))] h (fun out h' => out = .ret (.bool false) ∧ h' = h) := by
  have g1 : (2 ≤ k) = True := eq_true (by omega)
  have g2 : (k ≤ 7) = False := eq_false (by omega)
  refine WCall.body pr89 fn89 rfl (Nat.le_of_ble_eq_true rfl) ?_
  simp only [argsA]
  repeat (first
    | ((first | ((with_reducible apply wpOps_valT); exact rfl; exact rfl) | ((with_reducible apply wpOps_storeN); exact rfl; exact rfl) | ((with_reducible apply dw_pureT); exact rfl; exact rfl; exact rfl) | ((with_reducible apply dw_readT); exact rfl; exact rfl; exact rfl)); (simp only [List.getElem?_toArray, List.toList_toArray, bin_eql, bin_neq, bin_lss, bin_leq, bin_gtr, bin_geq, bin_add, bin_sub, bin_mul, un_not, unA, AHeap.get_bump, AHeap.next_bump, opK0, kMove, kPick, kAlloc, kBox, kBuild, kBuildSlice, kLoad, kStore, kNilCheck, kBinOp, kUnOp, kFieldAddr, kField, kIndexAddr, kIndex, kLookup, kMapUpdate, kMakeMap, kExtract, kSlice, kCall, lenA, evA, evAs, evParts, toAV, toAV0, toAVs, T.get_set, T.get_nil, Nat.reduceAdd, Nat.reduceMul, Nat.reduceEqDiff, Nat.zero_add, Nat.add_zero, Nat.mul_one, Nat.zero_mul, AV.cells, List.all_cons, List.all_nil, AV.scalar, Bool.and_true, Bool.true_and, ↓reduceIte, if_true, und_all, AHeap.get_alloc, AHeap.get_set, AHeap.next_alloc, AHeap.next_set, AHeap.loadCells, AHeap.load1, AHeap.storeCells, List.getElem?_cons_zero, List.getElem?_cons_succ, List.length_cons, List.length_nil, List.drop_zero, List.take_succ_cons, List.take_zero, List.drop_succ_cons, List.drop_nil, List.take_nil, List.append_nil, List.cons_append, List.nil_append, binA, isConstO, keyOk, ents_some, Bool.or_true, Bool.or_false, Bool.true_or, Bool.false_or, wantedA, dstOk, Option.bind_some, List.append_nil, Tryz.underlying2, Tryz.underlying3, Tryz.underlying4, Tryz.underlying9, Tryz.underlying24, Tryz.underlying26, Tryz.underlying30, Tryz.underlying35, Tryz.underlying42, Tryz.underlying44, Tryz.underlying45, Tryz.underlying47, Tryz.underlying51, Tryz.underlying63, Tryz.underlying64, Tryz.underlying66, Tryz.underlying67, Tryz.underlying69, Tryz.underlying71, Tryz.underlying79, Tryz.underlying88, Tryz.underlying90, Tryz.underlying131, Tryz.underlying132, Tryz.underlying134, Tryz.underlying135, Tryz.underlying137, Tryz.underlying177, Tryz.underlying178, Tryz.underlying180, Tryz.underlying207, Tryz.underlying209, agg131, agg132, agg134, agg135, agg137, agg177, agg178, agg180, agg2, agg207, agg209, agg24, agg26, agg3, agg30, agg35, agg4, agg42, agg44, agg45, agg47, agg51, agg63, agg64, agg66, agg67, agg69, agg71, agg79, agg88, agg9, agg90, byt131, byt132, byt134, byt135, byt137, byt177, byt178, byt180, byt2, byt207, byt209, byt24, byt26, byt3, byt30, byt35, byt4, byt42, byt44, byt45, byt47, byt51, byt63, byt64, byt66, byt67, byt69, byt71, byt79, byt88, byt9, byt90, siz131, siz132, siz134, siz135, siz137, siz177, siz178, siz180, siz2, siz207, siz209, siz24, siz26, siz3, siz30, siz35, siz4, siz42, siz44, siz45, siz47, siz51, siz63, siz64, siz66, siz67, siz69, siz71, siz79, siz88, siz9, siz90, zer131, zer132, zer134, zer135, zer137, zer177, zer178, zer180, zer2, zer207, zer209, zer24, zer26, zer3, zer30, zer35, zer4, zer42, zer44, zer45, zer47, zer51, zer63, zer64, zer66, zer67, zer69, zer71, zer79, zer88, zer9, zer90, decide_true, decide_false, beq_self_eq_true, bne_self_eq_false, Bool.not_true, Bool.not_false, Bool.false_eq_true, if_false, List.zipIdx_cons, reid, toAV, Int.toNat_natCast, kPanic, kMakeInterface, hX, g1, g2] <;> rfl))
    | ((with_reducible apply wpOps_skipT); exact rfl; exact rfl)
    | ((with_reducible apply wpOps_skipN); exact rfl; exact rfl)
    | ((with_reducible apply dw_skipT); exact rfl; exact rfl)
    | (with_reducible apply aw_seq)
    | (with_reducible apply aw_regionL)
    | (with_reducible apply aw_block)
    | (with_reducible apply aw_scope)
    | (with_reducible apply aw_nil)
    | (with_reducible apply aw_then)
    | (with_reducible apply aw_thenR)
    | (with_reducible apply aw_thenE)
    | (with_reducible apply aw_thenP)
    | (with_reducible apply aw_blockP)
    | (with_reducible apply aw_blockR)
    | (with_reducible apply aw_blockN)
    | (with_reducible apply aw_blockE)
    | (with_reducible apply aw_ret)
    | (with_reducible apply aw_exit)
    | (with_reducible apply aw_skip)
    | ((with_reducible apply aw_condT); exact rfl)
    | ((with_reducible apply aw_condF); exact rfl)
    | ((with_reducible apply aw_drawL); (simp only [List.zipIdx_cons, List.zipIdx_nil, Nat.zero_add, Nat.reduceAdd] <;> rfl); kernel_rfl; kernel_rfl)
    | (with_reducible apply dw_nil)
    | fail)

  exact ⟨rfl, _, rfl, rfl, rfl⟩
theorem append_lk {H : AHeap} {j q n : Nat} {c : List AV} (hp : LkAt H j n) (hq : H.get q = some (.cells true 3 c)) (hc : c.length = 3) (hs : c.all AV.scalar = true) (hn : n ≤ 100000) :
    ∃ H', appendA env1 H 24 (.slice (some (j, 0)) n) (.slice (some (q, 0)) 1) = some (.slice (some (H.next, 0)) (n + 1), H') ∧ LkAt H' H.next (n + 1) ∧ H'.next = H.next + 1 ∧ (∀ i, i ≠ j → i ≠ H.next → H'.get i = H.get i) := by
  obtain ⟨cs, hj, hl⟩ := hp
  have hsrc : srcA H 3 (.slice (some (q, 0)) 1) = some (1, c) := by
    simp only [srcA, AHeap.loadCells, hq, hc, Nat.zero_add, Nat.one_mul, Nat.le_refl, if_true, List.drop_zero]
    have : List.take 3 c = c := List.take_of_length_le (by omega)
    rw [this, hs]; rfl
  refine ⟨((H.set j .dead).alloc (.cells true 3 (cs ++ c))).2, ?_, ⟨cs ++ c, ?_, ?_⟩, rfl, ?_⟩
  · simp only [appendA, und_all, Tryz.underlying24, siz35, byt35, zer35, List.length_cons, List.length_nil, Nat.reduceAdd, ne_eq, not_true_eq_false, if_false, hsrc, hj]
    rw [if_neg (by unfold roomy; omega), if_neg (by omega), if_neg (by rw [hl]; omega), if_pos (by rw [hl]; omega)]
    have : List.take (n * 3) (List.drop 0 cs) = cs := List.take_of_length_le (by rw [List.drop_zero, hl]; exact Nat.le_refl _)
    rw [this]
  · rw [show H.next = (H.set j .dead).next from rfl, AHeap.get_alloc, if_pos rfl]
  · rw [List.length_append, hl, hc]; omega
  · intro i h1 h2
    rw [AHeap.get_alloc, if_neg (by rw [AHeap.next_set]; exact h2), AHeap.get_set, if_neg h1]

/-- The tree of the text, and the run's object. -/
structure Ids where
  P : Nat
  FL : Nat
  F : Nat
  M : Nat
  B : Nat
  L : Nat
  S : Nat
  X1 : Nat
  XL : Nat
  X2 : Nat
  R : Nat
  b : Nat
  mm : AV
  ww : AV
  kd : AV
  ex : AV
  ev : AV
  gl : AV
  by_ : AV
structure AstD (d : Ids) (h : AHeap) : Prop where
  p : ∃ t gs m, h.get d.P = some (.cells true 0 [t, gs, .slice (some (d.FL, 0)) 2, m])
  fl : h.get d.FL = some (.cells true 1 [.ptr (some (d.F, 0)), .ptr (some (d.M, 0))])
  f : ∃ a1 a2 a3 a4, h.get d.F = some (.cells true 0 [a1, a2, a3, a4, .slice none 0, .ptr (some (d.B, 0))])
  b : h.get d.B = some (.cells true 0 [.int .i64 1, .ptr none, .ptr none, .ptr none, .slice (some (d.L, 0)) 1])
  l : h.get d.L = some (.cells true 1 [.ptr (some (d.S, 0))])
  s : h.get d.S = some (.cells true 0 [.int .i64 10, .ptr none, .ptr none, .ptr (some (d.X1, 0)), .slice none 0])
  x1 : h.get d.X1 = some (.cells true 0 [.int .i64 15, .str [105, 110, 116], .int .i64 0, .int .i64 1, .int .i64 0, .bool false, .ptr none, .slice (some (d.XL, 0)) 1])
  xl : h.get d.XL = some (.cells true 1 [.ptr (some (d.X2, 0))])
  x2 : h.get d.X2 = some (.cells true 0 [.int .i64 16, .str [105, 110, 116], .int .i64 0, .int .i64 0, .int .i64 0, .bool false, .ptr none, .slice none 0])
structure IdLt (d : Ids) : Prop where
  p : d.P < d.R
  fl : d.FL < d.R
  f : d.F < d.R
  b : d.B < d.R
  l : d.L < d.R
  s : d.S < d.R
  x1 : d.X1 < d.R
  xl : d.XL < d.R
  x2 : d.X2 < d.R
  r : d.R < d.b
/-- What stays: all below 'b' but the run's object. -/
structure Fr (d : Ids) (h h' : AHeap) : Prop where
  old : ∀ i, i < d.b → i ≠ d.R → h'.get i = h.get i
  next : h.next ≤ h'.next
theorem Fr.refl (d : Ids) (h : AHeap) : Fr d h h := ⟨fun _ _ _ => rfl, Nat.le_refl _⟩
theorem Fr.trans {d : Ids} {a b c : AHeap} (h : Fr d a b) (h' : Fr d b c) : Fr d a c := ⟨fun i h1 h2 => (h'.old i h1 h2).trans (h.old i h1 h2), Nat.le_trans h.next h'.next⟩
theorem AstD.fr {d : Ids} {h h' : AHeap} (H : AstD d h) (hl : IdLt d) (hf : Fr d h h') : AstD d h' := by
  obtain ⟨⟨t, gs, m, p⟩, fl, ⟨a1, a2, a3, a4, f⟩, b, l, s, x1, xl, x2⟩ := H
  have := hl.r
  have k : ∀ i, i < d.R → h'.get i = h.get i := fun i hi => hf.old i (by omega) (by omega)
  exact ⟨⟨t, gs, m, (k _ hl.p).trans p⟩, (k _ hl.fl).trans fl, ⟨a1, a2, a3, a4, (k _ hl.f).trans f⟩, (k _ hl.b).trans b, (k _ hl.l).trans l, (k _ hl.s).trans s, (k _ hl.x1).trans x1, (k _ hl.xl).trans xl, (k _ hl.x2).trans x2⟩
/-- The run at 'c' calls. -/
structure Sx (d : Ids) (lf sp : Int) (n : Nat) (c : Int) (h : AHeap) : Prop where
  ast : AstD d h
  r : ∃ j, h.get d.R = some (.cells true 0 (rc (.ptr (some (d.P, 0))) d.mm d.ww lf d.kd d.ex d.ev (.slice (some (j, 0)) n) sp d.gl c d.by_)) ∧ LkAt h j n ∧ d.b ≤ j ∧ j < h.next
  nb : d.b ≤ h.next
theorem Upd.fr {d : Ids} {c : List AV} {h h' : AHeap} (u : Upd d.R c h h') : Fr d h h' := ⟨fun i _ h2 => u.old i h2, Nat.le_of_eq u.next.symm⟩

theorem leak_w (d : Ids) (hl : IdLt d) (h : AHeap) {lf sp cc : Int} {n : Nat} (H : Sx d lf sp n cc h) (hn : n ≤ 100000) : WCall env1 94 [.ptr (some (d.R, 0)), .int .i64 4, .int .i64 0, .int .i64 0] h (fun out h' => out = .ret (.tup []) ∧ Sx d lf sp (n + 1) cc h' ∧ Fr d h h') := by
  obtain ⟨ha, ⟨j, hR, hj, hb, hjn⟩, hnb⟩ := H
  have hlr := hl.r
  have q1 : (d.R = h.next) = False := eq_false (by omega)
  have hR0 := hR
  unfold rc at hR
  refine WCall.body pr94 fn94 rfl (Nat.le_of_ble_eq_true rfl) ?_
  simp only [argsA]
  repeat (first
    | ((first | ((with_reducible apply wpOps_valT); exact rfl; exact rfl) | ((with_reducible apply wpOps_storeN); exact rfl; exact rfl) | ((with_reducible apply dw_pureT); exact rfl; exact rfl; exact rfl) | ((with_reducible apply dw_readT); exact rfl; exact rfl; exact rfl)); (simp only [List.getElem?_toArray, List.toList_toArray, bin_eql, bin_neq, bin_lss, bin_leq, bin_gtr, bin_geq, bin_add, bin_sub, bin_mul, un_not, unA, AHeap.get_bump, AHeap.next_bump, opK0, kMove, kPick, kAlloc, kBox, kBuild, kBuildSlice, kLoad, kStore, kNilCheck, kBinOp, kUnOp, kFieldAddr, kField, kIndexAddr, kIndex, kLookup, kMapUpdate, kMakeMap, kExtract, kSlice, kCall, lenA, evA, evAs, evParts, toAV, toAV0, toAVs, T.get_set, T.get_nil, Nat.reduceAdd, Nat.reduceMul, Nat.reduceEqDiff, Nat.zero_add, Nat.add_zero, Nat.mul_one, Nat.zero_mul, AV.cells, List.all_cons, List.all_nil, AV.scalar, Bool.and_true, Bool.true_and, ↓reduceIte, if_true, und_all, AHeap.get_alloc, AHeap.get_set, AHeap.next_alloc, AHeap.next_set, AHeap.loadCells, AHeap.load1, AHeap.storeCells, List.getElem?_cons_zero, List.getElem?_cons_succ, List.length_cons, List.length_nil, List.drop_zero, List.take_succ_cons, List.take_zero, List.drop_succ_cons, List.drop_nil, List.take_nil, List.append_nil, List.cons_append, List.nil_append, binA, isConstO, keyOk, ents_some, Bool.or_true, Bool.or_false, Bool.true_or, Bool.false_or, wantedA, dstOk, Option.bind_some, List.append_nil, Tryz.underlying2, Tryz.underlying3, Tryz.underlying4, Tryz.underlying9, Tryz.underlying24, Tryz.underlying26, Tryz.underlying30, Tryz.underlying35, Tryz.underlying42, Tryz.underlying44, Tryz.underlying45, Tryz.underlying47, Tryz.underlying51, Tryz.underlying63, Tryz.underlying64, Tryz.underlying66, Tryz.underlying67, Tryz.underlying69, Tryz.underlying71, Tryz.underlying79, Tryz.underlying88, Tryz.underlying90, Tryz.underlying131, Tryz.underlying132, Tryz.underlying134, Tryz.underlying135, Tryz.underlying137, Tryz.underlying177, Tryz.underlying178, Tryz.underlying180, Tryz.underlying207, Tryz.underlying209, agg131, agg132, agg134, agg135, agg137, agg177, agg178, agg180, agg2, agg207, agg209, agg24, agg26, agg3, agg30, agg35, agg4, agg42, agg44, agg45, agg47, agg51, agg63, agg64, agg66, agg67, agg69, agg71, agg79, agg88, agg9, agg90, byt131, byt132, byt134, byt135, byt137, byt177, byt178, byt180, byt2, byt207, byt209, byt24, byt26, byt3, byt30, byt35, byt4, byt42, byt44, byt45, byt47, byt51, byt63, byt64, byt66, byt67, byt69, byt71, byt79, byt88, byt9, byt90, siz131, siz132, siz134, siz135, siz137, siz177, siz178, siz180, siz2, siz207, siz209, siz24, siz26, siz3, siz30, siz35, siz4, siz42, siz44, siz45, siz47, siz51, siz63, siz64, siz66, siz67, siz69, siz71, siz79, siz88, siz9, siz90, zer131, zer132, zer134, zer135, zer137, zer177, zer178, zer180, zer2, zer207, zer209, zer24, zer26, zer3, zer30, zer35, zer4, zer42, zer44, zer45, zer47, zer51, zer63, zer64, zer66, zer67, zer69, zer71, zer79, zer88, zer9, zer90, decide_true, decide_false, beq_self_eq_true, bne_self_eq_false, Bool.not_true, Bool.not_false, Bool.false_eq_true, if_false, List.zipIdx_cons, reid, toAV, Int.toNat_natCast, kPanic, kMakeInterface, hR, q1] <;> rfl))
    | ((with_reducible apply wpOps_skipT); exact rfl; exact rfl)
    | ((with_reducible apply wpOps_skipN); exact rfl; exact rfl)
    | ((with_reducible apply dw_skipT); exact rfl; exact rfl)
    | (with_reducible apply aw_seq)
    | (with_reducible apply aw_regionL)
    | (with_reducible apply aw_block)
    | (with_reducible apply aw_scope)
    | (with_reducible apply aw_nil)
    | (with_reducible apply aw_then)
    | (with_reducible apply aw_thenR)
    | (with_reducible apply aw_thenE)
    | (with_reducible apply aw_thenP)
    | (with_reducible apply aw_blockP)
    | (with_reducible apply aw_blockR)
    | (with_reducible apply aw_blockN)
    | (with_reducible apply aw_blockE)
    | (with_reducible apply aw_ret)
    | (with_reducible apply aw_exit)
    | (with_reducible apply aw_skip)
    | ((with_reducible apply aw_condT); exact rfl)
    | ((with_reducible apply aw_condF); exact rfl)
    | ((with_reducible apply aw_drawL); (simp only [List.zipIdx_cons, List.zipIdx_nil, Nat.zero_add, Nat.reduceAdd] <;> rfl); kernel_rfl; kernel_rfl)
    | (with_reducible apply dw_nil)
    | fail)

  refine wpOps_heap (fun X => X.next = h.next + 1 ∧ X.get h.next = some (.cells true 3 [.int .i64 4, .int .i64 0, .int .i64 0]) ∧ ∀ i, i < h.next → X.get i = h.get i) ⟨rfl, ?_, ?_⟩ ?_
  · simp only [AHeap.get_alloc, if_true]; rfl
  · intro i hi; rw [AHeap.get_alloc, if_neg (by omega)]
  rintro X ⟨nX, cX, oX⟩
  have hjX : LkAt X j n := by
    obtain ⟨cs, h1, h2⟩ := hj
    exact ⟨cs, (oX j hjn).trans h1, h2⟩
  obtain ⟨X', ap, a1, a2, a3⟩ := append_lk hjX cX rfl rfl hn
  have hRX : X'.get d.R = some (.cells true 0 [.ptr (some (d.P, 0)), d.mm, d.ww, .int .i64 lf, d.kd, d.ex, d.ev, .slice (some (j, 0)) n, .int .i64 sp, d.gl, .int .i64 cc, d.by_]) := by
    rw [a3 _ (by omega) (by omega), oX _ (by omega)]; exact hR
  repeat (first
    | ((first | ((with_reducible apply wpOps_valT); exact rfl; exact rfl) | ((with_reducible apply wpOps_storeN); exact rfl; exact rfl) | ((with_reducible apply dw_pureT); exact rfl; exact rfl; exact rfl) | ((with_reducible apply dw_readT); exact rfl; exact rfl; exact rfl)); (simp only [List.getElem?_toArray, List.toList_toArray, bin_eql, bin_neq, bin_lss, bin_leq, bin_gtr, bin_geq, bin_add, bin_sub, bin_mul, un_not, unA, AHeap.get_bump, AHeap.next_bump, opK0, kMove, kPick, kAlloc, kBox, kBuild, kBuildSlice, kLoad, kStore, kNilCheck, kBinOp, kUnOp, kFieldAddr, kField, kIndexAddr, kIndex, kLookup, kMapUpdate, kMakeMap, kExtract, kSlice, kCall, lenA, evA, evAs, evParts, toAV, toAV0, toAVs, T.get_set, T.get_nil, Nat.reduceAdd, Nat.reduceMul, Nat.reduceEqDiff, Nat.zero_add, Nat.add_zero, Nat.mul_one, Nat.zero_mul, AV.cells, List.all_cons, List.all_nil, AV.scalar, Bool.and_true, Bool.true_and, ↓reduceIte, if_true, und_all, AHeap.get_alloc, AHeap.get_set, AHeap.next_alloc, AHeap.next_set, AHeap.loadCells, AHeap.load1, AHeap.storeCells, List.getElem?_cons_zero, List.getElem?_cons_succ, List.length_cons, List.length_nil, List.drop_zero, List.take_succ_cons, List.take_zero, List.drop_succ_cons, List.drop_nil, List.take_nil, List.append_nil, List.cons_append, List.nil_append, binA, isConstO, keyOk, ents_some, Bool.or_true, Bool.or_false, Bool.true_or, Bool.false_or, wantedA, dstOk, Option.bind_some, List.append_nil, Tryz.underlying2, Tryz.underlying3, Tryz.underlying4, Tryz.underlying9, Tryz.underlying24, Tryz.underlying26, Tryz.underlying30, Tryz.underlying35, Tryz.underlying42, Tryz.underlying44, Tryz.underlying45, Tryz.underlying47, Tryz.underlying51, Tryz.underlying63, Tryz.underlying64, Tryz.underlying66, Tryz.underlying67, Tryz.underlying69, Tryz.underlying71, Tryz.underlying79, Tryz.underlying88, Tryz.underlying90, Tryz.underlying131, Tryz.underlying132, Tryz.underlying134, Tryz.underlying135, Tryz.underlying137, Tryz.underlying177, Tryz.underlying178, Tryz.underlying180, Tryz.underlying207, Tryz.underlying209, agg131, agg132, agg134, agg135, agg137, agg177, agg178, agg180, agg2, agg207, agg209, agg24, agg26, agg3, agg30, agg35, agg4, agg42, agg44, agg45, agg47, agg51, agg63, agg64, agg66, agg67, agg69, agg71, agg79, agg88, agg9, agg90, byt131, byt132, byt134, byt135, byt137, byt177, byt178, byt180, byt2, byt207, byt209, byt24, byt26, byt3, byt30, byt35, byt4, byt42, byt44, byt45, byt47, byt51, byt63, byt64, byt66, byt67, byt69, byt71, byt79, byt88, byt9, byt90, siz131, siz132, siz134, siz135, siz137, siz177, siz178, siz180, siz2, siz207, siz209, siz24, siz26, siz3, siz30, siz35, siz4, siz42, siz44, siz45, siz47, siz51, siz63, siz64, siz66, siz67, siz69, siz71, siz79, siz88, siz9, siz90, zer131, zer132, zer134, zer135, zer137, zer177, zer178, zer180, zer2, zer207, zer209, zer24, zer26, zer3, zer30, zer35, zer4, zer42, zer44, zer45, zer47, zer51, zer63, zer64, zer66, zer67, zer69, zer71, zer79, zer88, zer9, zer90, decide_true, decide_false, beq_self_eq_true, bne_self_eq_false, Bool.not_true, Bool.not_false, Bool.false_eq_true, if_false, List.zipIdx_cons, reid, toAV, Int.toNat_natCast, kPanic, kMakeInterface, hRX, ap] <;> rfl))
    | ((with_reducible apply wpOps_skipT); exact rfl; exact rfl)
    | ((with_reducible apply wpOps_skipN); exact rfl; exact rfl)
    | ((with_reducible apply dw_skipT); exact rfl; exact rfl)
    | (with_reducible apply aw_seq)
    | (with_reducible apply aw_regionL)
    | (with_reducible apply aw_block)
    | (with_reducible apply aw_scope)
    | (with_reducible apply aw_nil)
    | (with_reducible apply aw_then)
    | (with_reducible apply aw_thenR)
    | (with_reducible apply aw_thenE)
    | (with_reducible apply aw_thenP)
    | (with_reducible apply aw_blockP)
    | (with_reducible apply aw_blockR)
    | (with_reducible apply aw_blockN)
    | (with_reducible apply aw_blockE)
    | (with_reducible apply aw_ret)
    | (with_reducible apply aw_exit)
    | (with_reducible apply aw_skip)
    | ((with_reducible apply aw_condT); exact rfl)
    | ((with_reducible apply aw_condF); exact rfl)
    | ((with_reducible apply aw_drawL); (simp only [List.zipIdx_cons, List.zipIdx_nil, Nat.zero_add, Nat.reduceAdd] <;> rfl); kernel_rfl; kernel_rfl)
    | (with_reducible apply dw_nil)
    | fail)

  have hfr : Fr d h (X'.set d.R (.cells true 0 (rc (.ptr (some (d.P, 0))) d.mm d.ww lf d.kd d.ex d.ev (.slice (some (X.next, 0)) (n + 1)) sp d.gl cc d.by_))) := by
    refine ⟨fun i h1 h2 => ?_, by rw [AHeap.next_set, a2, nX]; omega⟩
    rw [AHeap.get_set, if_neg h2, a3 _ (by omega) (by omega), oX _ (by omega)]
  refine ⟨rfl, _, rfl, rfl, ⟨ha.fr hl hfr, ⟨X.next, ?_, ?_, by omega, ?_⟩, ?_⟩, hfr⟩
  · simp only [AHeap.get_set, if_true]; rfl
  · obtain ⟨cs, h1, h2⟩ := a1
    refine ⟨cs, ?_, h2⟩
    simp only [AHeap.get_set]
    rw [if_neg (by omega)]; exact h1
  · simp only [AHeap.next_set]; omega
  · simp only [AHeap.next_set]; omega
theorem step_s (d : Ids) (hl : IdLt d) (h : AHeap) {lf sp cc : Int} {n : Nat} (H : Sx d lf sp n cc h) (h1 : 1 ≤ lf) (h2 : lf ≤ 100000000) (h3 : 0 ≤ sp) (h4 : sp ≤ 100000000) : WCall env1 58 [.ptr (some (d.R, 0))] h (fun out h' => out = .ret (.tup []) ∧ Sx d (lf - 1) (sp + 1) n cc h' ∧ Fr d h h') := by
  obtain ⟨ha, ⟨j, hR, hj, hb, hjn⟩, hnb⟩ := H
  refine (step_w d.R h hR h1 h2 h3 h4).mono fun out h' hq => ?_
  obtain ⟨rfl, u⟩ := hq
  have hlr := hl.r
  refine ⟨rfl, ⟨ha.fr hl u.fr, ⟨j, u.get, ?_, hb, by rw [u.next]; exact hjn⟩, by rw [u.next]; exact hnb⟩, u.fr⟩
  obtain ⟨cs, g1, g2⟩ := hj
  exact ⟨cs, (u.old j (by omega)).trans g1, g2⟩

def PQ (Qf : AV → AHeap → Prop) : Out → AHeap → Prop := fun out h2 => ∃ v, out = .pan v ∧ Qf v h2
theorem Sx.more {d : Ids} (hl : IdLt d) {lf sp : Int} {n : Nat} {c : Int} {h X : AHeap} (H : Sx d lf sp n c h) (ho : ∀ i, i < h.next → X.get i = h.get i) (hn : h.next ≤ X.next) : Sx d lf sp n c X ∧ Fr d h X := by
  obtain ⟨ha, ⟨j, hR, hj, hb, hjn⟩, hnb⟩ := H
  have hlr := hl.r
  have hf : Fr d h X := ⟨fun i h1 _ => ho i (by omega), hn⟩
  refine ⟨⟨ha.fr hl hf, ⟨j, (ho _ (by omega)).trans hR, ?_, hb, by omega⟩, by omega⟩, hf⟩
  obtain ⟨cs, g1, g2⟩ := hj
  exact ⟨cs, (ho j hjn).trans g1, g2⟩

theorem evalCall_w (d : Ids) (hl : IdLt d) (h : AHeap) {lf sp cc : Int} {n q : Nat} {Qf : AV → AHeap → Prop} (H : Sx d lf sp n cc h) (h1 : 1 ≤ lf) (hb2 : lf ≤ 100000) (h3 : 0 ≤ sp) (h4 : sp ≤ 100000) (h5 : n ≤ 90000)
    (hQ : ∀ h', Sx d (lf - 1) (sp + 1) (n + 1) cc h' → Fr d h h' → WCall env1 28 [.ptr (some (d.R, 0)), .ptr (some (d.F, 0)), .slice none 0] h' (PQ Qf)) :
    WCall env1 61 [.ptr (some (d.R, 0)), .ptr (some (q, 0)), .ptr (some (d.X2, 0))] h (PQ Qf) := by
  refine WCall.body pr61 fn61 rfl (Nat.le_of_ble_eq_true rfl) ?_
  simp only [argsA]
  repeat (first
    | ((first | ((with_reducible apply wpOps_valT); exact rfl; exact rfl) | ((with_reducible apply wpOps_storeN); exact rfl; exact rfl) | ((with_reducible apply dw_pureT); exact rfl; exact rfl; exact rfl) | ((with_reducible apply dw_readT); exact rfl; exact rfl; exact rfl)); (simp only [List.getElem?_toArray, List.toList_toArray, bin_eql, bin_neq, bin_lss, bin_leq, bin_gtr, bin_geq, bin_add, bin_sub, bin_mul, un_not, unA, AHeap.get_bump, AHeap.next_bump, opK0, kMove, kPick, kAlloc, kBox, kBuild, kBuildSlice, kLoad, kStore, kNilCheck, kBinOp, kUnOp, kFieldAddr, kField, kIndexAddr, kIndex, kLookup, kMapUpdate, kMakeMap, kExtract, kSlice, kCall, lenA, evA, evAs, evParts, toAV, toAV0, toAVs, T.get_set, T.get_nil, Nat.reduceAdd, Nat.reduceMul, Nat.reduceEqDiff, Nat.zero_add, Nat.add_zero, Nat.mul_one, Nat.zero_mul, AV.cells, List.all_cons, List.all_nil, AV.scalar, Bool.and_true, Bool.true_and, ↓reduceIte, if_true, und_all, AHeap.get_alloc, AHeap.get_set, AHeap.next_alloc, AHeap.next_set, AHeap.loadCells, AHeap.load1, AHeap.storeCells, List.getElem?_cons_zero, List.getElem?_cons_succ, List.length_cons, List.length_nil, List.drop_zero, List.take_succ_cons, List.take_zero, List.drop_succ_cons, List.drop_nil, List.take_nil, List.append_nil, List.cons_append, List.nil_append, binA, isConstO, keyOk, ents_some, Bool.or_true, Bool.or_false, Bool.true_or, Bool.false_or, wantedA, dstOk, Option.bind_some, List.append_nil, Tryz.underlying2, Tryz.underlying3, Tryz.underlying4, Tryz.underlying9, Tryz.underlying24, Tryz.underlying26, Tryz.underlying30, Tryz.underlying35, Tryz.underlying42, Tryz.underlying44, Tryz.underlying45, Tryz.underlying47, Tryz.underlying51, Tryz.underlying63, Tryz.underlying64, Tryz.underlying66, Tryz.underlying67, Tryz.underlying69, Tryz.underlying71, Tryz.underlying79, Tryz.underlying88, Tryz.underlying90, Tryz.underlying131, Tryz.underlying132, Tryz.underlying134, Tryz.underlying135, Tryz.underlying137, Tryz.underlying177, Tryz.underlying178, Tryz.underlying180, Tryz.underlying207, Tryz.underlying209, agg131, agg132, agg134, agg135, agg137, agg177, agg178, agg180, agg2, agg207, agg209, agg24, agg26, agg3, agg30, agg35, agg4, agg42, agg44, agg45, agg47, agg51, agg63, agg64, agg66, agg67, agg69, agg71, agg79, agg88, agg9, agg90, byt131, byt132, byt134, byt135, byt137, byt177, byt178, byt180, byt2, byt207, byt209, byt24, byt26, byt3, byt30, byt35, byt4, byt42, byt44, byt45, byt47, byt51, byt63, byt64, byt66, byt67, byt69, byt71, byt79, byt88, byt9, byt90, siz131, siz132, siz134, siz135, siz137, siz177, siz178, siz180, siz2, siz207, siz209, siz24, siz26, siz3, siz30, siz35, siz4, siz42, siz44, siz45, siz47, siz51, siz63, siz64, siz66, siz67, siz69, siz71, siz79, siz88, siz9, siz90, zer131, zer132, zer134, zer135, zer137, zer177, zer178, zer180, zer2, zer207, zer209, zer24, zer26, zer3, zer30, zer35, zer4, zer42, zer44, zer45, zer47, zer51, zer63, zer64, zer66, zer67, zer69, zer71, zer79, zer88, zer9, zer90, decide_true, decide_false, beq_self_eq_true, bne_self_eq_false, Bool.not_true, Bool.not_false, Bool.false_eq_true, if_false, List.zipIdx_cons, reid, toAV, Int.toNat_natCast, kPanic, kMakeInterface, fn89] <;> rfl))
    | ((with_reducible apply wpOps_skipT); exact rfl; exact rfl)
    | ((with_reducible apply wpOps_skipN); exact rfl; exact rfl)
    | ((with_reducible apply dw_skipT); exact rfl; exact rfl)
    | (with_reducible apply aw_seq)
    | (with_reducible apply aw_regionL)
    | (with_reducible apply aw_block)
    | (with_reducible apply aw_scope)
    | (with_reducible apply aw_nil)
    | (with_reducible apply aw_then)
    | (with_reducible apply aw_thenR)
    | (with_reducible apply aw_thenE)
    | (with_reducible apply aw_thenP)
    | (with_reducible apply aw_blockP)
    | (with_reducible apply aw_blockR)
    | (with_reducible apply aw_blockN)
    | (with_reducible apply aw_blockE)
    | (with_reducible apply aw_ret)
    | (with_reducible apply aw_exit)
    | (with_reducible apply aw_skip)
    | ((with_reducible apply aw_condT); exact rfl)
    | ((with_reducible apply aw_condF); exact rfl)
    | ((with_reducible apply aw_drawL); (simp only [List.zipIdx_cons, List.zipIdx_nil, Nat.zero_add, Nat.reduceAdd] <;> rfl); kernel_rfl; kernel_rfl)
    | (with_reducible apply dw_nil)
    | fail)

  (with_reducible apply wpOps_callT); exact rfl; exact rfl; (simp only [List.getElem?_toArray, List.toList_toArray, bin_eql, bin_neq, bin_lss, bin_leq, bin_gtr, bin_geq, bin_add, bin_sub, bin_mul, un_not, unA, AHeap.get_bump, AHeap.next_bump, opK0, kMove, kPick, kAlloc, kBox, kBuild, kBuildSlice, kLoad, kStore, kNilCheck, kBinOp, kUnOp, kFieldAddr, kField, kIndexAddr, kIndex, kLookup, kMapUpdate, kMakeMap, kExtract, kSlice, kCall, lenA, evA, evAs, evParts, toAV, toAV0, toAVs, T.get_set, T.get_nil, Nat.reduceAdd, Nat.reduceMul, Nat.reduceEqDiff, Nat.zero_add, Nat.add_zero, Nat.mul_one, Nat.zero_mul, AV.cells, List.all_cons, List.all_nil, AV.scalar, Bool.and_true, Bool.true_and, ↓reduceIte, if_true, und_all, AHeap.get_alloc, AHeap.get_set, AHeap.next_alloc, AHeap.next_set, AHeap.loadCells, AHeap.load1, AHeap.storeCells, List.getElem?_cons_zero, List.getElem?_cons_succ, List.length_cons, List.length_nil, List.drop_zero, List.take_succ_cons, List.take_zero, List.drop_succ_cons, List.drop_nil, List.take_nil, List.append_nil, List.cons_append, List.nil_append, binA, isConstO, keyOk, ents_some, Bool.or_true, Bool.or_false, Bool.true_or, Bool.false_or, wantedA, dstOk, Option.bind_some, List.append_nil, Tryz.underlying2, Tryz.underlying3, Tryz.underlying4, Tryz.underlying9, Tryz.underlying24, Tryz.underlying26, Tryz.underlying30, Tryz.underlying35, Tryz.underlying42, Tryz.underlying44, Tryz.underlying45, Tryz.underlying47, Tryz.underlying51, Tryz.underlying63, Tryz.underlying64, Tryz.underlying66, Tryz.underlying67, Tryz.underlying69, Tryz.underlying71, Tryz.underlying79, Tryz.underlying88, Tryz.underlying90, Tryz.underlying131, Tryz.underlying132, Tryz.underlying134, Tryz.underlying135, Tryz.underlying137, Tryz.underlying177, Tryz.underlying178, Tryz.underlying180, Tryz.underlying207, Tryz.underlying209, agg131, agg132, agg134, agg135, agg137, agg177, agg178, agg180, agg2, agg207, agg209, agg24, agg26, agg3, agg30, agg35, agg4, agg42, agg44, agg45, agg47, agg51, agg63, agg64, agg66, agg67, agg69, agg71, agg79, agg88, agg9, agg90, byt131, byt132, byt134, byt135, byt137, byt177, byt178, byt180, byt2, byt207, byt209, byt24, byt26, byt3, byt30, byt35, byt4, byt42, byt44, byt45, byt47, byt51, byt63, byt64, byt66, byt67, byt69, byt71, byt79, byt88, byt9, byt90, siz131, siz132, siz134, siz135, siz137, siz177, siz178, siz180, siz2, siz207, siz209, siz24, siz26, siz3, siz30, siz35, siz4, siz42, siz44, siz45, siz47, siz51, siz63, siz64, siz66, siz67, siz69, siz71, siz79, siz88, siz9, siz90, zer131, zer132, zer134, zer135, zer137, zer177, zer178, zer180, zer2, zer207, zer209, zer24, zer26, zer3, zer30, zer35, zer4, zer42, zer44, zer45, zer47, zer51, zer63, zer64, zer66, zer67, zer69, zer71, zer79, zer88, zer9, zer90, decide_true, decide_false, beq_self_eq_true, bne_self_eq_false, Bool.not_true, Bool.not_false, Bool.false_eq_true, if_false, List.zipIdx_cons, reid, toAV, Int.toNat_natCast, kPanic, kMakeInterface, fn89] <;> rfl)

  refine WCall_heap (fun X => Sx d lf sp n cc X ∧ Fr d h X) (H.more hl (fun i hi => by rw [AHeap.get_alloc, if_neg (by omega)]) (by rw [AHeap.next_alloc]; omega)) ?_
  rintro X ⟨HX, fX⟩
  have x2 := HX.ast.x2
  refine (place_w d.X2 X x2 (by decide)).mono fun out h2 hq => ?_
  obtain ⟨rfl, rfl⟩ := hq
  dsimp only
  repeat (first
    | ((first | ((with_reducible apply wpOps_valT); exact rfl; exact rfl) | ((with_reducible apply wpOps_storeN); exact rfl; exact rfl) | ((with_reducible apply dw_pureT); exact rfl; exact rfl; exact rfl) | ((with_reducible apply dw_readT); exact rfl; exact rfl; exact rfl)); (simp only [List.getElem?_toArray, List.toList_toArray, bin_eql, bin_neq, bin_lss, bin_leq, bin_gtr, bin_geq, bin_add, bin_sub, bin_mul, un_not, unA, AHeap.get_bump, AHeap.next_bump, opK0, kMove, kPick, kAlloc, kBox, kBuild, kBuildSlice, kLoad, kStore, kNilCheck, kBinOp, kUnOp, kFieldAddr, kField, kIndexAddr, kIndex, kLookup, kMapUpdate, kMakeMap, kExtract, kSlice, kCall, lenA, evA, evAs, evParts, toAV, toAV0, toAVs, T.get_set, T.get_nil, Nat.reduceAdd, Nat.reduceMul, Nat.reduceEqDiff, Nat.zero_add, Nat.add_zero, Nat.mul_one, Nat.zero_mul, AV.cells, List.all_cons, List.all_nil, AV.scalar, Bool.and_true, Bool.true_and, ↓reduceIte, if_true, und_all, AHeap.get_alloc, AHeap.get_set, AHeap.next_alloc, AHeap.next_set, AHeap.loadCells, AHeap.load1, AHeap.storeCells, List.getElem?_cons_zero, List.getElem?_cons_succ, List.length_cons, List.length_nil, List.drop_zero, List.take_succ_cons, List.take_zero, List.drop_succ_cons, List.drop_nil, List.take_nil, List.append_nil, List.cons_append, List.nil_append, binA, isConstO, keyOk, ents_some, Bool.or_true, Bool.or_false, Bool.true_or, Bool.false_or, wantedA, dstOk, Option.bind_some, List.append_nil, Tryz.underlying2, Tryz.underlying3, Tryz.underlying4, Tryz.underlying9, Tryz.underlying24, Tryz.underlying26, Tryz.underlying30, Tryz.underlying35, Tryz.underlying42, Tryz.underlying44, Tryz.underlying45, Tryz.underlying47, Tryz.underlying51, Tryz.underlying63, Tryz.underlying64, Tryz.underlying66, Tryz.underlying67, Tryz.underlying69, Tryz.underlying71, Tryz.underlying79, Tryz.underlying88, Tryz.underlying90, Tryz.underlying131, Tryz.underlying132, Tryz.underlying134, Tryz.underlying135, Tryz.underlying137, Tryz.underlying177, Tryz.underlying178, Tryz.underlying180, Tryz.underlying207, Tryz.underlying209, agg131, agg132, agg134, agg135, agg137, agg177, agg178, agg180, agg2, agg207, agg209, agg24, agg26, agg3, agg30, agg35, agg4, agg42, agg44, agg45, agg47, agg51, agg63, agg64, agg66, agg67, agg69, agg71, agg79, agg88, agg9, agg90, byt131, byt132, byt134, byt135, byt137, byt177, byt178, byt180, byt2, byt207, byt209, byt24, byt26, byt3, byt30, byt35, byt4, byt42, byt44, byt45, byt47, byt51, byt63, byt64, byt66, byt67, byt69, byt71, byt79, byt88, byt9, byt90, siz131, siz132, siz134, siz135, siz137, siz177, siz178, siz180, siz2, siz207, siz209, siz24, siz26, siz3, siz30, siz35, siz4, siz42, siz44, siz45, siz47, siz51, siz63, siz64, siz66, siz67, siz69, siz71, siz79, siz88, siz9, siz90, zer131, zer132, zer134, zer135, zer137, zer177, zer178, zer180, zer2, zer207, zer209, zer24, zer26, zer3, zer30, zer35, zer4, zer42, zer44, zer45, zer47, zer51, zer63, zer64, zer66, zer67, zer69, zer71, zer79, zer88, zer9, zer90, decide_true, decide_false, beq_self_eq_true, bne_self_eq_false, Bool.not_true, Bool.not_false, Bool.false_eq_true, if_false, List.zipIdx_cons, reid, toAV, Int.toNat_natCast, kPanic, kMakeInterface, x2, fn58] <;> rfl))
    | ((with_reducible apply wpOps_skipT); exact rfl; exact rfl)
    | ((with_reducible apply wpOps_skipN); exact rfl; exact rfl)
    | ((with_reducible apply dw_skipT); exact rfl; exact rfl)
    | (with_reducible apply aw_seq)
    | (with_reducible apply aw_regionL)
    | (with_reducible apply aw_block)
    | (with_reducible apply aw_scope)
    | (with_reducible apply aw_nil)
    | (with_reducible apply aw_then)
    | (with_reducible apply aw_thenR)
    | (with_reducible apply aw_thenE)
    | (with_reducible apply aw_thenP)
    | (with_reducible apply aw_blockP)
    | (with_reducible apply aw_blockR)
    | (with_reducible apply aw_blockN)
    | (with_reducible apply aw_blockE)
    | (with_reducible apply aw_ret)
    | (with_reducible apply aw_exit)
    | (with_reducible apply aw_skip)
    | ((with_reducible apply aw_condT); exact rfl)
    | ((with_reducible apply aw_condF); exact rfl)
    | ((with_reducible apply aw_drawL); (simp only [List.zipIdx_cons, List.zipIdx_nil, Nat.zero_add, Nat.reduceAdd] <;> rfl); kernel_rfl; kernel_rfl)
    | (with_reducible apply dw_nil)
    | fail)

  (with_reducible apply wpOps_callT); exact rfl; exact rfl; (simp only [List.getElem?_toArray, List.toList_toArray, bin_eql, bin_neq, bin_lss, bin_leq, bin_gtr, bin_geq, bin_add, bin_sub, bin_mul, un_not, unA, AHeap.get_bump, AHeap.next_bump, opK0, kMove, kPick, kAlloc, kBox, kBuild, kBuildSlice, kLoad, kStore, kNilCheck, kBinOp, kUnOp, kFieldAddr, kField, kIndexAddr, kIndex, kLookup, kMapUpdate, kMakeMap, kExtract, kSlice, kCall, lenA, evA, evAs, evParts, toAV, toAV0, toAVs, T.get_set, T.get_nil, Nat.reduceAdd, Nat.reduceMul, Nat.reduceEqDiff, Nat.zero_add, Nat.add_zero, Nat.mul_one, Nat.zero_mul, AV.cells, List.all_cons, List.all_nil, AV.scalar, Bool.and_true, Bool.true_and, ↓reduceIte, if_true, und_all, AHeap.get_alloc, AHeap.get_set, AHeap.next_alloc, AHeap.next_set, AHeap.loadCells, AHeap.load1, AHeap.storeCells, List.getElem?_cons_zero, List.getElem?_cons_succ, List.length_cons, List.length_nil, List.drop_zero, List.take_succ_cons, List.take_zero, List.drop_succ_cons, List.drop_nil, List.take_nil, List.append_nil, List.cons_append, List.nil_append, binA, isConstO, keyOk, ents_some, Bool.or_true, Bool.or_false, Bool.true_or, Bool.false_or, wantedA, dstOk, Option.bind_some, List.append_nil, Tryz.underlying2, Tryz.underlying3, Tryz.underlying4, Tryz.underlying9, Tryz.underlying24, Tryz.underlying26, Tryz.underlying30, Tryz.underlying35, Tryz.underlying42, Tryz.underlying44, Tryz.underlying45, Tryz.underlying47, Tryz.underlying51, Tryz.underlying63, Tryz.underlying64, Tryz.underlying66, Tryz.underlying67, Tryz.underlying69, Tryz.underlying71, Tryz.underlying79, Tryz.underlying88, Tryz.underlying90, Tryz.underlying131, Tryz.underlying132, Tryz.underlying134, Tryz.underlying135, Tryz.underlying137, Tryz.underlying177, Tryz.underlying178, Tryz.underlying180, Tryz.underlying207, Tryz.underlying209, agg131, agg132, agg134, agg135, agg137, agg177, agg178, agg180, agg2, agg207, agg209, agg24, agg26, agg3, agg30, agg35, agg4, agg42, agg44, agg45, agg47, agg51, agg63, agg64, agg66, agg67, agg69, agg71, agg79, agg88, agg9, agg90, byt131, byt132, byt134, byt135, byt137, byt177, byt178, byt180, byt2, byt207, byt209, byt24, byt26, byt3, byt30, byt35, byt4, byt42, byt44, byt45, byt47, byt51, byt63, byt64, byt66, byt67, byt69, byt71, byt79, byt88, byt9, byt90, siz131, siz132, siz134, siz135, siz137, siz177, siz178, siz180, siz2, siz207, siz209, siz24, siz26, siz3, siz30, siz35, siz4, siz42, siz44, siz45, siz47, siz51, siz63, siz64, siz66, siz67, siz69, siz71, siz79, siz88, siz9, siz90, zer131, zer132, zer134, zer135, zer137, zer177, zer178, zer180, zer2, zer207, zer209, zer24, zer26, zer3, zer30, zer35, zer4, zer42, zer44, zer45, zer47, zer51, zer63, zer64, zer66, zer67, zer69, zer71, zer79, zer88, zer9, zer90, decide_true, decide_false, beq_self_eq_true, bne_self_eq_false, Bool.not_true, Bool.not_false, Bool.false_eq_true, if_false, List.zipIdx_cons, reid, toAV, Int.toNat_natCast, kPanic, kMakeInterface, x2, fn58] <;> rfl)

  refine (step_s d hl h2 HX h1 (by omega) h3 (by omega)).mono fun out Y hq => ?_
  obtain ⟨rfl, HY, fY⟩ := hq
  dsimp only
  clear x2
  have x2 := HY.ast.x2
  repeat (first
    | ((first | ((with_reducible apply wpOps_valT); exact rfl; exact rfl) | ((with_reducible apply wpOps_storeN); exact rfl; exact rfl) | ((with_reducible apply dw_pureT); exact rfl; exact rfl; exact rfl) | ((with_reducible apply dw_readT); exact rfl; exact rfl; exact rfl)); (simp only [List.getElem?_toArray, List.toList_toArray, bin_eql, bin_neq, bin_lss, bin_leq, bin_gtr, bin_geq, bin_add, bin_sub, bin_mul, un_not, unA, AHeap.get_bump, AHeap.next_bump, opK0, kMove, kPick, kAlloc, kBox, kBuild, kBuildSlice, kLoad, kStore, kNilCheck, kBinOp, kUnOp, kFieldAddr, kField, kIndexAddr, kIndex, kLookup, kMapUpdate, kMakeMap, kExtract, kSlice, kCall, lenA, evA, evAs, evParts, toAV, toAV0, toAVs, T.get_set, T.get_nil, Nat.reduceAdd, Nat.reduceMul, Nat.reduceEqDiff, Nat.zero_add, Nat.add_zero, Nat.mul_one, Nat.zero_mul, AV.cells, List.all_cons, List.all_nil, AV.scalar, Bool.and_true, Bool.true_and, ↓reduceIte, if_true, und_all, AHeap.get_alloc, AHeap.get_set, AHeap.next_alloc, AHeap.next_set, AHeap.loadCells, AHeap.load1, AHeap.storeCells, List.getElem?_cons_zero, List.getElem?_cons_succ, List.length_cons, List.length_nil, List.drop_zero, List.take_succ_cons, List.take_zero, List.drop_succ_cons, List.drop_nil, List.take_nil, List.append_nil, List.cons_append, List.nil_append, binA, isConstO, keyOk, ents_some, Bool.or_true, Bool.or_false, Bool.true_or, Bool.false_or, wantedA, dstOk, Option.bind_some, List.append_nil, Tryz.underlying2, Tryz.underlying3, Tryz.underlying4, Tryz.underlying9, Tryz.underlying24, Tryz.underlying26, Tryz.underlying30, Tryz.underlying35, Tryz.underlying42, Tryz.underlying44, Tryz.underlying45, Tryz.underlying47, Tryz.underlying51, Tryz.underlying63, Tryz.underlying64, Tryz.underlying66, Tryz.underlying67, Tryz.underlying69, Tryz.underlying71, Tryz.underlying79, Tryz.underlying88, Tryz.underlying90, Tryz.underlying131, Tryz.underlying132, Tryz.underlying134, Tryz.underlying135, Tryz.underlying137, Tryz.underlying177, Tryz.underlying178, Tryz.underlying180, Tryz.underlying207, Tryz.underlying209, agg131, agg132, agg134, agg135, agg137, agg177, agg178, agg180, agg2, agg207, agg209, agg24, agg26, agg3, agg30, agg35, agg4, agg42, agg44, agg45, agg47, agg51, agg63, agg64, agg66, agg67, agg69, agg71, agg79, agg88, agg9, agg90, byt131, byt132, byt134, byt135, byt137, byt177, byt178, byt180, byt2, byt207, byt209, byt24, byt26, byt3, byt30, byt35, byt4, byt42, byt44, byt45, byt47, byt51, byt63, byt64, byt66, byt67, byt69, byt71, byt79, byt88, byt9, byt90, siz131, siz132, siz134, siz135, siz137, siz177, siz178, siz180, siz2, siz207, siz209, siz24, siz26, siz3, siz30, siz35, siz4, siz42, siz44, siz45, siz47, siz51, siz63, siz64, siz66, siz67, siz69, siz71, siz79, siz88, siz9, siz90, zer131, zer132, zer134, zer135, zer137, zer177, zer178, zer180, zer2, zer207, zer209, zer24, zer26, zer3, zer30, zer35, zer4, zer42, zer44, zer45, zer47, zer51, zer63, zer64, zer66, zer67, zer69, zer71, zer79, zer88, zer9, zer90, decide_true, decide_false, beq_self_eq_true, bne_self_eq_false, Bool.not_true, Bool.not_false, Bool.false_eq_true, if_false, List.zipIdx_cons, reid, toAV, Int.toNat_natCast, kPanic, kMakeInterface, x2, fn94] <;> rfl))
    | ((with_reducible apply wpOps_skipT); exact rfl; exact rfl)
    | ((with_reducible apply wpOps_skipN); exact rfl; exact rfl)
    | ((with_reducible apply dw_skipT); exact rfl; exact rfl)
    | (with_reducible apply aw_seq)
    | (with_reducible apply aw_regionL)
    | (with_reducible apply aw_block)
    | (with_reducible apply aw_scope)
    | (with_reducible apply aw_nil)
    | (with_reducible apply aw_then)
    | (with_reducible apply aw_thenR)
    | (with_reducible apply aw_thenE)
    | (with_reducible apply aw_thenP)
    | (with_reducible apply aw_blockP)
    | (with_reducible apply aw_blockR)
    | (with_reducible apply aw_blockN)
    | (with_reducible apply aw_blockE)
    | (with_reducible apply aw_ret)
    | (with_reducible apply aw_exit)
    | (with_reducible apply aw_skip)
    | ((with_reducible apply aw_condT); exact rfl)
    | ((with_reducible apply aw_condF); exact rfl)
    | ((with_reducible apply aw_drawL); (simp only [List.zipIdx_cons, List.zipIdx_nil, Nat.zero_add, Nat.reduceAdd] <;> rfl); kernel_rfl; kernel_rfl)
    | (with_reducible apply dw_nil)
    | (with_reducible apply aw_loop0)
    | fail)

  (with_reducible apply wpOps_callT); exact rfl; exact rfl; (simp only [List.getElem?_toArray, List.toList_toArray, bin_eql, bin_neq, bin_lss, bin_leq, bin_gtr, bin_geq, bin_add, bin_sub, bin_mul, un_not, unA, AHeap.get_bump, AHeap.next_bump, opK0, kMove, kPick, kAlloc, kBox, kBuild, kBuildSlice, kLoad, kStore, kNilCheck, kBinOp, kUnOp, kFieldAddr, kField, kIndexAddr, kIndex, kLookup, kMapUpdate, kMakeMap, kExtract, kSlice, kCall, lenA, evA, evAs, evParts, toAV, toAV0, toAVs, T.get_set, T.get_nil, Nat.reduceAdd, Nat.reduceMul, Nat.reduceEqDiff, Nat.zero_add, Nat.add_zero, Nat.mul_one, Nat.zero_mul, AV.cells, List.all_cons, List.all_nil, AV.scalar, Bool.and_true, Bool.true_and, ↓reduceIte, if_true, und_all, AHeap.get_alloc, AHeap.get_set, AHeap.next_alloc, AHeap.next_set, AHeap.loadCells, AHeap.load1, AHeap.storeCells, List.getElem?_cons_zero, List.getElem?_cons_succ, List.length_cons, List.length_nil, List.drop_zero, List.take_succ_cons, List.take_zero, List.drop_succ_cons, List.drop_nil, List.take_nil, List.append_nil, List.cons_append, List.nil_append, binA, isConstO, keyOk, ents_some, Bool.or_true, Bool.or_false, Bool.true_or, Bool.false_or, wantedA, dstOk, Option.bind_some, List.append_nil, Tryz.underlying2, Tryz.underlying3, Tryz.underlying4, Tryz.underlying9, Tryz.underlying24, Tryz.underlying26, Tryz.underlying30, Tryz.underlying35, Tryz.underlying42, Tryz.underlying44, Tryz.underlying45, Tryz.underlying47, Tryz.underlying51, Tryz.underlying63, Tryz.underlying64, Tryz.underlying66, Tryz.underlying67, Tryz.underlying69, Tryz.underlying71, Tryz.underlying79, Tryz.underlying88, Tryz.underlying90, Tryz.underlying131, Tryz.underlying132, Tryz.underlying134, Tryz.underlying135, Tryz.underlying137, Tryz.underlying177, Tryz.underlying178, Tryz.underlying180, Tryz.underlying207, Tryz.underlying209, agg131, agg132, agg134, agg135, agg137, agg177, agg178, agg180, agg2, agg207, agg209, agg24, agg26, agg3, agg30, agg35, agg4, agg42, agg44, agg45, agg47, agg51, agg63, agg64, agg66, agg67, agg69, agg71, agg79, agg88, agg9, agg90, byt131, byt132, byt134, byt135, byt137, byt177, byt178, byt180, byt2, byt207, byt209, byt24, byt26, byt3, byt30, byt35, byt4, byt42, byt44, byt45, byt47, byt51, byt63, byt64, byt66, byt67, byt69, byt71, byt79, byt88, byt9, byt90, siz131, siz132, siz134, siz135, siz137, siz177, siz178, siz180, siz2, siz207, siz209, siz24, siz26, siz3, siz30, siz35, siz4, siz42, siz44, siz45, siz47, siz51, siz63, siz64, siz66, siz67, siz69, siz71, siz79, siz88, siz9, siz90, zer131, zer132, zer134, zer135, zer137, zer177, zer178, zer180, zer2, zer207, zer209, zer24, zer26, zer3, zer30, zer35, zer4, zer42, zer44, zer45, zer47, zer51, zer63, zer64, zer66, zer67, zer69, zer71, zer79, zer88, zer9, zer90, decide_true, decide_false, beq_self_eq_true, bne_self_eq_false, Bool.not_true, Bool.not_false, Bool.false_eq_true, if_false, List.zipIdx_cons, reid, toAV, Int.toNat_natCast, kPanic, kMakeInterface, x2, fn94] <;> rfl)

  refine (leak_w d hl Y HY (by omega)).mono fun out Z hq => ?_
  obtain ⟨rfl, HZ, fZ⟩ := hq
  dsimp only
  clear x2
  have x2 := HZ.ast.x2
  obtain ⟨t, gs, m, p⟩ := HZ.ast.p
  have fl := HZ.ast.fl
  obtain ⟨j, hR, _⟩ := HZ.r
  unfold rc at hR
  repeat (first
    | ((first | ((with_reducible apply wpOps_valT); exact rfl; exact rfl) | ((with_reducible apply wpOps_storeN); exact rfl; exact rfl) | ((with_reducible apply dw_pureT); exact rfl; exact rfl; exact rfl) | ((with_reducible apply dw_readT); exact rfl; exact rfl; exact rfl)); (simp only [List.getElem?_toArray, List.toList_toArray, bin_eql, bin_neq, bin_lss, bin_leq, bin_gtr, bin_geq, bin_add, bin_sub, bin_mul, un_not, unA, AHeap.get_bump, AHeap.next_bump, opK0, kMove, kPick, kAlloc, kBox, kBuild, kBuildSlice, kLoad, kStore, kNilCheck, kBinOp, kUnOp, kFieldAddr, kField, kIndexAddr, kIndex, kLookup, kMapUpdate, kMakeMap, kExtract, kSlice, kCall, lenA, evA, evAs, evParts, toAV, toAV0, toAVs, T.get_set, T.get_nil, Nat.reduceAdd, Nat.reduceMul, Nat.reduceEqDiff, Nat.zero_add, Nat.add_zero, Nat.mul_one, Nat.zero_mul, AV.cells, List.all_cons, List.all_nil, AV.scalar, Bool.and_true, Bool.true_and, ↓reduceIte, if_true, und_all, AHeap.get_alloc, AHeap.get_set, AHeap.next_alloc, AHeap.next_set, AHeap.loadCells, AHeap.load1, AHeap.storeCells, List.getElem?_cons_zero, List.getElem?_cons_succ, List.length_cons, List.length_nil, List.drop_zero, List.take_succ_cons, List.take_zero, List.drop_succ_cons, List.drop_nil, List.take_nil, List.append_nil, List.cons_append, List.nil_append, binA, isConstO, keyOk, ents_some, Bool.or_true, Bool.or_false, Bool.true_or, Bool.false_or, wantedA, dstOk, Option.bind_some, List.append_nil, Tryz.underlying2, Tryz.underlying3, Tryz.underlying4, Tryz.underlying9, Tryz.underlying24, Tryz.underlying26, Tryz.underlying30, Tryz.underlying35, Tryz.underlying42, Tryz.underlying44, Tryz.underlying45, Tryz.underlying47, Tryz.underlying51, Tryz.underlying63, Tryz.underlying64, Tryz.underlying66, Tryz.underlying67, Tryz.underlying69, Tryz.underlying71, Tryz.underlying79, Tryz.underlying88, Tryz.underlying90, Tryz.underlying131, Tryz.underlying132, Tryz.underlying134, Tryz.underlying135, Tryz.underlying137, Tryz.underlying177, Tryz.underlying178, Tryz.underlying180, Tryz.underlying207, Tryz.underlying209, agg131, agg132, agg134, agg135, agg137, agg177, agg178, agg180, agg2, agg207, agg209, agg24, agg26, agg3, agg30, agg35, agg4, agg42, agg44, agg45, agg47, agg51, agg63, agg64, agg66, agg67, agg69, agg71, agg79, agg88, agg9, agg90, byt131, byt132, byt134, byt135, byt137, byt177, byt178, byt180, byt2, byt207, byt209, byt24, byt26, byt3, byt30, byt35, byt4, byt42, byt44, byt45, byt47, byt51, byt63, byt64, byt66, byt67, byt69, byt71, byt79, byt88, byt9, byt90, siz131, siz132, siz134, siz135, siz137, siz177, siz178, siz180, siz2, siz207, siz209, siz24, siz26, siz3, siz30, siz35, siz4, siz42, siz44, siz45, siz47, siz51, siz63, siz64, siz66, siz67, siz69, siz71, siz79, siz88, siz9, siz90, zer131, zer132, zer134, zer135, zer137, zer177, zer178, zer180, zer2, zer207, zer209, zer24, zer26, zer3, zer30, zer35, zer4, zer42, zer44, zer45, zer47, zer51, zer63, zer64, zer66, zer67, zer69, zer71, zer79, zer88, zer9, zer90, decide_true, decide_false, beq_self_eq_true, bne_self_eq_false, Bool.not_true, Bool.not_false, Bool.false_eq_true, if_false, List.zipIdx_cons, reid, toAV, Int.toNat_natCast, kPanic, kMakeInterface, x2, p, fl, hR, fn28] <;> rfl))
    | ((with_reducible apply wpOps_skipT); exact rfl; exact rfl)
    | ((with_reducible apply wpOps_skipN); exact rfl; exact rfl)
    | ((with_reducible apply dw_skipT); exact rfl; exact rfl)
    | (with_reducible apply aw_seq)
    | (with_reducible apply aw_regionL)
    | (with_reducible apply aw_block)
    | (with_reducible apply aw_scope)
    | (with_reducible apply aw_nil)
    | (with_reducible apply aw_then)
    | (with_reducible apply aw_thenR)
    | (with_reducible apply aw_thenE)
    | (with_reducible apply aw_thenP)
    | (with_reducible apply aw_blockP)
    | (with_reducible apply aw_blockR)
    | (with_reducible apply aw_blockN)
    | (with_reducible apply aw_blockE)
    | (with_reducible apply aw_ret)
    | (with_reducible apply aw_exit)
    | (with_reducible apply aw_skip)
    | ((with_reducible apply aw_condT); exact rfl)
    | ((with_reducible apply aw_condF); exact rfl)
    | ((with_reducible apply aw_drawL); (simp only [List.zipIdx_cons, List.zipIdx_nil, Nat.zero_add, Nat.reduceAdd] <;> rfl); kernel_rfl; kernel_rfl)
    | (with_reducible apply dw_nil)
    | fail)

  (with_reducible apply dw_callP); exact rfl; exact rfl; (simp only [List.getElem?_toArray, List.toList_toArray, bin_eql, bin_neq, bin_lss, bin_leq, bin_gtr, bin_geq, bin_add, bin_sub, bin_mul, un_not, unA, AHeap.get_bump, AHeap.next_bump, opK0, kMove, kPick, kAlloc, kBox, kBuild, kBuildSlice, kLoad, kStore, kNilCheck, kBinOp, kUnOp, kFieldAddr, kField, kIndexAddr, kIndex, kLookup, kMapUpdate, kMakeMap, kExtract, kSlice, kCall, lenA, evA, evAs, evParts, toAV, toAV0, toAVs, T.get_set, T.get_nil, Nat.reduceAdd, Nat.reduceMul, Nat.reduceEqDiff, Nat.zero_add, Nat.add_zero, Nat.mul_one, Nat.zero_mul, AV.cells, List.all_cons, List.all_nil, AV.scalar, Bool.and_true, Bool.true_and, ↓reduceIte, if_true, und_all, AHeap.get_alloc, AHeap.get_set, AHeap.next_alloc, AHeap.next_set, AHeap.loadCells, AHeap.load1, AHeap.storeCells, List.getElem?_cons_zero, List.getElem?_cons_succ, List.length_cons, List.length_nil, List.drop_zero, List.take_succ_cons, List.take_zero, List.drop_succ_cons, List.drop_nil, List.take_nil, List.append_nil, List.cons_append, List.nil_append, binA, isConstO, keyOk, ents_some, Bool.or_true, Bool.or_false, Bool.true_or, Bool.false_or, wantedA, dstOk, Option.bind_some, List.append_nil, Tryz.underlying2, Tryz.underlying3, Tryz.underlying4, Tryz.underlying9, Tryz.underlying24, Tryz.underlying26, Tryz.underlying30, Tryz.underlying35, Tryz.underlying42, Tryz.underlying44, Tryz.underlying45, Tryz.underlying47, Tryz.underlying51, Tryz.underlying63, Tryz.underlying64, Tryz.underlying66, Tryz.underlying67, Tryz.underlying69, Tryz.underlying71, Tryz.underlying79, Tryz.underlying88, Tryz.underlying90, Tryz.underlying131, Tryz.underlying132, Tryz.underlying134, Tryz.underlying135, Tryz.underlying137, Tryz.underlying177, Tryz.underlying178, Tryz.underlying180, Tryz.underlying207, Tryz.underlying209, agg131, agg132, agg134, agg135, agg137, agg177, agg178, agg180, agg2, agg207, agg209, agg24, agg26, agg3, agg30, agg35, agg4, agg42, agg44, agg45, agg47, agg51, agg63, agg64, agg66, agg67, agg69, agg71, agg79, agg88, agg9, agg90, byt131, byt132, byt134, byt135, byt137, byt177, byt178, byt180, byt2, byt207, byt209, byt24, byt26, byt3, byt30, byt35, byt4, byt42, byt44, byt45, byt47, byt51, byt63, byt64, byt66, byt67, byt69, byt71, byt79, byt88, byt9, byt90, siz131, siz132, siz134, siz135, siz137, siz177, siz178, siz180, siz2, siz207, siz209, siz24, siz26, siz3, siz30, siz35, siz4, siz42, siz44, siz45, siz47, siz51, siz63, siz64, siz66, siz67, siz69, siz71, siz79, siz88, siz9, siz90, zer131, zer132, zer134, zer135, zer137, zer177, zer178, zer180, zer2, zer207, zer209, zer24, zer26, zer3, zer30, zer35, zer4, zer42, zer44, zer45, zer47, zer51, zer63, zer64, zer66, zer67, zer69, zer71, zer79, zer88, zer9, zer90, decide_true, decide_false, beq_self_eq_true, bne_self_eq_false, Bool.not_true, Bool.not_false, Bool.false_eq_true, if_false, List.zipIdx_cons, reid, toAV, Int.toNat_natCast, kPanic, kMakeInterface, x2, p, fl, hR, fn28] <;> rfl); exact rfl; kernel_rfl

  refine WCall_heap (fun X => Sx d (lf - 1) (sp + 1) (n + 1) cc X ∧ Fr d Z X) (HZ.more hl (fun i hi => rfl) (Nat.le_add_right _ _)) ?_
  rintro V ⟨HV, fV⟩
  refine (hQ V HV (fX.trans (fY.trans (fZ.trans fV)))).mono fun out h2 hq => ?_
  obtain ⟨v, rfl, hq⟩ := hq
  refine ⟨v, rfl, fun rg' => ?_⟩
  repeat (first
    | ((first | ((with_reducible apply wpOps_valT); exact rfl; exact rfl) | ((with_reducible apply wpOps_storeN); exact rfl; exact rfl) | ((with_reducible apply dw_pureT); exact rfl; exact rfl; exact rfl) | ((with_reducible apply dw_readT); exact rfl; exact rfl; exact rfl)); (simp only [List.getElem?_toArray, List.toList_toArray, bin_eql, bin_neq, bin_lss, bin_leq, bin_gtr, bin_geq, bin_add, bin_sub, bin_mul, un_not, unA, AHeap.get_bump, AHeap.next_bump, opK0, kMove, kPick, kAlloc, kBox, kBuild, kBuildSlice, kLoad, kStore, kNilCheck, kBinOp, kUnOp, kFieldAddr, kField, kIndexAddr, kIndex, kLookup, kMapUpdate, kMakeMap, kExtract, kSlice, kCall, lenA, evA, evAs, evParts, toAV, toAV0, toAVs, T.get_set, T.get_nil, Nat.reduceAdd, Nat.reduceMul, Nat.reduceEqDiff, Nat.zero_add, Nat.add_zero, Nat.mul_one, Nat.zero_mul, AV.cells, List.all_cons, List.all_nil, AV.scalar, Bool.and_true, Bool.true_and, ↓reduceIte, if_true, und_all, AHeap.get_alloc, AHeap.get_set, AHeap.next_alloc, AHeap.next_set, AHeap.loadCells, AHeap.load1, AHeap.storeCells, List.getElem?_cons_zero, List.getElem?_cons_succ, List.length_cons, List.length_nil, List.drop_zero, List.take_succ_cons, List.take_zero, List.drop_succ_cons, List.drop_nil, List.take_nil, List.append_nil, List.cons_append, List.nil_append, binA, isConstO, keyOk, ents_some, Bool.or_true, Bool.or_false, Bool.true_or, Bool.false_or, wantedA, dstOk, Option.bind_some, List.append_nil, Tryz.underlying2, Tryz.underlying3, Tryz.underlying4, Tryz.underlying9, Tryz.underlying24, Tryz.underlying26, Tryz.underlying30, Tryz.underlying35, Tryz.underlying42, Tryz.underlying44, Tryz.underlying45, Tryz.underlying47, Tryz.underlying51, Tryz.underlying63, Tryz.underlying64, Tryz.underlying66, Tryz.underlying67, Tryz.underlying69, Tryz.underlying71, Tryz.underlying79, Tryz.underlying88, Tryz.underlying90, Tryz.underlying131, Tryz.underlying132, Tryz.underlying134, Tryz.underlying135, Tryz.underlying137, Tryz.underlying177, Tryz.underlying178, Tryz.underlying180, Tryz.underlying207, Tryz.underlying209, agg131, agg132, agg134, agg135, agg137, agg177, agg178, agg180, agg2, agg207, agg209, agg24, agg26, agg3, agg30, agg35, agg4, agg42, agg44, agg45, agg47, agg51, agg63, agg64, agg66, agg67, agg69, agg71, agg79, agg88, agg9, agg90, byt131, byt132, byt134, byt135, byt137, byt177, byt178, byt180, byt2, byt207, byt209, byt24, byt26, byt3, byt30, byt35, byt4, byt42, byt44, byt45, byt47, byt51, byt63, byt64, byt66, byt67, byt69, byt71, byt79, byt88, byt9, byt90, siz131, siz132, siz134, siz135, siz137, siz177, siz178, siz180, siz2, siz207, siz209, siz24, siz26, siz3, siz30, siz35, siz4, siz42, siz44, siz45, siz47, siz51, siz63, siz64, siz66, siz67, siz69, siz71, siz79, siz88, siz9, siz90, zer131, zer132, zer134, zer135, zer137, zer177, zer178, zer180, zer2, zer207, zer209, zer24, zer26, zer3, zer30, zer35, zer4, zer42, zer44, zer45, zer47, zer51, zer63, zer64, zer66, zer67, zer69, zer71, zer79, zer88, zer9, zer90, decide_true, decide_false, beq_self_eq_true, bne_self_eq_false, Bool.not_true, Bool.not_false, Bool.false_eq_true, if_false, List.zipIdx_cons, reid, toAV, Int.toNat_natCast, kPanic, kMakeInterface] <;> rfl))
    | ((with_reducible apply wpOps_skipT); exact rfl; exact rfl)
    | ((with_reducible apply wpOps_skipN); exact rfl; exact rfl)
    | ((with_reducible apply dw_skipT); exact rfl; exact rfl)
    | (with_reducible apply aw_seq)
    | (with_reducible apply aw_regionL)
    | (with_reducible apply aw_block)
    | (with_reducible apply aw_scope)
    | (with_reducible apply aw_nil)
    | (with_reducible apply aw_then)
    | (with_reducible apply aw_thenR)
    | (with_reducible apply aw_thenE)
    | (with_reducible apply aw_thenP)
    | (with_reducible apply aw_blockP)
    | (with_reducible apply aw_blockR)
    | (with_reducible apply aw_blockN)
    | (with_reducible apply aw_blockE)
    | (with_reducible apply aw_ret)
    | (with_reducible apply aw_exit)
    | (with_reducible apply aw_skip)
    | ((with_reducible apply aw_condT); exact rfl)
    | ((with_reducible apply aw_condF); exact rfl)
    | ((with_reducible apply aw_drawL); (simp only [List.zipIdx_cons, List.zipIdx_nil, Nat.zero_add, Nat.reduceAdd] <;> rfl); kernel_rfl; kernel_rfl)
    | (with_reducible apply dw_nil)
    | fail)

  exact ⟨rfl, v, rfl, hq⟩
theorem evalCast_w (d : Ids) (hl : IdLt d) (h : AHeap) {lf sp cc : Int} {n q : Nat} {Qf : AV → AHeap → Prop} (H : Sx d lf sp n cc h) (h1 : 1 ≤ lf) (hb2 : lf ≤ 100000) (h3 : 0 ≤ sp) (h4 : sp ≤ 100000) (h5 : n ≤ 90000)
    (hQ : ∀ h', Sx d (lf - 1) (sp + 1) (n + 1) cc h' → Fr d h h' → WCall env1 28 [.ptr (some (d.R, 0)), .ptr (some (d.F, 0)), .slice none 0] h' (PQ Qf)) :
    WCall env1 61 [.ptr (some (d.R, 0)), .ptr (some (q, 0)), .ptr (some (d.X1, 0))] h (PQ Qf) := by
  refine WCall.body pr61 fn61 rfl (Nat.le_of_ble_eq_true rfl) ?_
  simp only [argsA]
  repeat (first
    | ((first | ((with_reducible apply wpOps_valT); exact rfl; exact rfl) | ((with_reducible apply wpOps_storeN); exact rfl; exact rfl) | ((with_reducible apply dw_pureT); exact rfl; exact rfl; exact rfl) | ((with_reducible apply dw_readT); exact rfl; exact rfl; exact rfl)); (simp only [List.getElem?_toArray, List.toList_toArray, bin_eql, bin_neq, bin_lss, bin_leq, bin_gtr, bin_geq, bin_add, bin_sub, bin_mul, un_not, unA, AHeap.get_bump, AHeap.next_bump, opK0, kMove, kPick, kAlloc, kBox, kBuild, kBuildSlice, kLoad, kStore, kNilCheck, kBinOp, kUnOp, kFieldAddr, kField, kIndexAddr, kIndex, kLookup, kMapUpdate, kMakeMap, kExtract, kSlice, kCall, lenA, evA, evAs, evParts, toAV, toAV0, toAVs, T.get_set, T.get_nil, Nat.reduceAdd, Nat.reduceMul, Nat.reduceEqDiff, Nat.zero_add, Nat.add_zero, Nat.mul_one, Nat.zero_mul, AV.cells, List.all_cons, List.all_nil, AV.scalar, Bool.and_true, Bool.true_and, ↓reduceIte, if_true, und_all, AHeap.get_alloc, AHeap.get_set, AHeap.next_alloc, AHeap.next_set, AHeap.loadCells, AHeap.load1, AHeap.storeCells, List.getElem?_cons_zero, List.getElem?_cons_succ, List.length_cons, List.length_nil, List.drop_zero, List.take_succ_cons, List.take_zero, List.drop_succ_cons, List.drop_nil, List.take_nil, List.append_nil, List.cons_append, List.nil_append, binA, isConstO, keyOk, ents_some, Bool.or_true, Bool.or_false, Bool.true_or, Bool.false_or, wantedA, dstOk, Option.bind_some, List.append_nil, Tryz.underlying2, Tryz.underlying3, Tryz.underlying4, Tryz.underlying9, Tryz.underlying24, Tryz.underlying26, Tryz.underlying30, Tryz.underlying35, Tryz.underlying42, Tryz.underlying44, Tryz.underlying45, Tryz.underlying47, Tryz.underlying51, Tryz.underlying63, Tryz.underlying64, Tryz.underlying66, Tryz.underlying67, Tryz.underlying69, Tryz.underlying71, Tryz.underlying79, Tryz.underlying88, Tryz.underlying90, Tryz.underlying131, Tryz.underlying132, Tryz.underlying134, Tryz.underlying135, Tryz.underlying137, Tryz.underlying177, Tryz.underlying178, Tryz.underlying180, Tryz.underlying207, Tryz.underlying209, agg131, agg132, agg134, agg135, agg137, agg177, agg178, agg180, agg2, agg207, agg209, agg24, agg26, agg3, agg30, agg35, agg4, agg42, agg44, agg45, agg47, agg51, agg63, agg64, agg66, agg67, agg69, agg71, agg79, agg88, agg9, agg90, byt131, byt132, byt134, byt135, byt137, byt177, byt178, byt180, byt2, byt207, byt209, byt24, byt26, byt3, byt30, byt35, byt4, byt42, byt44, byt45, byt47, byt51, byt63, byt64, byt66, byt67, byt69, byt71, byt79, byt88, byt9, byt90, siz131, siz132, siz134, siz135, siz137, siz177, siz178, siz180, siz2, siz207, siz209, siz24, siz26, siz3, siz30, siz35, siz4, siz42, siz44, siz45, siz47, siz51, siz63, siz64, siz66, siz67, siz69, siz71, siz79, siz88, siz9, siz90, zer131, zer132, zer134, zer135, zer137, zer177, zer178, zer180, zer2, zer207, zer209, zer24, zer26, zer3, zer30, zer35, zer4, zer42, zer44, zer45, zer47, zer51, zer63, zer64, zer66, zer67, zer69, zer71, zer79, zer88, zer9, zer90, decide_true, decide_false, beq_self_eq_true, bne_self_eq_false, Bool.not_true, Bool.not_false, Bool.false_eq_true, if_false, List.zipIdx_cons, reid, toAV, Int.toNat_natCast, kPanic, kMakeInterface, fn89] <;> rfl))
    | ((with_reducible apply wpOps_skipT); exact rfl; exact rfl)
    | ((with_reducible apply wpOps_skipN); exact rfl; exact rfl)
    | ((with_reducible apply dw_skipT); exact rfl; exact rfl)
    | (with_reducible apply aw_seq)
    | (with_reducible apply aw_regionL)
    | (with_reducible apply aw_block)
    | (with_reducible apply aw_scope)
    | (with_reducible apply aw_nil)
    | (with_reducible apply aw_then)
    | (with_reducible apply aw_thenR)
    | (with_reducible apply aw_thenE)
    | (with_reducible apply aw_thenP)
    | (with_reducible apply aw_blockP)
    | (with_reducible apply aw_blockR)
    | (with_reducible apply aw_blockN)
    | (with_reducible apply aw_blockE)
    | (with_reducible apply aw_ret)
    | (with_reducible apply aw_exit)
    | (with_reducible apply aw_skip)
    | ((with_reducible apply aw_condT); exact rfl)
    | ((with_reducible apply aw_condF); exact rfl)
    | ((with_reducible apply aw_drawL); (simp only [List.zipIdx_cons, List.zipIdx_nil, Nat.zero_add, Nat.reduceAdd] <;> rfl); kernel_rfl; kernel_rfl)
    | (with_reducible apply dw_nil)
    | fail)

  (with_reducible apply wpOps_callT); exact rfl; exact rfl; (simp only [List.getElem?_toArray, List.toList_toArray, bin_eql, bin_neq, bin_lss, bin_leq, bin_gtr, bin_geq, bin_add, bin_sub, bin_mul, un_not, unA, AHeap.get_bump, AHeap.next_bump, opK0, kMove, kPick, kAlloc, kBox, kBuild, kBuildSlice, kLoad, kStore, kNilCheck, kBinOp, kUnOp, kFieldAddr, kField, kIndexAddr, kIndex, kLookup, kMapUpdate, kMakeMap, kExtract, kSlice, kCall, lenA, evA, evAs, evParts, toAV, toAV0, toAVs, T.get_set, T.get_nil, Nat.reduceAdd, Nat.reduceMul, Nat.reduceEqDiff, Nat.zero_add, Nat.add_zero, Nat.mul_one, Nat.zero_mul, AV.cells, List.all_cons, List.all_nil, AV.scalar, Bool.and_true, Bool.true_and, ↓reduceIte, if_true, und_all, AHeap.get_alloc, AHeap.get_set, AHeap.next_alloc, AHeap.next_set, AHeap.loadCells, AHeap.load1, AHeap.storeCells, List.getElem?_cons_zero, List.getElem?_cons_succ, List.length_cons, List.length_nil, List.drop_zero, List.take_succ_cons, List.take_zero, List.drop_succ_cons, List.drop_nil, List.take_nil, List.append_nil, List.cons_append, List.nil_append, binA, isConstO, keyOk, ents_some, Bool.or_true, Bool.or_false, Bool.true_or, Bool.false_or, wantedA, dstOk, Option.bind_some, List.append_nil, Tryz.underlying2, Tryz.underlying3, Tryz.underlying4, Tryz.underlying9, Tryz.underlying24, Tryz.underlying26, Tryz.underlying30, Tryz.underlying35, Tryz.underlying42, Tryz.underlying44, Tryz.underlying45, Tryz.underlying47, Tryz.underlying51, Tryz.underlying63, Tryz.underlying64, Tryz.underlying66, Tryz.underlying67, Tryz.underlying69, Tryz.underlying71, Tryz.underlying79, Tryz.underlying88, Tryz.underlying90, Tryz.underlying131, Tryz.underlying132, Tryz.underlying134, Tryz.underlying135, Tryz.underlying137, Tryz.underlying177, Tryz.underlying178, Tryz.underlying180, Tryz.underlying207, Tryz.underlying209, agg131, agg132, agg134, agg135, agg137, agg177, agg178, agg180, agg2, agg207, agg209, agg24, agg26, agg3, agg30, agg35, agg4, agg42, agg44, agg45, agg47, agg51, agg63, agg64, agg66, agg67, agg69, agg71, agg79, agg88, agg9, agg90, byt131, byt132, byt134, byt135, byt137, byt177, byt178, byt180, byt2, byt207, byt209, byt24, byt26, byt3, byt30, byt35, byt4, byt42, byt44, byt45, byt47, byt51, byt63, byt64, byt66, byt67, byt69, byt71, byt79, byt88, byt9, byt90, siz131, siz132, siz134, siz135, siz137, siz177, siz178, siz180, siz2, siz207, siz209, siz24, siz26, siz3, siz30, siz35, siz4, siz42, siz44, siz45, siz47, siz51, siz63, siz64, siz66, siz67, siz69, siz71, siz79, siz88, siz9, siz90, zer131, zer132, zer134, zer135, zer137, zer177, zer178, zer180, zer2, zer207, zer209, zer24, zer26, zer3, zer30, zer35, zer4, zer42, zer44, zer45, zer47, zer51, zer63, zer64, zer66, zer67, zer69, zer71, zer79, zer88, zer9, zer90, decide_true, decide_false, beq_self_eq_true, bne_self_eq_false, Bool.not_true, Bool.not_false, Bool.false_eq_true, if_false, List.zipIdx_cons, reid, toAV, Int.toNat_natCast, kPanic, kMakeInterface, fn89] <;> rfl)

  refine WCall_heap (fun X => Sx d lf sp n cc X ∧ Fr d h X) (H.more hl (fun i hi => by rw [AHeap.get_alloc, if_neg (by omega)]) (by rw [AHeap.next_alloc]; omega)) ?_
  rintro X ⟨HX, fX⟩
  have x1 := HX.ast.x1
  have xl := HX.ast.xl
  refine (place_w d.X1 X x1 (by decide)).mono fun out h2 hq => ?_
  obtain ⟨rfl, rfl⟩ := hq
  dsimp only
  repeat (first
    | ((first | ((with_reducible apply wpOps_valT); exact rfl; exact rfl) | ((with_reducible apply wpOps_storeN); exact rfl; exact rfl) | ((with_reducible apply dw_pureT); exact rfl; exact rfl; exact rfl) | ((with_reducible apply dw_readT); exact rfl; exact rfl; exact rfl)); (simp only [List.getElem?_toArray, List.toList_toArray, bin_eql, bin_neq, bin_lss, bin_leq, bin_gtr, bin_geq, bin_add, bin_sub, bin_mul, un_not, unA, AHeap.get_bump, AHeap.next_bump, opK0, kMove, kPick, kAlloc, kBox, kBuild, kBuildSlice, kLoad, kStore, kNilCheck, kBinOp, kUnOp, kFieldAddr, kField, kIndexAddr, kIndex, kLookup, kMapUpdate, kMakeMap, kExtract, kSlice, kCall, lenA, evA, evAs, evParts, toAV, toAV0, toAVs, T.get_set, T.get_nil, Nat.reduceAdd, Nat.reduceMul, Nat.reduceEqDiff, Nat.zero_add, Nat.add_zero, Nat.mul_one, Nat.zero_mul, AV.cells, List.all_cons, List.all_nil, AV.scalar, Bool.and_true, Bool.true_and, ↓reduceIte, if_true, und_all, AHeap.get_alloc, AHeap.get_set, AHeap.next_alloc, AHeap.next_set, AHeap.loadCells, AHeap.load1, AHeap.storeCells, List.getElem?_cons_zero, List.getElem?_cons_succ, List.length_cons, List.length_nil, List.drop_zero, List.take_succ_cons, List.take_zero, List.drop_succ_cons, List.drop_nil, List.take_nil, List.append_nil, List.cons_append, List.nil_append, binA, isConstO, keyOk, ents_some, Bool.or_true, Bool.or_false, Bool.true_or, Bool.false_or, wantedA, dstOk, Option.bind_some, List.append_nil, Tryz.underlying2, Tryz.underlying3, Tryz.underlying4, Tryz.underlying9, Tryz.underlying24, Tryz.underlying26, Tryz.underlying30, Tryz.underlying35, Tryz.underlying42, Tryz.underlying44, Tryz.underlying45, Tryz.underlying47, Tryz.underlying51, Tryz.underlying63, Tryz.underlying64, Tryz.underlying66, Tryz.underlying67, Tryz.underlying69, Tryz.underlying71, Tryz.underlying79, Tryz.underlying88, Tryz.underlying90, Tryz.underlying131, Tryz.underlying132, Tryz.underlying134, Tryz.underlying135, Tryz.underlying137, Tryz.underlying177, Tryz.underlying178, Tryz.underlying180, Tryz.underlying207, Tryz.underlying209, agg131, agg132, agg134, agg135, agg137, agg177, agg178, agg180, agg2, agg207, agg209, agg24, agg26, agg3, agg30, agg35, agg4, agg42, agg44, agg45, agg47, agg51, agg63, agg64, agg66, agg67, agg69, agg71, agg79, agg88, agg9, agg90, byt131, byt132, byt134, byt135, byt137, byt177, byt178, byt180, byt2, byt207, byt209, byt24, byt26, byt3, byt30, byt35, byt4, byt42, byt44, byt45, byt47, byt51, byt63, byt64, byt66, byt67, byt69, byt71, byt79, byt88, byt9, byt90, siz131, siz132, siz134, siz135, siz137, siz177, siz178, siz180, siz2, siz207, siz209, siz24, siz26, siz3, siz30, siz35, siz4, siz42, siz44, siz45, siz47, siz51, siz63, siz64, siz66, siz67, siz69, siz71, siz79, siz88, siz9, siz90, zer131, zer132, zer134, zer135, zer137, zer177, zer178, zer180, zer2, zer207, zer209, zer24, zer26, zer3, zer30, zer35, zer4, zer42, zer44, zer45, zer47, zer51, zer63, zer64, zer66, zer67, zer69, zer71, zer79, zer88, zer9, zer90, decide_true, decide_false, beq_self_eq_true, bne_self_eq_false, Bool.not_true, Bool.not_false, Bool.false_eq_true, if_false, List.zipIdx_cons, reid, toAV, Int.toNat_natCast, kPanic, kMakeInterface, x1, xl, fn61] <;> rfl))
    | ((with_reducible apply wpOps_skipT); exact rfl; exact rfl)
    | ((with_reducible apply wpOps_skipN); exact rfl; exact rfl)
    | ((with_reducible apply dw_skipT); exact rfl; exact rfl)
    | (with_reducible apply aw_seq)
    | (with_reducible apply aw_regionL)
    | (with_reducible apply aw_block)
    | (with_reducible apply aw_scope)
    | (with_reducible apply aw_nil)
    | (with_reducible apply aw_then)
    | (with_reducible apply aw_thenR)
    | (with_reducible apply aw_thenE)
    | (with_reducible apply aw_thenP)
    | (with_reducible apply aw_blockP)
    | (with_reducible apply aw_blockR)
    | (with_reducible apply aw_blockN)
    | (with_reducible apply aw_blockE)
    | (with_reducible apply aw_ret)
    | (with_reducible apply aw_exit)
    | (with_reducible apply aw_skip)
    | ((with_reducible apply aw_condT); exact rfl)
    | ((with_reducible apply aw_condF); exact rfl)
    | ((with_reducible apply aw_drawL); (simp only [List.zipIdx_cons, List.zipIdx_nil, Nat.zero_add, Nat.reduceAdd] <;> rfl); kernel_rfl; kernel_rfl)
    | (with_reducible apply dw_nil)
    | fail)

  (with_reducible apply dw_callP); exact rfl; exact rfl; (simp only [List.getElem?_toArray, List.toList_toArray, bin_eql, bin_neq, bin_lss, bin_leq, bin_gtr, bin_geq, bin_add, bin_sub, bin_mul, un_not, unA, AHeap.get_bump, AHeap.next_bump, opK0, kMove, kPick, kAlloc, kBox, kBuild, kBuildSlice, kLoad, kStore, kNilCheck, kBinOp, kUnOp, kFieldAddr, kField, kIndexAddr, kIndex, kLookup, kMapUpdate, kMakeMap, kExtract, kSlice, kCall, lenA, evA, evAs, evParts, toAV, toAV0, toAVs, T.get_set, T.get_nil, Nat.reduceAdd, Nat.reduceMul, Nat.reduceEqDiff, Nat.zero_add, Nat.add_zero, Nat.mul_one, Nat.zero_mul, AV.cells, List.all_cons, List.all_nil, AV.scalar, Bool.and_true, Bool.true_and, ↓reduceIte, if_true, und_all, AHeap.get_alloc, AHeap.get_set, AHeap.next_alloc, AHeap.next_set, AHeap.loadCells, AHeap.load1, AHeap.storeCells, List.getElem?_cons_zero, List.getElem?_cons_succ, List.length_cons, List.length_nil, List.drop_zero, List.take_succ_cons, List.take_zero, List.drop_succ_cons, List.drop_nil, List.take_nil, List.append_nil, List.cons_append, List.nil_append, binA, isConstO, keyOk, ents_some, Bool.or_true, Bool.or_false, Bool.true_or, Bool.false_or, wantedA, dstOk, Option.bind_some, List.append_nil, Tryz.underlying2, Tryz.underlying3, Tryz.underlying4, Tryz.underlying9, Tryz.underlying24, Tryz.underlying26, Tryz.underlying30, Tryz.underlying35, Tryz.underlying42, Tryz.underlying44, Tryz.underlying45, Tryz.underlying47, Tryz.underlying51, Tryz.underlying63, Tryz.underlying64, Tryz.underlying66, Tryz.underlying67, Tryz.underlying69, Tryz.underlying71, Tryz.underlying79, Tryz.underlying88, Tryz.underlying90, Tryz.underlying131, Tryz.underlying132, Tryz.underlying134, Tryz.underlying135, Tryz.underlying137, Tryz.underlying177, Tryz.underlying178, Tryz.underlying180, Tryz.underlying207, Tryz.underlying209, agg131, agg132, agg134, agg135, agg137, agg177, agg178, agg180, agg2, agg207, agg209, agg24, agg26, agg3, agg30, agg35, agg4, agg42, agg44, agg45, agg47, agg51, agg63, agg64, agg66, agg67, agg69, agg71, agg79, agg88, agg9, agg90, byt131, byt132, byt134, byt135, byt137, byt177, byt178, byt180, byt2, byt207, byt209, byt24, byt26, byt3, byt30, byt35, byt4, byt42, byt44, byt45, byt47, byt51, byt63, byt64, byt66, byt67, byt69, byt71, byt79, byt88, byt9, byt90, siz131, siz132, siz134, siz135, siz137, siz177, siz178, siz180, siz2, siz207, siz209, siz24, siz26, siz3, siz30, siz35, siz4, siz42, siz44, siz45, siz47, siz51, siz63, siz64, siz66, siz67, siz69, siz71, siz79, siz88, siz9, siz90, zer131, zer132, zer134, zer135, zer137, zer177, zer178, zer180, zer2, zer207, zer209, zer24, zer26, zer3, zer30, zer35, zer4, zer42, zer44, zer45, zer47, zer51, zer63, zer64, zer66, zer67, zer69, zer71, zer79, zer88, zer9, zer90, decide_true, decide_false, beq_self_eq_true, bne_self_eq_false, Bool.not_true, Bool.not_false, Bool.false_eq_true, if_false, List.zipIdx_cons, reid, toAV, Int.toNat_natCast, kPanic, kMakeInterface, x1, xl, fn61] <;> rfl); exact rfl; kernel_rfl

  refine WCall_heap (fun V => Sx d lf sp n cc V ∧ Fr d h2 V) (HX.more hl (fun i hi => rfl) (Nat.le_add_right _ _)) ?_
  rintro V ⟨HV, fV⟩
  refine (evalCall_w d hl V HV h1 hb2 h3 h4 h5 fun h' H' F' => hQ h' H' (fX.trans (fV.trans F'))).mono fun out h2 hq => ?_
  obtain ⟨v, rfl, hq⟩ := hq
  refine ⟨v, rfl, fun rg' => ?_⟩
  repeat (first
    | ((first | ((with_reducible apply wpOps_valT); exact rfl; exact rfl) | ((with_reducible apply wpOps_storeN); exact rfl; exact rfl) | ((with_reducible apply dw_pureT); exact rfl; exact rfl; exact rfl) | ((with_reducible apply dw_readT); exact rfl; exact rfl; exact rfl)); (simp only [List.getElem?_toArray, List.toList_toArray, bin_eql, bin_neq, bin_lss, bin_leq, bin_gtr, bin_geq, bin_add, bin_sub, bin_mul, un_not, unA, AHeap.get_bump, AHeap.next_bump, opK0, kMove, kPick, kAlloc, kBox, kBuild, kBuildSlice, kLoad, kStore, kNilCheck, kBinOp, kUnOp, kFieldAddr, kField, kIndexAddr, kIndex, kLookup, kMapUpdate, kMakeMap, kExtract, kSlice, kCall, lenA, evA, evAs, evParts, toAV, toAV0, toAVs, T.get_set, T.get_nil, Nat.reduceAdd, Nat.reduceMul, Nat.reduceEqDiff, Nat.zero_add, Nat.add_zero, Nat.mul_one, Nat.zero_mul, AV.cells, List.all_cons, List.all_nil, AV.scalar, Bool.and_true, Bool.true_and, ↓reduceIte, if_true, und_all, AHeap.get_alloc, AHeap.get_set, AHeap.next_alloc, AHeap.next_set, AHeap.loadCells, AHeap.load1, AHeap.storeCells, List.getElem?_cons_zero, List.getElem?_cons_succ, List.length_cons, List.length_nil, List.drop_zero, List.take_succ_cons, List.take_zero, List.drop_succ_cons, List.drop_nil, List.take_nil, List.append_nil, List.cons_append, List.nil_append, binA, isConstO, keyOk, ents_some, Bool.or_true, Bool.or_false, Bool.true_or, Bool.false_or, wantedA, dstOk, Option.bind_some, List.append_nil, Tryz.underlying2, Tryz.underlying3, Tryz.underlying4, Tryz.underlying9, Tryz.underlying24, Tryz.underlying26, Tryz.underlying30, Tryz.underlying35, Tryz.underlying42, Tryz.underlying44, Tryz.underlying45, Tryz.underlying47, Tryz.underlying51, Tryz.underlying63, Tryz.underlying64, Tryz.underlying66, Tryz.underlying67, Tryz.underlying69, Tryz.underlying71, Tryz.underlying79, Tryz.underlying88, Tryz.underlying90, Tryz.underlying131, Tryz.underlying132, Tryz.underlying134, Tryz.underlying135, Tryz.underlying137, Tryz.underlying177, Tryz.underlying178, Tryz.underlying180, Tryz.underlying207, Tryz.underlying209, agg131, agg132, agg134, agg135, agg137, agg177, agg178, agg180, agg2, agg207, agg209, agg24, agg26, agg3, agg30, agg35, agg4, agg42, agg44, agg45, agg47, agg51, agg63, agg64, agg66, agg67, agg69, agg71, agg79, agg88, agg9, agg90, byt131, byt132, byt134, byt135, byt137, byt177, byt178, byt180, byt2, byt207, byt209, byt24, byt26, byt3, byt30, byt35, byt4, byt42, byt44, byt45, byt47, byt51, byt63, byt64, byt66, byt67, byt69, byt71, byt79, byt88, byt9, byt90, siz131, siz132, siz134, siz135, siz137, siz177, siz178, siz180, siz2, siz207, siz209, siz24, siz26, siz3, siz30, siz35, siz4, siz42, siz44, siz45, siz47, siz51, siz63, siz64, siz66, siz67, siz69, siz71, siz79, siz88, siz9, siz90, zer131, zer132, zer134, zer135, zer137, zer177, zer178, zer180, zer2, zer207, zer209, zer24, zer26, zer3, zer30, zer35, zer4, zer42, zer44, zer45, zer47, zer51, zer63, zer64, zer66, zer67, zer69, zer71, zer79, zer88, zer9, zer90, decide_true, decide_false, beq_self_eq_true, bne_self_eq_false, Bool.not_true, Bool.not_false, Bool.false_eq_true, if_false, List.zipIdx_cons, reid, toAV, Int.toNat_natCast, kPanic, kMakeInterface] <;> rfl))
    | ((with_reducible apply wpOps_skipT); exact rfl; exact rfl)
    | ((with_reducible apply wpOps_skipN); exact rfl; exact rfl)
    | ((with_reducible apply dw_skipT); exact rfl; exact rfl)
    | (with_reducible apply aw_seq)
    | (with_reducible apply aw_regionL)
    | (with_reducible apply aw_block)
    | (with_reducible apply aw_scope)
    | (with_reducible apply aw_nil)
    | (with_reducible apply aw_then)
    | (with_reducible apply aw_thenR)
    | (with_reducible apply aw_thenE)
    | (with_reducible apply aw_thenP)
    | (with_reducible apply aw_blockP)
    | (with_reducible apply aw_blockR)
    | (with_reducible apply aw_blockN)
    | (with_reducible apply aw_blockE)
    | (with_reducible apply aw_ret)
    | (with_reducible apply aw_exit)
    | (with_reducible apply aw_skip)
    | ((with_reducible apply aw_condT); exact rfl)
    | ((with_reducible apply aw_condF); exact rfl)
    | ((with_reducible apply aw_drawL); (simp only [List.zipIdx_cons, List.zipIdx_nil, Nat.zero_add, Nat.reduceAdd] <;> rfl); kernel_rfl; kernel_rfl)
    | (with_reducible apply dw_nil)
    | fail)

  exact ⟨rfl, v, rfl, hq⟩
theorem stmtRet_w (d : Ids) (hl : IdLt d) (h : AHeap) {lf sp cc : Int} {n q : Nat} {Qf : AV → AHeap → Prop} (H : Sx d lf sp n cc h) (h1 : 2 ≤ lf) (h2 : lf ≤ 100000) (h3 : 0 ≤ sp) (h4 : sp ≤ 90000) (h5 : n ≤ 90000)
    (hQ : ∀ h', Sx d (lf - 1 - 1) (sp + 1 + 1) (n + 1) cc h' → Fr d h h' → WCall env1 28 [.ptr (some (d.R, 0)), .ptr (some (d.F, 0)), .slice none 0] h' (PQ Qf)) :
    WCall env1 43 [.ptr (some (d.R, 0)), .ptr (some (q, 0)), .ptr (some (d.S, 0))] h (PQ Qf) := by
  refine WCall.body pr43 fn43 rfl (Nat.le_of_ble_eq_true rfl) ?_
  simp only [argsA]
  repeat (first
    | ((first | ((with_reducible apply wpOps_valT); exact rfl; exact rfl) | ((with_reducible apply wpOps_storeN); exact rfl; exact rfl) | ((with_reducible apply dw_pureT); exact rfl; exact rfl; exact rfl) | ((with_reducible apply dw_readT); exact rfl; exact rfl; exact rfl)); (simp only [List.getElem?_toArray, List.toList_toArray, bin_eql, bin_neq, bin_lss, bin_leq, bin_gtr, bin_geq, bin_add, bin_sub, bin_mul, un_not, unA, AHeap.get_bump, AHeap.next_bump, opK0, kMove, kPick, kAlloc, kBox, kBuild, kBuildSlice, kLoad, kStore, kNilCheck, kBinOp, kUnOp, kFieldAddr, kField, kIndexAddr, kIndex, kLookup, kMapUpdate, kMakeMap, kExtract, kSlice, kCall, lenA, evA, evAs, evParts, toAV, toAV0, toAVs, T.get_set, T.get_nil, Nat.reduceAdd, Nat.reduceMul, Nat.reduceEqDiff, Nat.zero_add, Nat.add_zero, Nat.mul_one, Nat.zero_mul, AV.cells, List.all_cons, List.all_nil, AV.scalar, Bool.and_true, Bool.true_and, ↓reduceIte, if_true, und_all, AHeap.get_alloc, AHeap.get_set, AHeap.next_alloc, AHeap.next_set, AHeap.loadCells, AHeap.load1, AHeap.storeCells, List.getElem?_cons_zero, List.getElem?_cons_succ, List.length_cons, List.length_nil, List.drop_zero, List.take_succ_cons, List.take_zero, List.drop_succ_cons, List.drop_nil, List.take_nil, List.append_nil, List.cons_append, List.nil_append, binA, isConstO, keyOk, ents_some, Bool.or_true, Bool.or_false, Bool.true_or, Bool.false_or, wantedA, dstOk, Option.bind_some, List.append_nil, Tryz.underlying2, Tryz.underlying3, Tryz.underlying4, Tryz.underlying9, Tryz.underlying24, Tryz.underlying26, Tryz.underlying30, Tryz.underlying35, Tryz.underlying42, Tryz.underlying44, Tryz.underlying45, Tryz.underlying47, Tryz.underlying51, Tryz.underlying63, Tryz.underlying64, Tryz.underlying66, Tryz.underlying67, Tryz.underlying69, Tryz.underlying71, Tryz.underlying79, Tryz.underlying88, Tryz.underlying90, Tryz.underlying131, Tryz.underlying132, Tryz.underlying134, Tryz.underlying135, Tryz.underlying137, Tryz.underlying177, Tryz.underlying178, Tryz.underlying180, Tryz.underlying207, Tryz.underlying209, agg131, agg132, agg134, agg135, agg137, agg177, agg178, agg180, agg2, agg207, agg209, agg24, agg26, agg3, agg30, agg35, agg4, agg42, agg44, agg45, agg47, agg51, agg63, agg64, agg66, agg67, agg69, agg71, agg79, agg88, agg9, agg90, byt131, byt132, byt134, byt135, byt137, byt177, byt178, byt180, byt2, byt207, byt209, byt24, byt26, byt3, byt30, byt35, byt4, byt42, byt44, byt45, byt47, byt51, byt63, byt64, byt66, byt67, byt69, byt71, byt79, byt88, byt9, byt90, siz131, siz132, siz134, siz135, siz137, siz177, siz178, siz180, siz2, siz207, siz209, siz24, siz26, siz3, siz30, siz35, siz4, siz42, siz44, siz45, siz47, siz51, siz63, siz64, siz66, siz67, siz69, siz71, siz79, siz88, siz9, siz90, zer131, zer132, zer134, zer135, zer137, zer177, zer178, zer180, zer2, zer207, zer209, zer24, zer26, zer3, zer30, zer35, zer4, zer42, zer44, zer45, zer47, zer51, zer63, zer64, zer66, zer67, zer69, zer71, zer79, zer88, zer9, zer90, decide_true, decide_false, beq_self_eq_true, bne_self_eq_false, Bool.not_true, Bool.not_false, Bool.false_eq_true, if_false, List.zipIdx_cons, reid, toAV, Int.toNat_natCast, kPanic, kMakeInterface, fn58] <;> rfl))
    | ((with_reducible apply wpOps_skipT); exact rfl; exact rfl)
    | ((with_reducible apply wpOps_skipN); exact rfl; exact rfl)
    | ((with_reducible apply dw_skipT); exact rfl; exact rfl)
    | (with_reducible apply aw_seq)
    | (with_reducible apply aw_regionL)
    | (with_reducible apply aw_block)
    | (with_reducible apply aw_scope)
    | (with_reducible apply aw_nil)
    | (with_reducible apply aw_then)
    | (with_reducible apply aw_thenR)
    | (with_reducible apply aw_thenE)
    | (with_reducible apply aw_thenP)
    | (with_reducible apply aw_blockP)
    | (with_reducible apply aw_blockR)
    | (with_reducible apply aw_blockN)
    | (with_reducible apply aw_blockE)
    | (with_reducible apply aw_ret)
    | (with_reducible apply aw_exit)
    | (with_reducible apply aw_skip)
    | ((with_reducible apply aw_condT); exact rfl)
    | ((with_reducible apply aw_condF); exact rfl)
    | ((with_reducible apply aw_drawL); (simp only [List.zipIdx_cons, List.zipIdx_nil, Nat.zero_add, Nat.reduceAdd] <;> rfl); kernel_rfl; kernel_rfl)
    | (with_reducible apply dw_nil)
    | fail)

  (with_reducible apply wpOps_callT); exact rfl; exact rfl; (simp only [List.getElem?_toArray, List.toList_toArray, bin_eql, bin_neq, bin_lss, bin_leq, bin_gtr, bin_geq, bin_add, bin_sub, bin_mul, un_not, unA, AHeap.get_bump, AHeap.next_bump, opK0, kMove, kPick, kAlloc, kBox, kBuild, kBuildSlice, kLoad, kStore, kNilCheck, kBinOp, kUnOp, kFieldAddr, kField, kIndexAddr, kIndex, kLookup, kMapUpdate, kMakeMap, kExtract, kSlice, kCall, lenA, evA, evAs, evParts, toAV, toAV0, toAVs, T.get_set, T.get_nil, Nat.reduceAdd, Nat.reduceMul, Nat.reduceEqDiff, Nat.zero_add, Nat.add_zero, Nat.mul_one, Nat.zero_mul, AV.cells, List.all_cons, List.all_nil, AV.scalar, Bool.and_true, Bool.true_and, ↓reduceIte, if_true, und_all, AHeap.get_alloc, AHeap.get_set, AHeap.next_alloc, AHeap.next_set, AHeap.loadCells, AHeap.load1, AHeap.storeCells, List.getElem?_cons_zero, List.getElem?_cons_succ, List.length_cons, List.length_nil, List.drop_zero, List.take_succ_cons, List.take_zero, List.drop_succ_cons, List.drop_nil, List.take_nil, List.append_nil, List.cons_append, List.nil_append, binA, isConstO, keyOk, ents_some, Bool.or_true, Bool.or_false, Bool.true_or, Bool.false_or, wantedA, dstOk, Option.bind_some, List.append_nil, Tryz.underlying2, Tryz.underlying3, Tryz.underlying4, Tryz.underlying9, Tryz.underlying24, Tryz.underlying26, Tryz.underlying30, Tryz.underlying35, Tryz.underlying42, Tryz.underlying44, Tryz.underlying45, Tryz.underlying47, Tryz.underlying51, Tryz.underlying63, Tryz.underlying64, Tryz.underlying66, Tryz.underlying67, Tryz.underlying69, Tryz.underlying71, Tryz.underlying79, Tryz.underlying88, Tryz.underlying90, Tryz.underlying131, Tryz.underlying132, Tryz.underlying134, Tryz.underlying135, Tryz.underlying137, Tryz.underlying177, Tryz.underlying178, Tryz.underlying180, Tryz.underlying207, Tryz.underlying209, agg131, agg132, agg134, agg135, agg137, agg177, agg178, agg180, agg2, agg207, agg209, agg24, agg26, agg3, agg30, agg35, agg4, agg42, agg44, agg45, agg47, agg51, agg63, agg64, agg66, agg67, agg69, agg71, agg79, agg88, agg9, agg90, byt131, byt132, byt134, byt135, byt137, byt177, byt178, byt180, byt2, byt207, byt209, byt24, byt26, byt3, byt30, byt35, byt4, byt42, byt44, byt45, byt47, byt51, byt63, byt64, byt66, byt67, byt69, byt71, byt79, byt88, byt9, byt90, siz131, siz132, siz134, siz135, siz137, siz177, siz178, siz180, siz2, siz207, siz209, siz24, siz26, siz3, siz30, siz35, siz4, siz42, siz44, siz45, siz47, siz51, siz63, siz64, siz66, siz67, siz69, siz71, siz79, siz88, siz9, siz90, zer131, zer132, zer134, zer135, zer137, zer177, zer178, zer180, zer2, zer207, zer209, zer24, zer26, zer3, zer30, zer35, zer4, zer42, zer44, zer45, zer47, zer51, zer63, zer64, zer66, zer67, zer69, zer71, zer79, zer88, zer9, zer90, decide_true, decide_false, beq_self_eq_true, bne_self_eq_false, Bool.not_true, Bool.not_false, Bool.false_eq_true, if_false, List.zipIdx_cons, reid, toAV, Int.toNat_natCast, kPanic, kMakeInterface, fn58] <;> rfl)

  refine (step_s d hl h H (by omega) (by omega) h3 (by omega)).mono fun out Y hq => ?_
  obtain ⟨rfl, HY, fY⟩ := hq
  dsimp only
  have s1 := HY.ast.s
  repeat (first
    | ((first | ((with_reducible apply wpOps_valT); exact rfl; exact rfl) | ((with_reducible apply wpOps_storeN); exact rfl; exact rfl) | ((with_reducible apply dw_pureT); exact rfl; exact rfl; exact rfl) | ((with_reducible apply dw_readT); exact rfl; exact rfl; exact rfl)); (simp only [List.getElem?_toArray, List.toList_toArray, bin_eql, bin_neq, bin_lss, bin_leq, bin_gtr, bin_geq, bin_add, bin_sub, bin_mul, un_not, unA, AHeap.get_bump, AHeap.next_bump, opK0, kMove, kPick, kAlloc, kBox, kBuild, kBuildSlice, kLoad, kStore, kNilCheck, kBinOp, kUnOp, kFieldAddr, kField, kIndexAddr, kIndex, kLookup, kMapUpdate, kMakeMap, kExtract, kSlice, kCall, lenA, evA, evAs, evParts, toAV, toAV0, toAVs, T.get_set, T.get_nil, Nat.reduceAdd, Nat.reduceMul, Nat.reduceEqDiff, Nat.zero_add, Nat.add_zero, Nat.mul_one, Nat.zero_mul, AV.cells, List.all_cons, List.all_nil, AV.scalar, Bool.and_true, Bool.true_and, ↓reduceIte, if_true, und_all, AHeap.get_alloc, AHeap.get_set, AHeap.next_alloc, AHeap.next_set, AHeap.loadCells, AHeap.load1, AHeap.storeCells, List.getElem?_cons_zero, List.getElem?_cons_succ, List.length_cons, List.length_nil, List.drop_zero, List.take_succ_cons, List.take_zero, List.drop_succ_cons, List.drop_nil, List.take_nil, List.append_nil, List.cons_append, List.nil_append, binA, isConstO, keyOk, ents_some, Bool.or_true, Bool.or_false, Bool.true_or, Bool.false_or, wantedA, dstOk, Option.bind_some, List.append_nil, Tryz.underlying2, Tryz.underlying3, Tryz.underlying4, Tryz.underlying9, Tryz.underlying24, Tryz.underlying26, Tryz.underlying30, Tryz.underlying35, Tryz.underlying42, Tryz.underlying44, Tryz.underlying45, Tryz.underlying47, Tryz.underlying51, Tryz.underlying63, Tryz.underlying64, Tryz.underlying66, Tryz.underlying67, Tryz.underlying69, Tryz.underlying71, Tryz.underlying79, Tryz.underlying88, Tryz.underlying90, Tryz.underlying131, Tryz.underlying132, Tryz.underlying134, Tryz.underlying135, Tryz.underlying137, Tryz.underlying177, Tryz.underlying178, Tryz.underlying180, Tryz.underlying207, Tryz.underlying209, agg131, agg132, agg134, agg135, agg137, agg177, agg178, agg180, agg2, agg207, agg209, agg24, agg26, agg3, agg30, agg35, agg4, agg42, agg44, agg45, agg47, agg51, agg63, agg64, agg66, agg67, agg69, agg71, agg79, agg88, agg9, agg90, byt131, byt132, byt134, byt135, byt137, byt177, byt178, byt180, byt2, byt207, byt209, byt24, byt26, byt3, byt30, byt35, byt4, byt42, byt44, byt45, byt47, byt51, byt63, byt64, byt66, byt67, byt69, byt71, byt79, byt88, byt9, byt90, siz131, siz132, siz134, siz135, siz137, siz177, siz178, siz180, siz2, siz207, siz209, siz24, siz26, siz3, siz30, siz35, siz4, siz42, siz44, siz45, siz47, siz51, siz63, siz64, siz66, siz67, siz69, siz71, siz79, siz88, siz9, siz90, zer131, zer132, zer134, zer135, zer137, zer177, zer178, zer180, zer2, zer207, zer209, zer24, zer26, zer3, zer30, zer35, zer4, zer42, zer44, zer45, zer47, zer51, zer63, zer64, zer66, zer67, zer69, zer71, zer79, zer88, zer9, zer90, decide_true, decide_false, beq_self_eq_true, bne_self_eq_false, Bool.not_true, Bool.not_false, Bool.false_eq_true, if_false, List.zipIdx_cons, reid, toAV, Int.toNat_natCast, kPanic, kMakeInterface, s1, fn61] <;> rfl))
    | ((with_reducible apply wpOps_skipT); exact rfl; exact rfl)
    | ((with_reducible apply wpOps_skipN); exact rfl; exact rfl)
    | ((with_reducible apply dw_skipT); exact rfl; exact rfl)
    | (with_reducible apply aw_seq)
    | (with_reducible apply aw_regionL)
    | (with_reducible apply aw_block)
    | (with_reducible apply aw_scope)
    | (with_reducible apply aw_nil)
    | (with_reducible apply aw_then)
    | (with_reducible apply aw_thenR)
    | (with_reducible apply aw_thenE)
    | (with_reducible apply aw_thenP)
    | (with_reducible apply aw_blockP)
    | (with_reducible apply aw_blockR)
    | (with_reducible apply aw_blockN)
    | (with_reducible apply aw_blockE)
    | (with_reducible apply aw_ret)
    | (with_reducible apply aw_exit)
    | (with_reducible apply aw_skip)
    | ((with_reducible apply aw_condT); exact rfl)
    | ((with_reducible apply aw_condF); exact rfl)
    | ((with_reducible apply aw_drawL); (simp only [List.zipIdx_cons, List.zipIdx_nil, Nat.zero_add, Nat.reduceAdd] <;> rfl); kernel_rfl; kernel_rfl)
    | (with_reducible apply dw_nil)
    | fail)

  (with_reducible apply wpOps_callT); exact rfl; exact rfl; (simp only [List.getElem?_toArray, List.toList_toArray, bin_eql, bin_neq, bin_lss, bin_leq, bin_gtr, bin_geq, bin_add, bin_sub, bin_mul, un_not, unA, AHeap.get_bump, AHeap.next_bump, opK0, kMove, kPick, kAlloc, kBox, kBuild, kBuildSlice, kLoad, kStore, kNilCheck, kBinOp, kUnOp, kFieldAddr, kField, kIndexAddr, kIndex, kLookup, kMapUpdate, kMakeMap, kExtract, kSlice, kCall, lenA, evA, evAs, evParts, toAV, toAV0, toAVs, T.get_set, T.get_nil, Nat.reduceAdd, Nat.reduceMul, Nat.reduceEqDiff, Nat.zero_add, Nat.add_zero, Nat.mul_one, Nat.zero_mul, AV.cells, List.all_cons, List.all_nil, AV.scalar, Bool.and_true, Bool.true_and, ↓reduceIte, if_true, und_all, AHeap.get_alloc, AHeap.get_set, AHeap.next_alloc, AHeap.next_set, AHeap.loadCells, AHeap.load1, AHeap.storeCells, List.getElem?_cons_zero, List.getElem?_cons_succ, List.length_cons, List.length_nil, List.drop_zero, List.take_succ_cons, List.take_zero, List.drop_succ_cons, List.drop_nil, List.take_nil, List.append_nil, List.cons_append, List.nil_append, binA, isConstO, keyOk, ents_some, Bool.or_true, Bool.or_false, Bool.true_or, Bool.false_or, wantedA, dstOk, Option.bind_some, List.append_nil, Tryz.underlying2, Tryz.underlying3, Tryz.underlying4, Tryz.underlying9, Tryz.underlying24, Tryz.underlying26, Tryz.underlying30, Tryz.underlying35, Tryz.underlying42, Tryz.underlying44, Tryz.underlying45, Tryz.underlying47, Tryz.underlying51, Tryz.underlying63, Tryz.underlying64, Tryz.underlying66, Tryz.underlying67, Tryz.underlying69, Tryz.underlying71, Tryz.underlying79, Tryz.underlying88, Tryz.underlying90, Tryz.underlying131, Tryz.underlying132, Tryz.underlying134, Tryz.underlying135, Tryz.underlying137, Tryz.underlying177, Tryz.underlying178, Tryz.underlying180, Tryz.underlying207, Tryz.underlying209, agg131, agg132, agg134, agg135, agg137, agg177, agg178, agg180, agg2, agg207, agg209, agg24, agg26, agg3, agg30, agg35, agg4, agg42, agg44, agg45, agg47, agg51, agg63, agg64, agg66, agg67, agg69, agg71, agg79, agg88, agg9, agg90, byt131, byt132, byt134, byt135, byt137, byt177, byt178, byt180, byt2, byt207, byt209, byt24, byt26, byt3, byt30, byt35, byt4, byt42, byt44, byt45, byt47, byt51, byt63, byt64, byt66, byt67, byt69, byt71, byt79, byt88, byt9, byt90, siz131, siz132, siz134, siz135, siz137, siz177, siz178, siz180, siz2, siz207, siz209, siz24, siz26, siz3, siz30, siz35, siz4, siz42, siz44, siz45, siz47, siz51, siz63, siz64, siz66, siz67, siz69, siz71, siz79, siz88, siz9, siz90, zer131, zer132, zer134, zer135, zer137, zer177, zer178, zer180, zer2, zer207, zer209, zer24, zer26, zer3, zer30, zer35, zer4, zer42, zer44, zer45, zer47, zer51, zer63, zer64, zer66, zer67, zer69, zer71, zer79, zer88, zer9, zer90, decide_true, decide_false, beq_self_eq_true, bne_self_eq_false, Bool.not_true, Bool.not_false, Bool.false_eq_true, if_false, List.zipIdx_cons, reid, toAV, Int.toNat_natCast, kPanic, kMakeInterface, s1, fn61] <;> rfl)

  refine (evalCast_w d hl Y HY (by omega) (by omega) (by omega) (by omega) h5 fun h' H' F' => hQ h' H' (fY.trans F')).mono fun out h2 hq => ?_
  obtain ⟨v, rfl, hq⟩ := hq
  dsimp only
  repeat (first
    | ((first | ((with_reducible apply wpOps_valT); exact rfl; exact rfl) | ((with_reducible apply wpOps_storeN); exact rfl; exact rfl) | ((with_reducible apply dw_pureT); exact rfl; exact rfl; exact rfl) | ((with_reducible apply dw_readT); exact rfl; exact rfl; exact rfl)); (simp only [List.getElem?_toArray, List.toList_toArray, bin_eql, bin_neq, bin_lss, bin_leq, bin_gtr, bin_geq, bin_add, bin_sub, bin_mul, un_not, unA, AHeap.get_bump, AHeap.next_bump, opK0, kMove, kPick, kAlloc, kBox, kBuild, kBuildSlice, kLoad, kStore, kNilCheck, kBinOp, kUnOp, kFieldAddr, kField, kIndexAddr, kIndex, kLookup, kMapUpdate, kMakeMap, kExtract, kSlice, kCall, lenA, evA, evAs, evParts, toAV, toAV0, toAVs, T.get_set, T.get_nil, Nat.reduceAdd, Nat.reduceMul, Nat.reduceEqDiff, Nat.zero_add, Nat.add_zero, Nat.mul_one, Nat.zero_mul, AV.cells, List.all_cons, List.all_nil, AV.scalar, Bool.and_true, Bool.true_and, ↓reduceIte, if_true, und_all, AHeap.get_alloc, AHeap.get_set, AHeap.next_alloc, AHeap.next_set, AHeap.loadCells, AHeap.load1, AHeap.storeCells, List.getElem?_cons_zero, List.getElem?_cons_succ, List.length_cons, List.length_nil, List.drop_zero, List.take_succ_cons, List.take_zero, List.drop_succ_cons, List.drop_nil, List.take_nil, List.append_nil, List.cons_append, List.nil_append, binA, isConstO, keyOk, ents_some, Bool.or_true, Bool.or_false, Bool.true_or, Bool.false_or, wantedA, dstOk, Option.bind_some, List.append_nil, Tryz.underlying2, Tryz.underlying3, Tryz.underlying4, Tryz.underlying9, Tryz.underlying24, Tryz.underlying26, Tryz.underlying30, Tryz.underlying35, Tryz.underlying42, Tryz.underlying44, Tryz.underlying45, Tryz.underlying47, Tryz.underlying51, Tryz.underlying63, Tryz.underlying64, Tryz.underlying66, Tryz.underlying67, Tryz.underlying69, Tryz.underlying71, Tryz.underlying79, Tryz.underlying88, Tryz.underlying90, Tryz.underlying131, Tryz.underlying132, Tryz.underlying134, Tryz.underlying135, Tryz.underlying137, Tryz.underlying177, Tryz.underlying178, Tryz.underlying180, Tryz.underlying207, Tryz.underlying209, agg131, agg132, agg134, agg135, agg137, agg177, agg178, agg180, agg2, agg207, agg209, agg24, agg26, agg3, agg30, agg35, agg4, agg42, agg44, agg45, agg47, agg51, agg63, agg64, agg66, agg67, agg69, agg71, agg79, agg88, agg9, agg90, byt131, byt132, byt134, byt135, byt137, byt177, byt178, byt180, byt2, byt207, byt209, byt24, byt26, byt3, byt30, byt35, byt4, byt42, byt44, byt45, byt47, byt51, byt63, byt64, byt66, byt67, byt69, byt71, byt79, byt88, byt9, byt90, siz131, siz132, siz134, siz135, siz137, siz177, siz178, siz180, siz2, siz207, siz209, siz24, siz26, siz3, siz30, siz35, siz4, siz42, siz44, siz45, siz47, siz51, siz63, siz64, siz66, siz67, siz69, siz71, siz79, siz88, siz9, siz90, zer131, zer132, zer134, zer135, zer137, zer177, zer178, zer180, zer2, zer207, zer209, zer24, zer26, zer3, zer30, zer35, zer4, zer42, zer44, zer45, zer47, zer51, zer63, zer64, zer66, zer67, zer69, zer71, zer79, zer88, zer9, zer90, decide_true, decide_false, beq_self_eq_true, bne_self_eq_false, Bool.not_true, Bool.not_false, Bool.false_eq_true, if_false, List.zipIdx_cons, reid, toAV, Int.toNat_natCast, kPanic, kMakeInterface] <;> rfl))
    | ((with_reducible apply wpOps_skipT); exact rfl; exact rfl)
    | ((with_reducible apply wpOps_skipN); exact rfl; exact rfl)
    | ((with_reducible apply dw_skipT); exact rfl; exact rfl)
    | (with_reducible apply aw_seq)
    | (with_reducible apply aw_regionL)
    | (with_reducible apply aw_block)
    | (with_reducible apply aw_scope)
    | (with_reducible apply aw_nil)
    | (with_reducible apply aw_then)
    | (with_reducible apply aw_thenR)
    | (with_reducible apply aw_thenE)
    | (with_reducible apply aw_thenP)
    | (with_reducible apply aw_blockP)
    | (with_reducible apply aw_blockR)
    | (with_reducible apply aw_blockN)
    | (with_reducible apply aw_blockE)
    | (with_reducible apply aw_ret)
    | (with_reducible apply aw_exit)
    | (with_reducible apply aw_skip)
    | ((with_reducible apply aw_condT); exact rfl)
    | ((with_reducible apply aw_condF); exact rfl)
    | ((with_reducible apply aw_drawL); (simp only [List.zipIdx_cons, List.zipIdx_nil, Nat.zero_add, Nat.reduceAdd] <;> rfl); kernel_rfl; kernel_rfl)
    | (with_reducible apply dw_nil)
    | fail)

  exact ⟨rfl, v, rfl, hq⟩
theorem stmtBlk_w (d : Ids) (hl : IdLt d) (h : AHeap) {lf sp cc : Int} {n q : Nat} {Qf : AV → AHeap → Prop} (H : Sx d lf sp n cc h) (h1 : 3 ≤ lf) (h2 : lf ≤ 100000) (h3 : 0 ≤ sp) (h4 : sp ≤ 80000) (h5 : n ≤ 90000)
    (hQ : ∀ h', Sx d (lf - 1 - 1 - 1) (sp + 1 + 1 + 1) (n + 1) cc h' → Fr d h h' → WCall env1 28 [.ptr (some (d.R, 0)), .ptr (some (d.F, 0)), .slice none 0] h' (PQ Qf)) :
    WCall env1 43 [.ptr (some (d.R, 0)), .ptr (some (q, 0)), .ptr (some (d.B, 0))] h (PQ Qf) := by
  refine WCall.body pr43 fn43 rfl (Nat.le_of_ble_eq_true rfl) ?_
  simp only [argsA]
  repeat (first
    | ((first | ((with_reducible apply wpOps_valT); exact rfl; exact rfl) | ((with_reducible apply wpOps_storeN); exact rfl; exact rfl) | ((with_reducible apply dw_pureT); exact rfl; exact rfl; exact rfl) | ((with_reducible apply dw_readT); exact rfl; exact rfl; exact rfl)); (simp only [List.getElem?_toArray, List.toList_toArray, bin_eql, bin_neq, bin_lss, bin_leq, bin_gtr, bin_geq, bin_add, bin_sub, bin_mul, un_not, unA, AHeap.get_bump, AHeap.next_bump, opK0, kMove, kPick, kAlloc, kBox, kBuild, kBuildSlice, kLoad, kStore, kNilCheck, kBinOp, kUnOp, kFieldAddr, kField, kIndexAddr, kIndex, kLookup, kMapUpdate, kMakeMap, kExtract, kSlice, kCall, lenA, evA, evAs, evParts, toAV, toAV0, toAVs, T.get_set, T.get_nil, Nat.reduceAdd, Nat.reduceMul, Nat.reduceEqDiff, Nat.zero_add, Nat.add_zero, Nat.mul_one, Nat.zero_mul, AV.cells, List.all_cons, List.all_nil, AV.scalar, Bool.and_true, Bool.true_and, ↓reduceIte, if_true, und_all, AHeap.get_alloc, AHeap.get_set, AHeap.next_alloc, AHeap.next_set, AHeap.loadCells, AHeap.load1, AHeap.storeCells, List.getElem?_cons_zero, List.getElem?_cons_succ, List.length_cons, List.length_nil, List.drop_zero, List.take_succ_cons, List.take_zero, List.drop_succ_cons, List.drop_nil, List.take_nil, List.append_nil, List.cons_append, List.nil_append, binA, isConstO, keyOk, ents_some, Bool.or_true, Bool.or_false, Bool.true_or, Bool.false_or, wantedA, dstOk, Option.bind_some, List.append_nil, Tryz.underlying2, Tryz.underlying3, Tryz.underlying4, Tryz.underlying9, Tryz.underlying24, Tryz.underlying26, Tryz.underlying30, Tryz.underlying35, Tryz.underlying42, Tryz.underlying44, Tryz.underlying45, Tryz.underlying47, Tryz.underlying51, Tryz.underlying63, Tryz.underlying64, Tryz.underlying66, Tryz.underlying67, Tryz.underlying69, Tryz.underlying71, Tryz.underlying79, Tryz.underlying88, Tryz.underlying90, Tryz.underlying131, Tryz.underlying132, Tryz.underlying134, Tryz.underlying135, Tryz.underlying137, Tryz.underlying177, Tryz.underlying178, Tryz.underlying180, Tryz.underlying207, Tryz.underlying209, agg131, agg132, agg134, agg135, agg137, agg177, agg178, agg180, agg2, agg207, agg209, agg24, agg26, agg3, agg30, agg35, agg4, agg42, agg44, agg45, agg47, agg51, agg63, agg64, agg66, agg67, agg69, agg71, agg79, agg88, agg9, agg90, byt131, byt132, byt134, byt135, byt137, byt177, byt178, byt180, byt2, byt207, byt209, byt24, byt26, byt3, byt30, byt35, byt4, byt42, byt44, byt45, byt47, byt51, byt63, byt64, byt66, byt67, byt69, byt71, byt79, byt88, byt9, byt90, siz131, siz132, siz134, siz135, siz137, siz177, siz178, siz180, siz2, siz207, siz209, siz24, siz26, siz3, siz30, siz35, siz4, siz42, siz44, siz45, siz47, siz51, siz63, siz64, siz66, siz67, siz69, siz71, siz79, siz88, siz9, siz90, zer131, zer132, zer134, zer135, zer137, zer177, zer178, zer180, zer2, zer207, zer209, zer24, zer26, zer3, zer30, zer35, zer4, zer42, zer44, zer45, zer47, zer51, zer63, zer64, zer66, zer67, zer69, zer71, zer79, zer88, zer9, zer90, decide_true, decide_false, beq_self_eq_true, bne_self_eq_false, Bool.not_true, Bool.not_false, Bool.false_eq_true, if_false, List.zipIdx_cons, reid, toAV, Int.toNat_natCast, kPanic, kMakeInterface, fn58] <;> rfl))
    | ((with_reducible apply wpOps_skipT); exact rfl; exact rfl)
    | ((with_reducible apply wpOps_skipN); exact rfl; exact rfl)
    | ((with_reducible apply dw_skipT); exact rfl; exact rfl)
    | (with_reducible apply aw_seq)
    | (with_reducible apply aw_regionL)
    | (with_reducible apply aw_block)
    | (with_reducible apply aw_scope)
    | (with_reducible apply aw_nil)
    | (with_reducible apply aw_then)
    | (with_reducible apply aw_thenR)
    | (with_reducible apply aw_thenE)
    | (with_reducible apply aw_thenP)
    | (with_reducible apply aw_blockP)
    | (with_reducible apply aw_blockR)
    | (with_reducible apply aw_blockN)
    | (with_reducible apply aw_blockE)
    | (with_reducible apply aw_ret)
    | (with_reducible apply aw_exit)
    | (with_reducible apply aw_skip)
    | ((with_reducible apply aw_condT); exact rfl)
    | ((with_reducible apply aw_condF); exact rfl)
    | ((with_reducible apply aw_drawL); (simp only [List.zipIdx_cons, List.zipIdx_nil, Nat.zero_add, Nat.reduceAdd] <;> rfl); kernel_rfl; kernel_rfl)
    | (with_reducible apply dw_nil)
    | fail)

  (with_reducible apply wpOps_callT); exact rfl; exact rfl; (simp only [List.getElem?_toArray, List.toList_toArray, bin_eql, bin_neq, bin_lss, bin_leq, bin_gtr, bin_geq, bin_add, bin_sub, bin_mul, un_not, unA, AHeap.get_bump, AHeap.next_bump, opK0, kMove, kPick, kAlloc, kBox, kBuild, kBuildSlice, kLoad, kStore, kNilCheck, kBinOp, kUnOp, kFieldAddr, kField, kIndexAddr, kIndex, kLookup, kMapUpdate, kMakeMap, kExtract, kSlice, kCall, lenA, evA, evAs, evParts, toAV, toAV0, toAVs, T.get_set, T.get_nil, Nat.reduceAdd, Nat.reduceMul, Nat.reduceEqDiff, Nat.zero_add, Nat.add_zero, Nat.mul_one, Nat.zero_mul, AV.cells, List.all_cons, List.all_nil, AV.scalar, Bool.and_true, Bool.true_and, ↓reduceIte, if_true, und_all, AHeap.get_alloc, AHeap.get_set, AHeap.next_alloc, AHeap.next_set, AHeap.loadCells, AHeap.load1, AHeap.storeCells, List.getElem?_cons_zero, List.getElem?_cons_succ, List.length_cons, List.length_nil, List.drop_zero, List.take_succ_cons, List.take_zero, List.drop_succ_cons, List.drop_nil, List.take_nil, List.append_nil, List.cons_append, List.nil_append, binA, isConstO, keyOk, ents_some, Bool.or_true, Bool.or_false, Bool.true_or, Bool.false_or, wantedA, dstOk, Option.bind_some, List.append_nil, Tryz.underlying2, Tryz.underlying3, Tryz.underlying4, Tryz.underlying9, Tryz.underlying24, Tryz.underlying26, Tryz.underlying30, Tryz.underlying35, Tryz.underlying42, Tryz.underlying44, Tryz.underlying45, Tryz.underlying47, Tryz.underlying51, Tryz.underlying63, Tryz.underlying64, Tryz.underlying66, Tryz.underlying67, Tryz.underlying69, Tryz.underlying71, Tryz.underlying79, Tryz.underlying88, Tryz.underlying90, Tryz.underlying131, Tryz.underlying132, Tryz.underlying134, Tryz.underlying135, Tryz.underlying137, Tryz.underlying177, Tryz.underlying178, Tryz.underlying180, Tryz.underlying207, Tryz.underlying209, agg131, agg132, agg134, agg135, agg137, agg177, agg178, agg180, agg2, agg207, agg209, agg24, agg26, agg3, agg30, agg35, agg4, agg42, agg44, agg45, agg47, agg51, agg63, agg64, agg66, agg67, agg69, agg71, agg79, agg88, agg9, agg90, byt131, byt132, byt134, byt135, byt137, byt177, byt178, byt180, byt2, byt207, byt209, byt24, byt26, byt3, byt30, byt35, byt4, byt42, byt44, byt45, byt47, byt51, byt63, byt64, byt66, byt67, byt69, byt71, byt79, byt88, byt9, byt90, siz131, siz132, siz134, siz135, siz137, siz177, siz178, siz180, siz2, siz207, siz209, siz24, siz26, siz3, siz30, siz35, siz4, siz42, siz44, siz45, siz47, siz51, siz63, siz64, siz66, siz67, siz69, siz71, siz79, siz88, siz9, siz90, zer131, zer132, zer134, zer135, zer137, zer177, zer178, zer180, zer2, zer207, zer209, zer24, zer26, zer3, zer30, zer35, zer4, zer42, zer44, zer45, zer47, zer51, zer63, zer64, zer66, zer67, zer69, zer71, zer79, zer88, zer9, zer90, decide_true, decide_false, beq_self_eq_true, bne_self_eq_false, Bool.not_true, Bool.not_false, Bool.false_eq_true, if_false, List.zipIdx_cons, reid, toAV, Int.toNat_natCast, kPanic, kMakeInterface, fn58] <;> rfl)

  refine (step_s d hl h H (by omega) (by omega) h3 (by omega)).mono fun out Y hq => ?_
  obtain ⟨rfl, HY, fY⟩ := hq
  dsimp only
  have s1 := HY.ast.b
  have s2 := HY.ast.l
  repeat (first
    | ((first | ((with_reducible apply wpOps_valT); exact rfl; exact rfl) | ((with_reducible apply wpOps_storeN); exact rfl; exact rfl) | ((with_reducible apply dw_pureT); exact rfl; exact rfl; exact rfl) | ((with_reducible apply dw_readT); exact rfl; exact rfl; exact rfl)); (simp only [List.getElem?_toArray, List.toList_toArray, bin_eql, bin_neq, bin_lss, bin_leq, bin_gtr, bin_geq, bin_add, bin_sub, bin_mul, un_not, unA, AHeap.get_bump, AHeap.next_bump, opK0, kMove, kPick, kAlloc, kBox, kBuild, kBuildSlice, kLoad, kStore, kNilCheck, kBinOp, kUnOp, kFieldAddr, kField, kIndexAddr, kIndex, kLookup, kMapUpdate, kMakeMap, kExtract, kSlice, kCall, lenA, evA, evAs, evParts, toAV, toAV0, toAVs, T.get_set, T.get_nil, Nat.reduceAdd, Nat.reduceMul, Nat.reduceEqDiff, Nat.zero_add, Nat.add_zero, Nat.mul_one, Nat.zero_mul, AV.cells, List.all_cons, List.all_nil, AV.scalar, Bool.and_true, Bool.true_and, ↓reduceIte, if_true, und_all, AHeap.get_alloc, AHeap.get_set, AHeap.next_alloc, AHeap.next_set, AHeap.loadCells, AHeap.load1, AHeap.storeCells, List.getElem?_cons_zero, List.getElem?_cons_succ, List.length_cons, List.length_nil, List.drop_zero, List.take_succ_cons, List.take_zero, List.drop_succ_cons, List.drop_nil, List.take_nil, List.append_nil, List.cons_append, List.nil_append, binA, isConstO, keyOk, ents_some, Bool.or_true, Bool.or_false, Bool.true_or, Bool.false_or, wantedA, dstOk, Option.bind_some, List.append_nil, Tryz.underlying2, Tryz.underlying3, Tryz.underlying4, Tryz.underlying9, Tryz.underlying24, Tryz.underlying26, Tryz.underlying30, Tryz.underlying35, Tryz.underlying42, Tryz.underlying44, Tryz.underlying45, Tryz.underlying47, Tryz.underlying51, Tryz.underlying63, Tryz.underlying64, Tryz.underlying66, Tryz.underlying67, Tryz.underlying69, Tryz.underlying71, Tryz.underlying79, Tryz.underlying88, Tryz.underlying90, Tryz.underlying131, Tryz.underlying132, Tryz.underlying134, Tryz.underlying135, Tryz.underlying137, Tryz.underlying177, Tryz.underlying178, Tryz.underlying180, Tryz.underlying207, Tryz.underlying209, agg131, agg132, agg134, agg135, agg137, agg177, agg178, agg180, agg2, agg207, agg209, agg24, agg26, agg3, agg30, agg35, agg4, agg42, agg44, agg45, agg47, agg51, agg63, agg64, agg66, agg67, agg69, agg71, agg79, agg88, agg9, agg90, byt131, byt132, byt134, byt135, byt137, byt177, byt178, byt180, byt2, byt207, byt209, byt24, byt26, byt3, byt30, byt35, byt4, byt42, byt44, byt45, byt47, byt51, byt63, byt64, byt66, byt67, byt69, byt71, byt79, byt88, byt9, byt90, siz131, siz132, siz134, siz135, siz137, siz177, siz178, siz180, siz2, siz207, siz209, siz24, siz26, siz3, siz30, siz35, siz4, siz42, siz44, siz45, siz47, siz51, siz63, siz64, siz66, siz67, siz69, siz71, siz79, siz88, siz9, siz90, zer131, zer132, zer134, zer135, zer137, zer177, zer178, zer180, zer2, zer207, zer209, zer24, zer26, zer3, zer30, zer35, zer4, zer42, zer44, zer45, zer47, zer51, zer63, zer64, zer66, zer67, zer69, zer71, zer79, zer88, zer9, zer90, decide_true, decide_false, beq_self_eq_true, bne_self_eq_false, Bool.not_true, Bool.not_false, Bool.false_eq_true, if_false, List.zipIdx_cons, reid, toAV, Int.toNat_natCast, kPanic, kMakeInterface, s1, s2, fn43, Int.reduceLT, Int.natCast_one] <;> rfl))
    | ((with_reducible apply wpOps_skipT); exact rfl; exact rfl)
    | ((with_reducible apply wpOps_skipN); exact rfl; exact rfl)
    | ((with_reducible apply dw_skipT); exact rfl; exact rfl)
    | (with_reducible apply aw_seq)
    | (with_reducible apply aw_regionL)
    | (with_reducible apply aw_block)
    | (with_reducible apply aw_scope)
    | (with_reducible apply aw_nil)
    | (with_reducible apply aw_then)
    | (with_reducible apply aw_thenR)
    | (with_reducible apply aw_thenE)
    | (with_reducible apply aw_thenP)
    | (with_reducible apply aw_blockP)
    | (with_reducible apply aw_blockR)
    | (with_reducible apply aw_blockN)
    | (with_reducible apply aw_blockE)
    | (with_reducible apply aw_ret)
    | (with_reducible apply aw_exit)
    | (with_reducible apply aw_skip)
    | ((with_reducible apply aw_condT); exact rfl)
    | ((with_reducible apply aw_condF); exact rfl)
    | ((with_reducible apply aw_drawL); (simp only [List.zipIdx_cons, List.zipIdx_nil, Nat.zero_add, Nat.reduceAdd] <;> rfl); kernel_rfl; kernel_rfl)
    | (with_reducible apply dw_nil)
    | (with_reducible apply aw_loop0)
    | fail)

  (with_reducible apply wpOps_callT); exact rfl; exact rfl; (simp only [List.getElem?_toArray, List.toList_toArray, bin_eql, bin_neq, bin_lss, bin_leq, bin_gtr, bin_geq, bin_add, bin_sub, bin_mul, un_not, unA, AHeap.get_bump, AHeap.next_bump, opK0, kMove, kPick, kAlloc, kBox, kBuild, kBuildSlice, kLoad, kStore, kNilCheck, kBinOp, kUnOp, kFieldAddr, kField, kIndexAddr, kIndex, kLookup, kMapUpdate, kMakeMap, kExtract, kSlice, kCall, lenA, evA, evAs, evParts, toAV, toAV0, toAVs, T.get_set, T.get_nil, Nat.reduceAdd, Nat.reduceMul, Nat.reduceEqDiff, Nat.zero_add, Nat.add_zero, Nat.mul_one, Nat.zero_mul, AV.cells, List.all_cons, List.all_nil, AV.scalar, Bool.and_true, Bool.true_and, ↓reduceIte, if_true, und_all, AHeap.get_alloc, AHeap.get_set, AHeap.next_alloc, AHeap.next_set, AHeap.loadCells, AHeap.load1, AHeap.storeCells, List.getElem?_cons_zero, List.getElem?_cons_succ, List.length_cons, List.length_nil, List.drop_zero, List.take_succ_cons, List.take_zero, List.drop_succ_cons, List.drop_nil, List.take_nil, List.append_nil, List.cons_append, List.nil_append, binA, isConstO, keyOk, ents_some, Bool.or_true, Bool.or_false, Bool.true_or, Bool.false_or, wantedA, dstOk, Option.bind_some, List.append_nil, Tryz.underlying2, Tryz.underlying3, Tryz.underlying4, Tryz.underlying9, Tryz.underlying24, Tryz.underlying26, Tryz.underlying30, Tryz.underlying35, Tryz.underlying42, Tryz.underlying44, Tryz.underlying45, Tryz.underlying47, Tryz.underlying51, Tryz.underlying63, Tryz.underlying64, Tryz.underlying66, Tryz.underlying67, Tryz.underlying69, Tryz.underlying71, Tryz.underlying79, Tryz.underlying88, Tryz.underlying90, Tryz.underlying131, Tryz.underlying132, Tryz.underlying134, Tryz.underlying135, Tryz.underlying137, Tryz.underlying177, Tryz.underlying178, Tryz.underlying180, Tryz.underlying207, Tryz.underlying209, agg131, agg132, agg134, agg135, agg137, agg177, agg178, agg180, agg2, agg207, agg209, agg24, agg26, agg3, agg30, agg35, agg4, agg42, agg44, agg45, agg47, agg51, agg63, agg64, agg66, agg67, agg69, agg71, agg79, agg88, agg9, agg90, byt131, byt132, byt134, byt135, byt137, byt177, byt178, byt180, byt2, byt207, byt209, byt24, byt26, byt3, byt30, byt35, byt4, byt42, byt44, byt45, byt47, byt51, byt63, byt64, byt66, byt67, byt69, byt71, byt79, byt88, byt9, byt90, siz131, siz132, siz134, siz135, siz137, siz177, siz178, siz180, siz2, siz207, siz209, siz24, siz26, siz3, siz30, siz35, siz4, siz42, siz44, siz45, siz47, siz51, siz63, siz64, siz66, siz67, siz69, siz71, siz79, siz88, siz9, siz90, zer131, zer132, zer134, zer135, zer137, zer177, zer178, zer180, zer2, zer207, zer209, zer24, zer26, zer3, zer30, zer35, zer4, zer42, zer44, zer45, zer47, zer51, zer63, zer64, zer66, zer67, zer69, zer71, zer79, zer88, zer9, zer90, decide_true, decide_false, beq_self_eq_true, bne_self_eq_false, Bool.not_true, Bool.not_false, Bool.false_eq_true, if_false, List.zipIdx_cons, reid, toAV, Int.toNat_natCast, kPanic, kMakeInterface, s1, s2, fn43] <;> rfl)

  refine (stmtRet_w d hl Y HY (by omega) (by omega) (by omega) (by omega) h5 fun h' H' F' => hQ h' H' (fY.trans F')).mono fun out h2 hq => ?_
  obtain ⟨v, rfl, hq⟩ := hq
  dsimp only
  repeat (first
    | ((first | ((with_reducible apply wpOps_valT); exact rfl; exact rfl) | ((with_reducible apply wpOps_storeN); exact rfl; exact rfl) | ((with_reducible apply dw_pureT); exact rfl; exact rfl; exact rfl) | ((with_reducible apply dw_readT); exact rfl; exact rfl; exact rfl)); (simp only [List.getElem?_toArray, List.toList_toArray, bin_eql, bin_neq, bin_lss, bin_leq, bin_gtr, bin_geq, bin_add, bin_sub, bin_mul, un_not, unA, AHeap.get_bump, AHeap.next_bump, opK0, kMove, kPick, kAlloc, kBox, kBuild, kBuildSlice, kLoad, kStore, kNilCheck, kBinOp, kUnOp, kFieldAddr, kField, kIndexAddr, kIndex, kLookup, kMapUpdate, kMakeMap, kExtract, kSlice, kCall, lenA, evA, evAs, evParts, toAV, toAV0, toAVs, T.get_set, T.get_nil, Nat.reduceAdd, Nat.reduceMul, Nat.reduceEqDiff, Nat.zero_add, Nat.add_zero, Nat.mul_one, Nat.zero_mul, AV.cells, List.all_cons, List.all_nil, AV.scalar, Bool.and_true, Bool.true_and, ↓reduceIte, if_true, und_all, AHeap.get_alloc, AHeap.get_set, AHeap.next_alloc, AHeap.next_set, AHeap.loadCells, AHeap.load1, AHeap.storeCells, List.getElem?_cons_zero, List.getElem?_cons_succ, List.length_cons, List.length_nil, List.drop_zero, List.take_succ_cons, List.take_zero, List.drop_succ_cons, List.drop_nil, List.take_nil, List.append_nil, List.cons_append, List.nil_append, binA, isConstO, keyOk, ents_some, Bool.or_true, Bool.or_false, Bool.true_or, Bool.false_or, wantedA, dstOk, Option.bind_some, List.append_nil, Tryz.underlying2, Tryz.underlying3, Tryz.underlying4, Tryz.underlying9, Tryz.underlying24, Tryz.underlying26, Tryz.underlying30, Tryz.underlying35, Tryz.underlying42, Tryz.underlying44, Tryz.underlying45, Tryz.underlying47, Tryz.underlying51, Tryz.underlying63, Tryz.underlying64, Tryz.underlying66, Tryz.underlying67, Tryz.underlying69, Tryz.underlying71, Tryz.underlying79, Tryz.underlying88, Tryz.underlying90, Tryz.underlying131, Tryz.underlying132, Tryz.underlying134, Tryz.underlying135, Tryz.underlying137, Tryz.underlying177, Tryz.underlying178, Tryz.underlying180, Tryz.underlying207, Tryz.underlying209, agg131, agg132, agg134, agg135, agg137, agg177, agg178, agg180, agg2, agg207, agg209, agg24, agg26, agg3, agg30, agg35, agg4, agg42, agg44, agg45, agg47, agg51, agg63, agg64, agg66, agg67, agg69, agg71, agg79, agg88, agg9, agg90, byt131, byt132, byt134, byt135, byt137, byt177, byt178, byt180, byt2, byt207, byt209, byt24, byt26, byt3, byt30, byt35, byt4, byt42, byt44, byt45, byt47, byt51, byt63, byt64, byt66, byt67, byt69, byt71, byt79, byt88, byt9, byt90, siz131, siz132, siz134, siz135, siz137, siz177, siz178, siz180, siz2, siz207, siz209, siz24, siz26, siz3, siz30, siz35, siz4, siz42, siz44, siz45, siz47, siz51, siz63, siz64, siz66, siz67, siz69, siz71, siz79, siz88, siz9, siz90, zer131, zer132, zer134, zer135, zer137, zer177, zer178, zer180, zer2, zer207, zer209, zer24, zer26, zer3, zer30, zer35, zer4, zer42, zer44, zer45, zer47, zer51, zer63, zer64, zer66, zer67, zer69, zer71, zer79, zer88, zer9, zer90, decide_true, decide_false, beq_self_eq_true, bne_self_eq_false, Bool.not_true, Bool.not_false, Bool.false_eq_true, if_false, List.zipIdx_cons, reid, toAV, Int.toNat_natCast, kPanic, kMakeInterface] <;> rfl))
    | ((with_reducible apply wpOps_skipT); exact rfl; exact rfl)
    | ((with_reducible apply wpOps_skipN); exact rfl; exact rfl)
    | ((with_reducible apply dw_skipT); exact rfl; exact rfl)
    | (with_reducible apply aw_seq)
    | (with_reducible apply aw_regionL)
    | (with_reducible apply aw_block)
    | (with_reducible apply aw_scope)
    | (with_reducible apply aw_nil)
    | (with_reducible apply aw_then)
    | (with_reducible apply aw_thenR)
    | (with_reducible apply aw_thenE)
    | (with_reducible apply aw_thenP)
    | (with_reducible apply aw_blockP)
    | (with_reducible apply aw_blockR)
    | (with_reducible apply aw_blockN)
    | (with_reducible apply aw_blockE)
    | (with_reducible apply aw_ret)
    | (with_reducible apply aw_exit)
    | (with_reducible apply aw_skip)
    | ((with_reducible apply aw_condT); exact rfl)
    | ((with_reducible apply aw_condF); exact rfl)
    | ((with_reducible apply aw_drawL); (simp only [List.zipIdx_cons, List.zipIdx_nil, Nat.zero_add, Nat.reduceAdd] <;> rfl); kernel_rfl; kernel_rfl)
    | (with_reducible apply dw_nil)
    | fail)

  exact ⟨rfl, v, rfl, hq⟩

theorem enter_w (d : Ids) (hl : IdLt d) : ∀ (k : Nat) (h : AHeap) (lf sp : Int) (n : Nat) (cc : Int), Sx d lf sp n cc h → cc = 1000 - (k : Int) → 0 ≤ cc → 3 * (k : Int) ≤ lf → lf ≤ 100000 → 0 ≤ sp → sp + 3 * (k : Int) ≤ 80000 → n + k ≤ 90000 →
    WCall env1 28 [.ptr (some (d.R, 0)), .ptr (some (d.F, 0)), .slice none 0] h (PQ fun v h2 => v = stuckV ∧ Sx d (lf - 3 * (k : Int)) (sp + 3 * (k : Int)) (n + k) 1000 h2 ∧ Fr d h h2)
  | 0, h, lf, sp, n, cc, H, hc, hc0, b1, b2, b3, b4, b5 => by
    have g1 : (cc < 1000) = False := eq_false (by omega)
    have hlr := hl.r
    have hnb := H.nb
    obtain ⟨j, hR, _⟩ := H.r
    unfold rc at hR
    have q1 : (d.R = h.next) = False := eq_false (by omega)
    refine WCall.body pr28 fn28 rfl (Nat.le_of_ble_eq_true rfl) ?_
    simp only [argsA]
    repeat (first
      | ((first | ((with_reducible apply wpOps_valT); exact rfl; exact rfl) | ((with_reducible apply wpOps_storeN); exact rfl; exact rfl) | ((with_reducible apply dw_pureT); exact rfl; exact rfl; exact rfl) | ((with_reducible apply dw_readT); exact rfl; exact rfl; exact rfl)); (simp only [List.getElem?_toArray, List.toList_toArray, bin_eql, bin_neq, bin_lss, bin_leq, bin_gtr, bin_geq, bin_add, bin_sub, bin_mul, un_not, unA, AHeap.get_bump, AHeap.next_bump, opK0, kMove, kPick, kAlloc, kBox, kBuild, kBuildSlice, kLoad, kStore, kNilCheck, kBinOp, kUnOp, kFieldAddr, kField, kIndexAddr, kIndex, kLookup, kMapUpdate, kMakeMap, kExtract, kSlice, kCall, lenA, evA, evAs, evParts, toAV, toAV0, toAVs, T.get_set, T.get_nil, Nat.reduceAdd, Nat.reduceMul, Nat.reduceEqDiff, Nat.zero_add, Nat.add_zero, Nat.mul_one, Nat.zero_mul, AV.cells, List.all_cons, List.all_nil, AV.scalar, Bool.and_true, Bool.true_and, ↓reduceIte, if_true, und_all, AHeap.get_alloc, AHeap.get_set, AHeap.next_alloc, AHeap.next_set, AHeap.loadCells, AHeap.load1, AHeap.storeCells, List.getElem?_cons_zero, List.getElem?_cons_succ, List.length_cons, List.length_nil, List.drop_zero, List.take_succ_cons, List.take_zero, List.drop_succ_cons, List.drop_nil, List.take_nil, List.append_nil, List.cons_append, List.nil_append, binA, isConstO, keyOk, ents_some, Bool.or_true, Bool.or_false, Bool.true_or, Bool.false_or, wantedA, dstOk, Option.bind_some, List.append_nil, Tryz.underlying2, Tryz.underlying3, Tryz.underlying4, Tryz.underlying9, Tryz.underlying24, Tryz.underlying26, Tryz.underlying30, Tryz.underlying35, Tryz.underlying42, Tryz.underlying44, Tryz.underlying45, Tryz.underlying47, Tryz.underlying51, Tryz.underlying63, Tryz.underlying64, Tryz.underlying66, Tryz.underlying67, Tryz.underlying69, Tryz.underlying71, Tryz.underlying79, Tryz.underlying88, Tryz.underlying90, Tryz.underlying131, Tryz.underlying132, Tryz.underlying134, Tryz.underlying135, Tryz.underlying137, Tryz.underlying177, Tryz.underlying178, Tryz.underlying180, Tryz.underlying207, Tryz.underlying209, agg131, agg132, agg134, agg135, agg137, agg177, agg178, agg180, agg2, agg207, agg209, agg24, agg26, agg3, agg30, agg35, agg4, agg42, agg44, agg45, agg47, agg51, agg63, agg64, agg66, agg67, agg69, agg71, agg79, agg88, agg9, agg90, byt131, byt132, byt134, byt135, byt137, byt177, byt178, byt180, byt2, byt207, byt209, byt24, byt26, byt3, byt30, byt35, byt4, byt42, byt44, byt45, byt47, byt51, byt63, byt64, byt66, byt67, byt69, byt71, byt79, byt88, byt9, byt90, siz131, siz132, siz134, siz135, siz137, siz177, siz178, siz180, siz2, siz207, siz209, siz24, siz26, siz3, siz30, siz35, siz4, siz42, siz44, siz45, siz47, siz51, siz63, siz64, siz66, siz67, siz69, siz71, siz79, siz88, siz9, siz90, zer131, zer132, zer134, zer135, zer137, zer177, zer178, zer180, zer2, zer207, zer209, zer24, zer26, zer3, zer30, zer35, zer4, zer42, zer44, zer45, zer47, zer51, zer63, zer64, zer66, zer67, zer69, zer71, zer79, zer88, zer9, zer90, decide_true, decide_false, beq_self_eq_true, bne_self_eq_false, Bool.not_true, Bool.not_false, Bool.false_eq_true, if_false, List.zipIdx_cons, reid, toAV, Int.toNat_natCast, kPanic, kMakeInterface, hR, q1, g1, fn22] <;> rfl))
      | ((with_reducible apply wpOps_skipT); exact rfl; exact rfl)
      | ((with_reducible apply wpOps_skipN); exact rfl; exact rfl)
      | ((with_reducible apply dw_skipT); exact rfl; exact rfl)
      | (with_reducible apply aw_seq)
      | (with_reducible apply aw_regionL)
      | (with_reducible apply aw_block)
      | (with_reducible apply aw_scope)
      | (with_reducible apply aw_nil)
      | (with_reducible apply aw_then)
      | (with_reducible apply aw_thenR)
      | (with_reducible apply aw_thenE)
      | (with_reducible apply aw_thenP)
      | (with_reducible apply aw_blockP)
      | (with_reducible apply aw_blockR)
      | (with_reducible apply aw_blockN)
      | (with_reducible apply aw_blockE)
      | (with_reducible apply aw_ret)
      | (with_reducible apply aw_exit)
      | (with_reducible apply aw_skip)
      | ((with_reducible apply aw_condT); exact rfl)
      | ((with_reducible apply aw_condF); exact rfl)
      | ((with_reducible apply aw_drawL); (simp only [List.zipIdx_cons, List.zipIdx_nil, Nat.zero_add, Nat.reduceAdd] <;> rfl); kernel_rfl; kernel_rfl)
      | (with_reducible apply dw_nil)
      | fail)

    (with_reducible apply wpOps_callT); exact rfl; exact rfl; (simp only [List.getElem?_toArray, List.toList_toArray, bin_eql, bin_neq, bin_lss, bin_leq, bin_gtr, bin_geq, bin_add, bin_sub, bin_mul, un_not, unA, AHeap.get_bump, AHeap.next_bump, opK0, kMove, kPick, kAlloc, kBox, kBuild, kBuildSlice, kLoad, kStore, kNilCheck, kBinOp, kUnOp, kFieldAddr, kField, kIndexAddr, kIndex, kLookup, kMapUpdate, kMakeMap, kExtract, kSlice, kCall, lenA, evA, evAs, evParts, toAV, toAV0, toAVs, T.get_set, T.get_nil, Nat.reduceAdd, Nat.reduceMul, Nat.reduceEqDiff, Nat.zero_add, Nat.add_zero, Nat.mul_one, Nat.zero_mul, AV.cells, List.all_cons, List.all_nil, AV.scalar, Bool.and_true, Bool.true_and, ↓reduceIte, if_true, und_all, AHeap.get_alloc, AHeap.get_set, AHeap.next_alloc, AHeap.next_set, AHeap.loadCells, AHeap.load1, AHeap.storeCells, List.getElem?_cons_zero, List.getElem?_cons_succ, List.length_cons, List.length_nil, List.drop_zero, List.take_succ_cons, List.take_zero, List.drop_succ_cons, List.drop_nil, List.take_nil, List.append_nil, List.cons_append, List.nil_append, binA, isConstO, keyOk, ents_some, Bool.or_true, Bool.or_false, Bool.true_or, Bool.false_or, wantedA, dstOk, Option.bind_some, List.append_nil, Tryz.underlying2, Tryz.underlying3, Tryz.underlying4, Tryz.underlying9, Tryz.underlying24, Tryz.underlying26, Tryz.underlying30, Tryz.underlying35, Tryz.underlying42, Tryz.underlying44, Tryz.underlying45, Tryz.underlying47, Tryz.underlying51, Tryz.underlying63, Tryz.underlying64, Tryz.underlying66, Tryz.underlying67, Tryz.underlying69, Tryz.underlying71, Tryz.underlying79, Tryz.underlying88, Tryz.underlying90, Tryz.underlying131, Tryz.underlying132, Tryz.underlying134, Tryz.underlying135, Tryz.underlying137, Tryz.underlying177, Tryz.underlying178, Tryz.underlying180, Tryz.underlying207, Tryz.underlying209, agg131, agg132, agg134, agg135, agg137, agg177, agg178, agg180, agg2, agg207, agg209, agg24, agg26, agg3, agg30, agg35, agg4, agg42, agg44, agg45, agg47, agg51, agg63, agg64, agg66, agg67, agg69, agg71, agg79, agg88, agg9, agg90, byt131, byt132, byt134, byt135, byt137, byt177, byt178, byt180, byt2, byt207, byt209, byt24, byt26, byt3, byt30, byt35, byt4, byt42, byt44, byt45, byt47, byt51, byt63, byt64, byt66, byt67, byt69, byt71, byt79, byt88, byt9, byt90, siz131, siz132, siz134, siz135, siz137, siz177, siz178, siz180, siz2, siz207, siz209, siz24, siz26, siz3, siz30, siz35, siz4, siz42, siz44, siz45, siz47, siz51, siz63, siz64, siz66, siz67, siz69, siz71, siz79, siz88, siz9, siz90, zer131, zer132, zer134, zer135, zer137, zer177, zer178, zer180, zer2, zer207, zer209, zer24, zer26, zer3, zer30, zer35, zer4, zer42, zer44, zer45, zer47, zer51, zer63, zer64, zer66, zer67, zer69, zer71, zer79, zer88, zer9, zer90, decide_true, decide_false, beq_self_eq_true, bne_self_eq_false, Bool.not_true, Bool.not_false, Bool.false_eq_true, if_false, List.zipIdx_cons, reid, toAV, Int.toNat_natCast, kPanic, kMakeInterface, hR, q1, g1, fn22] <;> rfl)

    refine WCall_heap (fun X => Sx d lf sp n cc X ∧ Fr d h X) (H.more hl (fun i hi => by rw [AHeap.get_alloc, if_neg (by omega)]) (by rw [AHeap.next_alloc]; omega)) ?_
    rintro X ⟨HX, fX⟩
    refine (mustnot_w d.R X).mono fun out h2 hq => ?_
    obtain ⟨rfl, rfl⟩ := hq
    dsimp only
    repeat (first
      | ((first | ((with_reducible apply wpOps_valT); exact rfl; exact rfl) | ((with_reducible apply wpOps_storeN); exact rfl; exact rfl) | ((with_reducible apply dw_pureT); exact rfl; exact rfl; exact rfl) | ((with_reducible apply dw_readT); exact rfl; exact rfl; exact rfl)); (simp only [List.getElem?_toArray, List.toList_toArray, bin_eql, bin_neq, bin_lss, bin_leq, bin_gtr, bin_geq, bin_add, bin_sub, bin_mul, un_not, unA, AHeap.get_bump, AHeap.next_bump, opK0, kMove, kPick, kAlloc, kBox, kBuild, kBuildSlice, kLoad, kStore, kNilCheck, kBinOp, kUnOp, kFieldAddr, kField, kIndexAddr, kIndex, kLookup, kMapUpdate, kMakeMap, kExtract, kSlice, kCall, lenA, evA, evAs, evParts, toAV, toAV0, toAVs, T.get_set, T.get_nil, Nat.reduceAdd, Nat.reduceMul, Nat.reduceEqDiff, Nat.zero_add, Nat.add_zero, Nat.mul_one, Nat.zero_mul, AV.cells, List.all_cons, List.all_nil, AV.scalar, Bool.and_true, Bool.true_and, ↓reduceIte, if_true, und_all, AHeap.get_alloc, AHeap.get_set, AHeap.next_alloc, AHeap.next_set, AHeap.loadCells, AHeap.load1, AHeap.storeCells, List.getElem?_cons_zero, List.getElem?_cons_succ, List.length_cons, List.length_nil, List.drop_zero, List.take_succ_cons, List.take_zero, List.drop_succ_cons, List.drop_nil, List.take_nil, List.append_nil, List.cons_append, List.nil_append, binA, isConstO, keyOk, ents_some, Bool.or_true, Bool.or_false, Bool.true_or, Bool.false_or, wantedA, dstOk, Option.bind_some, List.append_nil, Tryz.underlying2, Tryz.underlying3, Tryz.underlying4, Tryz.underlying9, Tryz.underlying24, Tryz.underlying26, Tryz.underlying30, Tryz.underlying35, Tryz.underlying42, Tryz.underlying44, Tryz.underlying45, Tryz.underlying47, Tryz.underlying51, Tryz.underlying63, Tryz.underlying64, Tryz.underlying66, Tryz.underlying67, Tryz.underlying69, Tryz.underlying71, Tryz.underlying79, Tryz.underlying88, Tryz.underlying90, Tryz.underlying131, Tryz.underlying132, Tryz.underlying134, Tryz.underlying135, Tryz.underlying137, Tryz.underlying177, Tryz.underlying178, Tryz.underlying180, Tryz.underlying207, Tryz.underlying209, agg131, agg132, agg134, agg135, agg137, agg177, agg178, agg180, agg2, agg207, agg209, agg24, agg26, agg3, agg30, agg35, agg4, agg42, agg44, agg45, agg47, agg51, agg63, agg64, agg66, agg67, agg69, agg71, agg79, agg88, agg9, agg90, byt131, byt132, byt134, byt135, byt137, byt177, byt178, byt180, byt2, byt207, byt209, byt24, byt26, byt3, byt30, byt35, byt4, byt42, byt44, byt45, byt47, byt51, byt63, byt64, byt66, byt67, byt69, byt71, byt79, byt88, byt9, byt90, siz131, siz132, siz134, siz135, siz137, siz177, siz178, siz180, siz2, siz207, siz209, siz24, siz26, siz3, siz30, siz35, siz4, siz42, siz44, siz45, siz47, siz51, siz63, siz64, siz66, siz67, siz69, siz71, siz79, siz88, siz9, siz90, zer131, zer132, zer134, zer135, zer137, zer177, zer178, zer180, zer2, zer207, zer209, zer24, zer26, zer3, zer30, zer35, zer4, zer42, zer44, zer45, zer47, zer51, zer63, zer64, zer66, zer67, zer69, zer71, zer79, zer88, zer9, zer90, decide_true, decide_false, beq_self_eq_true, bne_self_eq_false, Bool.not_true, Bool.not_false, Bool.false_eq_true, if_false, List.zipIdx_cons, reid, toAV, Int.toNat_natCast, kPanic, kMakeInterface] <;> rfl))
      | ((with_reducible apply wpOps_skipT); exact rfl; exact rfl)
      | ((with_reducible apply wpOps_skipN); exact rfl; exact rfl)
      | ((with_reducible apply dw_skipT); exact rfl; exact rfl)
      | (with_reducible apply aw_seq)
      | (with_reducible apply aw_regionL)
      | (with_reducible apply aw_block)
      | (with_reducible apply aw_scope)
      | (with_reducible apply aw_nil)
      | (with_reducible apply aw_then)
      | (with_reducible apply aw_thenR)
      | (with_reducible apply aw_thenE)
      | (with_reducible apply aw_thenP)
      | (with_reducible apply aw_blockP)
      | (with_reducible apply aw_blockR)
      | (with_reducible apply aw_blockN)
      | (with_reducible apply aw_blockE)
      | (with_reducible apply aw_ret)
      | (with_reducible apply aw_exit)
      | (with_reducible apply aw_skip)
      | ((with_reducible apply aw_condT); exact rfl)
      | ((with_reducible apply aw_condF); exact rfl)
      | ((with_reducible apply aw_drawL); (simp only [List.zipIdx_cons, List.zipIdx_nil, Nat.zero_add, Nat.reduceAdd] <;> rfl); kernel_rfl; kernel_rfl)
      | (with_reducible apply dw_nil)
      | fail)

    refine ⟨rfl, stuckV, rfl, rfl, ?_, fX⟩
    have e1 : lf - 3 * ((0 : Nat) : Int) = lf := by omega
    have e2 : sp + 3 * ((0 : Nat) : Int) = sp := by omega
    have e3 : cc = 1000 := by omega
    rw [e1, e2]
    rw [e3] at HX
    exact HX
  | k + 1, h, lf, sp, n, cc, H, hc, hc0, b1, b2, b3, b4, b5 => by
    have g1 : (cc < 1000) = True := eq_true (by omega)
    have hlr := hl.r
    have hnb := H.nb
    obtain ⟨j, hR, _⟩ := H.r
    unfold rc at hR
    have q1 : (d.R = h.next) = False := eq_false (by omega)
    refine WCall.body pr28 fn28 rfl (Nat.le_of_ble_eq_true rfl) ?_
    simp only [argsA]
    repeat (first
      | ((first | ((with_reducible apply wpOps_valT); exact rfl; exact rfl) | ((with_reducible apply wpOps_storeN); exact rfl; exact rfl) | ((with_reducible apply dw_pureT); exact rfl; exact rfl; exact rfl) | ((with_reducible apply dw_readT); exact rfl; exact rfl; exact rfl)); (simp only [List.getElem?_toArray, List.toList_toArray, bin_eql, bin_neq, bin_lss, bin_leq, bin_gtr, bin_geq, bin_add, bin_sub, bin_mul, un_not, unA, AHeap.get_bump, AHeap.next_bump, opK0, kMove, kPick, kAlloc, kBox, kBuild, kBuildSlice, kLoad, kStore, kNilCheck, kBinOp, kUnOp, kFieldAddr, kField, kIndexAddr, kIndex, kLookup, kMapUpdate, kMakeMap, kExtract, kSlice, kCall, lenA, evA, evAs, evParts, toAV, toAV0, toAVs, T.get_set, T.get_nil, Nat.reduceAdd, Nat.reduceMul, Nat.reduceEqDiff, Nat.zero_add, Nat.add_zero, Nat.mul_one, Nat.zero_mul, AV.cells, List.all_cons, List.all_nil, AV.scalar, Bool.and_true, Bool.true_and, ↓reduceIte, if_true, und_all, AHeap.get_alloc, AHeap.get_set, AHeap.next_alloc, AHeap.next_set, AHeap.loadCells, AHeap.load1, AHeap.storeCells, List.getElem?_cons_zero, List.getElem?_cons_succ, List.length_cons, List.length_nil, List.drop_zero, List.take_succ_cons, List.take_zero, List.drop_succ_cons, List.drop_nil, List.take_nil, List.append_nil, List.cons_append, List.nil_append, binA, isConstO, keyOk, ents_some, Bool.or_true, Bool.or_false, Bool.true_or, Bool.false_or, wantedA, dstOk, Option.bind_some, List.append_nil, Tryz.underlying2, Tryz.underlying3, Tryz.underlying4, Tryz.underlying9, Tryz.underlying24, Tryz.underlying26, Tryz.underlying30, Tryz.underlying35, Tryz.underlying42, Tryz.underlying44, Tryz.underlying45, Tryz.underlying47, Tryz.underlying51, Tryz.underlying63, Tryz.underlying64, Tryz.underlying66, Tryz.underlying67, Tryz.underlying69, Tryz.underlying71, Tryz.underlying79, Tryz.underlying88, Tryz.underlying90, Tryz.underlying131, Tryz.underlying132, Tryz.underlying134, Tryz.underlying135, Tryz.underlying137, Tryz.underlying177, Tryz.underlying178, Tryz.underlying180, Tryz.underlying207, Tryz.underlying209, agg131, agg132, agg134, agg135, agg137, agg177, agg178, agg180, agg2, agg207, agg209, agg24, agg26, agg3, agg30, agg35, agg4, agg42, agg44, agg45, agg47, agg51, agg63, agg64, agg66, agg67, agg69, agg71, agg79, agg88, agg9, agg90, byt131, byt132, byt134, byt135, byt137, byt177, byt178, byt180, byt2, byt207, byt209, byt24, byt26, byt3, byt30, byt35, byt4, byt42, byt44, byt45, byt47, byt51, byt63, byt64, byt66, byt67, byt69, byt71, byt79, byt88, byt9, byt90, siz131, siz132, siz134, siz135, siz137, siz177, siz178, siz180, siz2, siz207, siz209, siz24, siz26, siz3, siz30, siz35, siz4, siz42, siz44, siz45, siz47, siz51, siz63, siz64, siz66, siz67, siz69, siz71, siz79, siz88, siz9, siz90, zer131, zer132, zer134, zer135, zer137, zer177, zer178, zer180, zer2, zer207, zer209, zer24, zer26, zer3, zer30, zer35, zer4, zer42, zer44, zer45, zer47, zer51, zer63, zer64, zer66, zer67, zer69, zer71, zer79, zer88, zer9, zer90, decide_true, decide_false, beq_self_eq_true, bne_self_eq_false, Bool.not_true, Bool.not_false, Bool.false_eq_true, if_false, List.zipIdx_cons, reid, toAV, Int.toNat_natCast, kPanic, kMakeInterface, hR, q1, g1, fn22] <;> rfl))
      | ((with_reducible apply wpOps_skipT); exact rfl; exact rfl)
      | ((with_reducible apply wpOps_skipN); exact rfl; exact rfl)
      | ((with_reducible apply dw_skipT); exact rfl; exact rfl)
      | (with_reducible apply aw_seq)
      | (with_reducible apply aw_regionL)
      | (with_reducible apply aw_block)
      | (with_reducible apply aw_scope)
      | (with_reducible apply aw_nil)
      | (with_reducible apply aw_then)
      | (with_reducible apply aw_thenR)
      | (with_reducible apply aw_thenE)
      | (with_reducible apply aw_thenP)
      | (with_reducible apply aw_blockP)
      | (with_reducible apply aw_blockR)
      | (with_reducible apply aw_blockN)
      | (with_reducible apply aw_blockE)
      | (with_reducible apply aw_ret)
      | (with_reducible apply aw_exit)
      | (with_reducible apply aw_skip)
      | ((with_reducible apply aw_condT); exact rfl)
      | ((with_reducible apply aw_condF); exact rfl)
      | ((with_reducible apply aw_drawL); (simp only [List.zipIdx_cons, List.zipIdx_nil, Nat.zero_add, Nat.reduceAdd] <;> rfl); kernel_rfl; kernel_rfl)
      | (with_reducible apply dw_nil)
      | fail)

    (with_reducible apply wpOps_callT); exact rfl; exact rfl; (simp only [List.getElem?_toArray, List.toList_toArray, bin_eql, bin_neq, bin_lss, bin_leq, bin_gtr, bin_geq, bin_add, bin_sub, bin_mul, un_not, unA, AHeap.get_bump, AHeap.next_bump, opK0, kMove, kPick, kAlloc, kBox, kBuild, kBuildSlice, kLoad, kStore, kNilCheck, kBinOp, kUnOp, kFieldAddr, kField, kIndexAddr, kIndex, kLookup, kMapUpdate, kMakeMap, kExtract, kSlice, kCall, lenA, evA, evAs, evParts, toAV, toAV0, toAVs, T.get_set, T.get_nil, Nat.reduceAdd, Nat.reduceMul, Nat.reduceEqDiff, Nat.zero_add, Nat.add_zero, Nat.mul_one, Nat.zero_mul, AV.cells, List.all_cons, List.all_nil, AV.scalar, Bool.and_true, Bool.true_and, ↓reduceIte, if_true, und_all, AHeap.get_alloc, AHeap.get_set, AHeap.next_alloc, AHeap.next_set, AHeap.loadCells, AHeap.load1, AHeap.storeCells, List.getElem?_cons_zero, List.getElem?_cons_succ, List.length_cons, List.length_nil, List.drop_zero, List.take_succ_cons, List.take_zero, List.drop_succ_cons, List.drop_nil, List.take_nil, List.append_nil, List.cons_append, List.nil_append, binA, isConstO, keyOk, ents_some, Bool.or_true, Bool.or_false, Bool.true_or, Bool.false_or, wantedA, dstOk, Option.bind_some, List.append_nil, Tryz.underlying2, Tryz.underlying3, Tryz.underlying4, Tryz.underlying9, Tryz.underlying24, Tryz.underlying26, Tryz.underlying30, Tryz.underlying35, Tryz.underlying42, Tryz.underlying44, Tryz.underlying45, Tryz.underlying47, Tryz.underlying51, Tryz.underlying63, Tryz.underlying64, Tryz.underlying66, Tryz.underlying67, Tryz.underlying69, Tryz.underlying71, Tryz.underlying79, Tryz.underlying88, Tryz.underlying90, Tryz.underlying131, Tryz.underlying132, Tryz.underlying134, Tryz.underlying135, Tryz.underlying137, Tryz.underlying177, Tryz.underlying178, Tryz.underlying180, Tryz.underlying207, Tryz.underlying209, agg131, agg132, agg134, agg135, agg137, agg177, agg178, agg180, agg2, agg207, agg209, agg24, agg26, agg3, agg30, agg35, agg4, agg42, agg44, agg45, agg47, agg51, agg63, agg64, agg66, agg67, agg69, agg71, agg79, agg88, agg9, agg90, byt131, byt132, byt134, byt135, byt137, byt177, byt178, byt180, byt2, byt207, byt209, byt24, byt26, byt3, byt30, byt35, byt4, byt42, byt44, byt45, byt47, byt51, byt63, byt64, byt66, byt67, byt69, byt71, byt79, byt88, byt9, byt90, siz131, siz132, siz134, siz135, siz137, siz177, siz178, siz180, siz2, siz207, siz209, siz24, siz26, siz3, siz30, siz35, siz4, siz42, siz44, siz45, siz47, siz51, siz63, siz64, siz66, siz67, siz69, siz71, siz79, siz88, siz9, siz90, zer131, zer132, zer134, zer135, zer137, zer177, zer178, zer180, zer2, zer207, zer209, zer24, zer26, zer3, zer30, zer35, zer4, zer42, zer44, zer45, zer47, zer51, zer63, zer64, zer66, zer67, zer69, zer71, zer79, zer88, zer9, zer90, decide_true, decide_false, beq_self_eq_true, bne_self_eq_false, Bool.not_true, Bool.not_false, Bool.false_eq_true, if_false, List.zipIdx_cons, reid, toAV, Int.toNat_natCast, kPanic, kMakeInterface, hR, q1, g1, fn22] <;> rfl)

    clear hR
    refine WCall_heap (fun X => Sx d lf sp n cc X ∧ Fr d h X) (H.more hl (fun i hi => by rw [AHeap.get_alloc, if_neg (by omega)]) (by rw [AHeap.next_alloc]; omega)) ?_
    rintro X ⟨HX, fX⟩
    refine (must_w d.R X).mono fun out h2 hq => ?_
    obtain ⟨rfl, rfl⟩ := hq
    dsimp only
    obtain ⟨j, hR, hj, hb, hjn⟩ := HX.r
    obtain ⟨a1, a2, a3, a4, hf⟩ := HX.ast.f
    unfold rc at hR
    have hnb2 := HX.nb
    have hlf := hl.f
    have w1 : IntKind.wrap .i64 (cc + 1) = cc + 1 := wr (by omega) (by omega)
    have qF0 : (d.F = d.R) = False := eq_false (by omega)
    have qF1 : (d.F = h2.next) = False := eq_false (by omega)
    have qF2 : (d.F = h2.next + 1) = False := eq_false (by omega)
    have qF3 : (d.F = h2.next + 1 + 1) = False := eq_false (by omega)
    repeat (first
      | ((first | ((with_reducible apply wpOps_valT); exact rfl; exact rfl) | ((with_reducible apply wpOps_storeN); exact rfl; exact rfl) | ((with_reducible apply dw_pureT); exact rfl; exact rfl; exact rfl) | ((with_reducible apply dw_readT); exact rfl; exact rfl; exact rfl)); (simp only [List.getElem?_toArray, List.toList_toArray, bin_eql, bin_neq, bin_lss, bin_leq, bin_gtr, bin_geq, bin_add, bin_sub, bin_mul, un_not, unA, AHeap.get_bump, AHeap.next_bump, opK0, kMove, kPick, kAlloc, kBox, kBuild, kBuildSlice, kLoad, kStore, kNilCheck, kBinOp, kUnOp, kFieldAddr, kField, kIndexAddr, kIndex, kLookup, kMapUpdate, kMakeMap, kExtract, kSlice, kCall, lenA, evA, evAs, evParts, toAV, toAV0, toAVs, T.get_set, T.get_nil, Nat.reduceAdd, Nat.reduceMul, Nat.reduceEqDiff, Nat.zero_add, Nat.add_zero, Nat.mul_one, Nat.zero_mul, AV.cells, List.all_cons, List.all_nil, AV.scalar, Bool.and_true, Bool.true_and, ↓reduceIte, if_true, und_all, AHeap.get_alloc, AHeap.get_set, AHeap.next_alloc, AHeap.next_set, AHeap.loadCells, AHeap.load1, AHeap.storeCells, List.getElem?_cons_zero, List.getElem?_cons_succ, List.length_cons, List.length_nil, List.drop_zero, List.take_succ_cons, List.take_zero, List.drop_succ_cons, List.drop_nil, List.take_nil, List.append_nil, List.cons_append, List.nil_append, binA, isConstO, keyOk, ents_some, Bool.or_true, Bool.or_false, Bool.true_or, Bool.false_or, wantedA, dstOk, Option.bind_some, List.append_nil, Tryz.underlying2, Tryz.underlying3, Tryz.underlying4, Tryz.underlying9, Tryz.underlying24, Tryz.underlying26, Tryz.underlying30, Tryz.underlying35, Tryz.underlying42, Tryz.underlying44, Tryz.underlying45, Tryz.underlying47, Tryz.underlying51, Tryz.underlying63, Tryz.underlying64, Tryz.underlying66, Tryz.underlying67, Tryz.underlying69, Tryz.underlying71, Tryz.underlying79, Tryz.underlying88, Tryz.underlying90, Tryz.underlying131, Tryz.underlying132, Tryz.underlying134, Tryz.underlying135, Tryz.underlying137, Tryz.underlying177, Tryz.underlying178, Tryz.underlying180, Tryz.underlying207, Tryz.underlying209, agg131, agg132, agg134, agg135, agg137, agg177, agg178, agg180, agg2, agg207, agg209, agg24, agg26, agg3, agg30, agg35, agg4, agg42, agg44, agg45, agg47, agg51, agg63, agg64, agg66, agg67, agg69, agg71, agg79, agg88, agg9, agg90, byt131, byt132, byt134, byt135, byt137, byt177, byt178, byt180, byt2, byt207, byt209, byt24, byt26, byt3, byt30, byt35, byt4, byt42, byt44, byt45, byt47, byt51, byt63, byt64, byt66, byt67, byt69, byt71, byt79, byt88, byt9, byt90, siz131, siz132, siz134, siz135, siz137, siz177, siz178, siz180, siz2, siz207, siz209, siz24, siz26, siz3, siz30, siz35, siz4, siz42, siz44, siz45, siz47, siz51, siz63, siz64, siz66, siz67, siz69, siz71, siz79, siz88, siz9, siz90, zer131, zer132, zer134, zer135, zer137, zer177, zer178, zer180, zer2, zer207, zer209, zer24, zer26, zer3, zer30, zer35, zer4, zer42, zer44, zer45, zer47, zer51, zer63, zer64, zer66, zer67, zer69, zer71, zer79, zer88, zer9, zer90, decide_true, decide_false, beq_self_eq_true, bne_self_eq_false, Bool.not_true, Bool.not_false, Bool.false_eq_true, if_false, List.zipIdx_cons, reid, toAV, Int.toNat_natCast, kPanic, kMakeInterface, hR, hf, w1, qF0, qF1, qF2, qF3, fn43, Int.lt_irrefl, Int.natCast_zero] <;> rfl))
      | ((with_reducible apply wpOps_skipT); exact rfl; exact rfl)
      | ((with_reducible apply wpOps_skipN); exact rfl; exact rfl)
      | ((with_reducible apply dw_skipT); exact rfl; exact rfl)
      | (with_reducible apply aw_seq)
      | (with_reducible apply aw_regionL)
      | (with_reducible apply aw_block)
      | (with_reducible apply aw_scope)
      | (with_reducible apply aw_nil)
      | (with_reducible apply aw_then)
      | (with_reducible apply aw_thenR)
      | (with_reducible apply aw_thenE)
      | (with_reducible apply aw_thenP)
      | (with_reducible apply aw_blockP)
      | (with_reducible apply aw_blockR)
      | (with_reducible apply aw_blockN)
      | (with_reducible apply aw_blockE)
      | (with_reducible apply aw_ret)
      | (with_reducible apply aw_exit)
      | (with_reducible apply aw_skip)
      | ((with_reducible apply aw_condT); exact rfl)
      | ((with_reducible apply aw_condF); exact rfl)
      | ((with_reducible apply aw_drawL); (simp only [List.zipIdx_cons, List.zipIdx_nil, Nat.zero_add, Nat.reduceAdd] <;> rfl); kernel_rfl; kernel_rfl)
      | (with_reducible apply dw_nil)
      | (with_reducible apply aw_loop0)
      | fail)

    (with_reducible apply wpOps_callT); exact rfl; exact rfl; (simp only [List.getElem?_toArray, List.toList_toArray, bin_eql, bin_neq, bin_lss, bin_leq, bin_gtr, bin_geq, bin_add, bin_sub, bin_mul, un_not, unA, AHeap.get_bump, AHeap.next_bump, opK0, kMove, kPick, kAlloc, kBox, kBuild, kBuildSlice, kLoad, kStore, kNilCheck, kBinOp, kUnOp, kFieldAddr, kField, kIndexAddr, kIndex, kLookup, kMapUpdate, kMakeMap, kExtract, kSlice, kCall, lenA, evA, evAs, evParts, toAV, toAV0, toAVs, T.get_set, T.get_nil, Nat.reduceAdd, Nat.reduceMul, Nat.reduceEqDiff, Nat.zero_add, Nat.add_zero, Nat.mul_one, Nat.zero_mul, AV.cells, List.all_cons, List.all_nil, AV.scalar, Bool.and_true, Bool.true_and, ↓reduceIte, if_true, und_all, AHeap.get_alloc, AHeap.get_set, AHeap.next_alloc, AHeap.next_set, AHeap.loadCells, AHeap.load1, AHeap.storeCells, List.getElem?_cons_zero, List.getElem?_cons_succ, List.length_cons, List.length_nil, List.drop_zero, List.take_succ_cons, List.take_zero, List.drop_succ_cons, List.drop_nil, List.take_nil, List.append_nil, List.cons_append, List.nil_append, binA, isConstO, keyOk, ents_some, Bool.or_true, Bool.or_false, Bool.true_or, Bool.false_or, wantedA, dstOk, Option.bind_some, List.append_nil, Tryz.underlying2, Tryz.underlying3, Tryz.underlying4, Tryz.underlying9, Tryz.underlying24, Tryz.underlying26, Tryz.underlying30, Tryz.underlying35, Tryz.underlying42, Tryz.underlying44, Tryz.underlying45, Tryz.underlying47, Tryz.underlying51, Tryz.underlying63, Tryz.underlying64, Tryz.underlying66, Tryz.underlying67, Tryz.underlying69, Tryz.underlying71, Tryz.underlying79, Tryz.underlying88, Tryz.underlying90, Tryz.underlying131, Tryz.underlying132, Tryz.underlying134, Tryz.underlying135, Tryz.underlying137, Tryz.underlying177, Tryz.underlying178, Tryz.underlying180, Tryz.underlying207, Tryz.underlying209, agg131, agg132, agg134, agg135, agg137, agg177, agg178, agg180, agg2, agg207, agg209, agg24, agg26, agg3, agg30, agg35, agg4, agg42, agg44, agg45, agg47, agg51, agg63, agg64, agg66, agg67, agg69, agg71, agg79, agg88, agg9, agg90, byt131, byt132, byt134, byt135, byt137, byt177, byt178, byt180, byt2, byt207, byt209, byt24, byt26, byt3, byt30, byt35, byt4, byt42, byt44, byt45, byt47, byt51, byt63, byt64, byt66, byt67, byt69, byt71, byt79, byt88, byt9, byt90, siz131, siz132, siz134, siz135, siz137, siz177, siz178, siz180, siz2, siz207, siz209, siz24, siz26, siz3, siz30, siz35, siz4, siz42, siz44, siz45, siz47, siz51, siz63, siz64, siz66, siz67, siz69, siz71, siz79, siz88, siz9, siz90, zer131, zer132, zer134, zer135, zer137, zer177, zer178, zer180, zer2, zer207, zer209, zer24, zer26, zer3, zer30, zer35, zer4, zer42, zer44, zer45, zer47, zer51, zer63, zer64, zer66, zer67, zer69, zer71, zer79, zer88, zer9, zer90, decide_true, decide_false, beq_self_eq_true, bne_self_eq_false, Bool.not_true, Bool.not_false, Bool.false_eq_true, if_false, List.zipIdx_cons, reid, toAV, Int.toNat_natCast, kPanic, kMakeInterface, hR, hf, w1, qF0, qF1, qF2, qF3, fn43] <;> rfl)

    refine WCall_heap (fun V => Sx d lf sp n (cc + 1) V ∧ Fr d h2 V) ?_ ?_
    · have u : Upd d.R (rc (.ptr (some (d.P, 0))) d.mm d.ww lf d.kd d.ex d.ev (.slice (some (j, 0)) n) sp d.gl (cc + 1) d.by_) h2 (h2.set d.R (.cells true 0 (rc (.ptr (some (d.P, 0))) d.mm d.ww lf d.kd d.ex d.ev (.slice (some (j, 0)) n) sp d.gl (cc + 1) d.by_))) :=
        ⟨by rw [AHeap.get_set, if_pos rfl], fun i hi => by rw [AHeap.get_set, if_neg hi], rfl⟩
      have H1 : Sx d lf sp n (cc + 1) (h2.set d.R (.cells true 0 (rc (.ptr (some (d.P, 0))) d.mm d.ww lf d.kd d.ex d.ev (.slice (some (j, 0)) n) sp d.gl (cc + 1) d.by_))) := by
        refine ⟨HX.ast.fr hl u.fr, ⟨j, u.get, ?_, hb, by rw [u.next]; exact hjn⟩, by rw [u.next]; exact hnb2⟩
        obtain ⟨cs, g1, g2⟩ := hj
        exact ⟨cs, (u.old j (by omega)).trans g1, g2⟩
      have hx : ∀ V : AHeap, (∀ i, i < h2.next → V.get i = (h2.set d.R (.cells true 0 (rc (.ptr (some (d.P, 0))) d.mm d.ww lf d.kd d.ex d.ev (.slice (some (j, 0)) n) sp d.gl (cc + 1) d.by_))).get i) → h2.next ≤ V.next → Sx d lf sp n (cc + 1) V ∧ Fr d h2 V := fun V v1 v2 => by
        obtain ⟨y1, y2⟩ := H1.more hl v1 v2
        exact ⟨y1, u.fr.trans y2⟩
      refine hx _ (fun i hi => ?_) ?_
      · simp only [AHeap.get_alloc, AHeap.next_alloc, AHeap.next_set]
        repeat (refine (if_neg (by omega)).trans ?_)
        rfl
      · simp only [AHeap.next_alloc, AHeap.next_set]; omega
    rintro V ⟨HV, fV⟩
    refine (stmtBlk_w d hl V HV (by omega) b2 b3 (by omega) (by omega) (Qf := fun v h2 => v = stuckV ∧ Sx d (lf - 3 * ((k + 1 : Nat) : Int)) (sp + 3 * ((k + 1 : Nat) : Int)) (n + (k + 1)) 1000 h2 ∧ Fr d h h2) fun Y HY FY => ?_).mono fun out h2 hq => ?_
    · refine (enter_w d hl k Y _ _ _ _ HY (by omega) (by omega) (by omega) (by omega) (by omega) (by omega) (by omega)).mono fun out h2 hq => ?_
      obtain ⟨v, rfl, rfl, hS, hFr⟩ := hq
      refine ⟨stuckV, rfl, rfl, ?_, fX.trans (fV.trans (FY.trans hFr))⟩
      have e1 : lf - 3 * ((k + 1 : Nat) : Int) = lf - 1 - 1 - 1 - 3 * (k : Int) := by omega
      have e2 : sp + 3 * ((k + 1 : Nat) : Int) = sp + 1 + 1 + 1 + 3 * (k : Int) := by omega
      have e3 : n + (k + 1) = n + 1 + k := by omega
      rw [e1, e2, e3]
      exact hS
    · obtain ⟨v, rfl, hq⟩ := hq
      dsimp only
      repeat (first
        | ((first | ((with_reducible apply wpOps_valT); exact rfl; exact rfl) | ((with_reducible apply wpOps_storeN); exact rfl; exact rfl) | ((with_reducible apply dw_pureT); exact rfl; exact rfl; exact rfl) | ((with_reducible apply dw_readT); exact rfl; exact rfl; exact rfl)); (simp only [List.getElem?_toArray, List.toList_toArray, bin_eql, bin_neq, bin_lss, bin_leq, bin_gtr, bin_geq, bin_add, bin_sub, bin_mul, un_not, unA, AHeap.get_bump, AHeap.next_bump, opK0, kMove, kPick, kAlloc, kBox, kBuild, kBuildSlice, kLoad, kStore, kNilCheck, kBinOp, kUnOp, kFieldAddr, kField, kIndexAddr, kIndex, kLookup, kMapUpdate, kMakeMap, kExtract, kSlice, kCall, lenA, evA, evAs, evParts, toAV, toAV0, toAVs, T.get_set, T.get_nil, Nat.reduceAdd, Nat.reduceMul, Nat.reduceEqDiff, Nat.zero_add, Nat.add_zero, Nat.mul_one, Nat.zero_mul, AV.cells, List.all_cons, List.all_nil, AV.scalar, Bool.and_true, Bool.true_and, ↓reduceIte, if_true, und_all, AHeap.get_alloc, AHeap.get_set, AHeap.next_alloc, AHeap.next_set, AHeap.loadCells, AHeap.load1, AHeap.storeCells, List.getElem?_cons_zero, List.getElem?_cons_succ, List.length_cons, List.length_nil, List.drop_zero, List.take_succ_cons, List.take_zero, List.drop_succ_cons, List.drop_nil, List.take_nil, List.append_nil, List.cons_append, List.nil_append, binA, isConstO, keyOk, ents_some, Bool.or_true, Bool.or_false, Bool.true_or, Bool.false_or, wantedA, dstOk, Option.bind_some, List.append_nil, Tryz.underlying2, Tryz.underlying3, Tryz.underlying4, Tryz.underlying9, Tryz.underlying24, Tryz.underlying26, Tryz.underlying30, Tryz.underlying35, Tryz.underlying42, Tryz.underlying44, Tryz.underlying45, Tryz.underlying47, Tryz.underlying51, Tryz.underlying63, Tryz.underlying64, Tryz.underlying66, Tryz.underlying67, Tryz.underlying69, Tryz.underlying71, Tryz.underlying79, Tryz.underlying88, Tryz.underlying90, Tryz.underlying131, Tryz.underlying132, Tryz.underlying134, Tryz.underlying135, Tryz.underlying137, Tryz.underlying177, Tryz.underlying178, Tryz.underlying180, Tryz.underlying207, Tryz.underlying209, agg131, agg132, agg134, agg135, agg137, agg177, agg178, agg180, agg2, agg207, agg209, agg24, agg26, agg3, agg30, agg35, agg4, agg42, agg44, agg45, agg47, agg51, agg63, agg64, agg66, agg67, agg69, agg71, agg79, agg88, agg9, agg90, byt131, byt132, byt134, byt135, byt137, byt177, byt178, byt180, byt2, byt207, byt209, byt24, byt26, byt3, byt30, byt35, byt4, byt42, byt44, byt45, byt47, byt51, byt63, byt64, byt66, byt67, byt69, byt71, byt79, byt88, byt9, byt90, siz131, siz132, siz134, siz135, siz137, siz177, siz178, siz180, siz2, siz207, siz209, siz24, siz26, siz3, siz30, siz35, siz4, siz42, siz44, siz45, siz47, siz51, siz63, siz64, siz66, siz67, siz69, siz71, siz79, siz88, siz9, siz90, zer131, zer132, zer134, zer135, zer137, zer177, zer178, zer180, zer2, zer207, zer209, zer24, zer26, zer3, zer30, zer35, zer4, zer42, zer44, zer45, zer47, zer51, zer63, zer64, zer66, zer67, zer69, zer71, zer79, zer88, zer9, zer90, decide_true, decide_false, beq_self_eq_true, bne_self_eq_false, Bool.not_true, Bool.not_false, Bool.false_eq_true, if_false, List.zipIdx_cons, reid, toAV, Int.toNat_natCast, kPanic, kMakeInterface] <;> rfl))
        | ((with_reducible apply wpOps_skipT); exact rfl; exact rfl)
        | ((with_reducible apply wpOps_skipN); exact rfl; exact rfl)
        | ((with_reducible apply dw_skipT); exact rfl; exact rfl)
        | (with_reducible apply aw_seq)
        | (with_reducible apply aw_regionL)
        | (with_reducible apply aw_block)
        | (with_reducible apply aw_scope)
        | (with_reducible apply aw_nil)
        | (with_reducible apply aw_then)
        | (with_reducible apply aw_thenR)
        | (with_reducible apply aw_thenE)
        | (with_reducible apply aw_thenP)
        | (with_reducible apply aw_blockP)
        | (with_reducible apply aw_blockR)
        | (with_reducible apply aw_blockN)
        | (with_reducible apply aw_blockE)
        | (with_reducible apply aw_ret)
        | (with_reducible apply aw_exit)
        | (with_reducible apply aw_skip)
        | ((with_reducible apply aw_condT); exact rfl)
        | ((with_reducible apply aw_condF); exact rfl)
        | ((with_reducible apply aw_drawL); (simp only [List.zipIdx_cons, List.zipIdx_nil, Nat.zero_add, Nat.reduceAdd] <;> rfl); kernel_rfl; kernel_rfl)
        | (with_reducible apply dw_nil)
        | fail)

      exact ⟨rfl, v, rfl, hq⟩
end Go.Proofs.YtdanfdimpcldiaaGreatDoor
