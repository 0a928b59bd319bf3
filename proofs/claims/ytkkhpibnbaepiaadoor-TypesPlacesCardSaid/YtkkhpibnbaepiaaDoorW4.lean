/-
  Law 6 on the abstract machine: lay. Each theorem states its own conditions; there are no others.
-/
import Derived.Test.YtkkhpibnbaepiaaDoorW3
set_option maxRecDepth 100000
set_option linter.unusedSimpArgs false
set_option linter.unusedVariables false
set_option maxHeartbeats 0
namespace Go.Proofs.YtkkhpibnbaepiaaDoor
open Go.Am

abbrev Fld := List UInt8 × List UInt8
def flatF (fs : List Fld) : List AV := (fs.map fun f => [.str f.1, .str f.2]).flatten
theorem flatF_length : ∀ fs : List Fld, (flatF fs).length = fs.length * 2
  | [] => rfl
  | p :: ps => by
    have := flatF_length ps
    simp only [flatF, List.map_cons, List.flatten_cons, List.length_append, List.length_cons, List.length_nil] at this ⊢
    omega
theorem flatF_at : ∀ (fs : List Fld) (i : Nat) (f : Fld), fs[i]? = some f → List.take 2 (List.drop (i * 2) (flatF fs)) = [.str f.1, .str f.2]
  | [], i, f, h => by simp at h
  | p :: ps, 0, f, h => by
    simp only [List.getElem?_cons_zero, Option.some.injEq] at h
    subst h
    simp [flatF]
  | p :: ps, i + 1, f, h => by
    have := flatF_at ps i f (by simpa using h)
    rw [show (i + 1) * 2 = i * 2 + 1 + 1 by omega]
    simpa [flatF] using this
/-- The state of laying out. -/
structure LSt where
  met : List (List UInt8)
  ps : List Plc
  size : Int
  align : Int
  long : Bool
def upTo (n a : Int) : Int := Int.tdiv (n + a - 1) a * a
/-- One field: an error, or the state behind it. -/
def layStep (names : List (List UInt8)) (es : List Ent) (s : LSt) (f : Fld) : Option LSt :=
  if f.1 ∈ s.met then none
  else if gn f.1 = true then
    if (szF names es f.2).2.2 = 5 then none
    else if s.long = true ∨ (szF names es f.2).2.2 = 2 then some { s with met := s.met ++ [f.1], long := true }
    else some ⟨s.met ++ [f.1], s.ps ++ [⟨f.1, f.2, upTo s.size (szF names es f.2).2.1⟩], upTo s.size (szF names es f.2).2.1 + (szF names es f.2).1, max s.align (szF names es f.2).2.1,
      decide (65536 < upTo s.size (szF names es f.2).2.1 + (szF names es f.2).1)⟩
  else none
def layGo (names : List (List UInt8)) (es : List Ent) : List Fld → LSt → Option LSt
  | [], s => some s
  | f :: fs, s => match layStep names es s f with
    | none => none
    | some s' => layGo names es fs s'
def lay0 : LSt := ⟨[], [], 0, 1, false⟩
inductive LRes where
  | bad (e : Int)
  | good (ps : List Plc) (size align : Int)
/-- What lay answers. -/
def layF (names : List (List UInt8)) (es : List Ent) (fs : List Fld) : LRes := match layGo names es fs lay0 with
  | none => .bad 5
  | some s => if s.long = true ∨ 65536 < upTo s.size s.align then .bad 2 else .good s.ps (upTo s.size s.align) s.align
structure LGood (s : LSt) : Prop where
  lo : 0 ≤ s.size
  hi : s.size ≤ 140000
  al : s.align = 1 ∨ s.align = 4 ∨ s.align = 8
  sh : s.long = false → s.size ≤ 65536
  ln : (s.ps.length : Int) ≤ s.size
theorem upTo_ge {n a : Int} (hn : 0 ≤ n) (ha : a = 1 ∨ a = 4 ∨ a = 8) : n ≤ upTo n a ∧ upTo n a < n + a ∧ upTo n a % a = 0 := by
  unfold upTo
  rcases ha with rfl | rfl | rfl <;> (rw [Int.tdiv_eq_ediv_of_nonneg (by omega)]; omega)
theorem lay0_good : LGood lay0 := ⟨by decide, by decide, .inl rfl, fun _ => by decide, by decide⟩
theorem layStep_good {names : List (List UInt8)} {es : List Ent} {s s' : LSt} {f : Fld} (hE : Fits es) (hs : LGood s) (h : layStep names es s f = some s') : LGood s' := by
  unfold layStep at h
  split at h
  · cases h
  · split at h
    · split at h
      · cases h
      · rename_i h5
        split at h
        · injection h with h
          subst h
          exact ⟨hs.lo, hs.hi, hs.al, (fun e => by cases e), hs.ln⟩
        · rename_i hl
          have h0 : (szF names es f.2).2.2 = 0 := by
            rcases szF_err names es f.2 with e | e | e
            · exact e
            · exact (hl (.inr e)).elim
            · exact (h5 e).elim
          obtain ⟨b1, b2, b3⟩ := szF_fits hE h0
          have hl0 : s.long = false := by
            cases e : s.long with
            | false => rfl
            | true => exact (hl (.inl e)).elim
          have hsh := hs.sh hl0
          obtain ⟨u1, u2, u3⟩ := upTo_ge hs.lo b3
          have := hs.ln
          have hlo := hs.lo
          injection h with h
          subst h
          refine ⟨by dsimp only; omega, by dsimp only; omega, ?_, ?_, ?_⟩
          · dsimp only
            rcases hs.al with e | e | e <;> rcases b3 with e' | e' | e' <;> rw [e, e'] <;> decide
          · dsimp only
            intro e
            have := of_decide_eq_false e
            omega
          · simp only [List.length_append, List.length_cons, List.length_nil, Int.natCast_add]
            omega
    · cases h
theorem PlAt.mono {H G : AHeap} {sl : AV} {ps : List Plc} {b b' : Nat} (hp : PlAt H sl ps b) (hb : b' ≤ b) (hn : H.next ≤ G.next) (hg : ∀ j, b ≤ j → j < H.next → G.get j = H.get j) : PlAt G sl ps b' := by
  rcases hp with ⟨h1, h2⟩ | ⟨po, h1, h2, h3, h4⟩
  · exact .inl ⟨h1, h2⟩
  · exact .inr ⟨po, h1, (hg po h3 h4).trans h2, Nat.le_trans hb h3, Nat.lt_of_lt_of_le h4 hn⟩
theorem PlAt.scalar {H : AHeap} {sl : AV} {ps : List Plc} {b : Nat} (hp : PlAt H sl ps b) : AV.scalar sl = true ∧ sl.cells = [sl] := by
  rcases hp with ⟨h1, rfl⟩ | ⟨po, rfl, h2, h3, h4⟩
  · exact ⟨rfl, rfl⟩
  · exact ⟨rfl, rfl⟩
theorem upTo_wrap {n a : Int} (hn : 0 ≤ n) (h2 : n ≤ 140000) (ha : a = 1 ∨ a = 4 ∨ a = 8) : IntKind.wrap .i64 (n + a) = n + a ∧ IntKind.wrap .i64 (n + a - 1) = n + a - 1 ∧ IntKind.wrap .i64 (Int.tdiv (n + a - 1) a) = Int.tdiv (n + a - 1) a ∧ IntKind.wrap .i64 (Int.tdiv (n + a - 1) a * a) = upTo n a := by
  obtain ⟨h3, h4, _⟩ := upTo_ge hn ha
  refine ⟨wr (by omega) (by omega), wr (by omega) (by omega), ?_, ?_⟩
  · rw [Int.tdiv_eq_ediv_of_nonneg (by omega)]
    rcases ha with rfl | rfl | rfl <;> exact wr (by omega) (by omega)
  · show IntKind.wrap .i64 (upTo n a) = _
    exact wr (by omega) (by omega)
theorem res16 : Tryd.f16.results.toList = [.cell 4 50, .tmp 5] := rfl
/-- In the loop, ahead of the field 'i'. -/
structure LayInv (h : AHeap) (tb o : Nat) (fs : List Fld) (i : Nat) (s : LSt) (x : St) : Prop where
  n : x.n = 110
  ds : x.ds = []
  rnd : x.rnd = false
  r0 : x.rg.get 0 = some (.ptr (some (tb, 0)))
  r4 : x.rg.get 4 = some (.ptr (some (h.next + 1, 0)))
  r6 : x.rg.get 6 = some (.map (some (h.next + 2)))
  r7 : x.rg.get 7 = some (.ptr (some (h.next + 3, 0)))
  r8 : x.rg.get 8 = some (.bool s.long)
  r18 : x.rg.get 18 = some (.slice (some (o, 0)) fs.length)
  r19 : x.rg.get 19 = some (.int .i64 fs.length)
  r20 : x.rg.get 20 = some (.int .i64 i)
  c4 : x.h.get (h.next + 1) = some (.cells true 0 [.slice none 0, .int .i64 0, .int .i64 0])
  c6 : x.h.get (h.next + 2) = some (.map (nmMap s.met))
  c7 : ∃ sl, x.h.get (h.next + 3) = some (.cells true 0 [sl, .int .i64 s.size, .int .i64 s.align]) ∧ PlAt x.h sl s.ps (h.next + 4)
  k : Keep h x.h
  nx : h.next + 4 ≤ x.h.next
/-- What lay answers, and where. -/
def LayOut (h : AHeap) (r : LRes) (out : Out) (h' : AHeap) : Prop := match r with
  | .bad e => out = .ret (.tup [.agg [.slice none 0, .int .i64 0, .int .i64 0], .int .i64 e])
  | .good ps size align => ∃ sl, out = .ret (.tup [.agg [sl, .int .i64 size, .int .i64 align], .int .i64 0]) ∧ PlAt h' sl ps h.next

theorem lay_w (h : AHeap) (tb nm st o : Nat) (names : List (List UInt8)) (es : List Ent) (nam : List UInt8) (fs : List Fld) (rw_ : Bool) (es_ : Nat) (hT : TabAt tb nm st h names es) (hF : Fresh h) (hE : Fits es)
    (ho : h.get o = some (.cells rw_ es_ (flatF fs))) (lo : o < h.next) (hfs : ∀ f ∈ fs, f.1.length ≤ 281474976710656 ∧ f.2.length ≤ 281474976710656) (hnf : fs.length ≤ 9223372036854775807) :
    WCall env 16 [.ptr (some (tb, 0)), .agg [.str nam, .slice (some (o, 0)) fs.length]] h (fun out h' => LayOut h (layF names es fs) out h' ∧ Keep h h') := by
  refine WCall.body pr16 fn16 rfl (Nat.le_of_ble_eq_true rfl) ?_
  simp only [argsA]
  repeat (first
    | ((first | ((with_reducible apply wpOps_valT); exact rfl; exact rfl) | ((with_reducible apply wpOps_storeN); exact rfl; exact rfl) | ((with_reducible apply dw_pureT); exact rfl; exact rfl; exact rfl) | ((with_reducible apply dw_readT); exact rfl; exact rfl; exact rfl)); (simp only [List.getElem?_toArray, List.toList_toArray, bin_eql, bin_neq, bin_lss, bin_leq, bin_gtr, bin_geq, bin_add, bin_sub, bin_mul, un_not, unA, AHeap.get_bump, AHeap.next_bump, opK0, kMove, kPick, kAlloc, kBox, kBuild, kBuildSlice, kLoad, kStore, kNilCheck, kBinOp, kUnOp, kFieldAddr, kField, kIndexAddr, kIndex, kLookup, kMapUpdate, kMakeMap, kExtract, kSlice, kCall, lenA, evA, evAs, evParts, toAV, toAV0, toAVs, T.get_set, T.get_nil, Nat.reduceAdd, Nat.reduceMul, Nat.reduceEqDiff, Nat.zero_add, Nat.add_zero, Nat.mul_one, Nat.zero_mul, AV.cells, List.all_cons, List.all_nil, AV.scalar, Bool.and_true, Bool.true_and, ↓reduceIte, if_true, und_all, Tryd.underlying3, Tryd.underlying4, Tryd.underlying5, Tryd.underlying9, Tryd.underlying23, Tryd.underlying24, Tryd.underlying31, Tryd.underlying38, Tryd.underlying39, Tryd.underlying40, Tryd.underlying41, Tryd.underlying42, Tryd.underlying45, Tryd.underlying46, Tryd.underlying48, Tryd.underlying50, Tryd.underlying55, Tryd.underlying57, Tryd.underlying67, siz3, agg3, zer3, byt3, siz4, agg4, zer4, byt4, siz5, agg5, zer5, byt5, siz9, agg9, zer9, byt9, siz23, agg23, zer23, byt23, siz24, agg24, zer24, byt24, siz31, agg31, zer31, byt31, siz38, agg38, zer38, byt38, siz39, agg39, zer39, byt39, siz40, agg40, zer40, byt40, siz41, agg41, zer41, byt41, siz42, agg42, zer42, byt42, siz45, agg45, zer45, byt45, siz46, agg46, zer46, byt46, siz48, agg48, zer48, byt48, siz50, agg50, zer50, byt50, siz55, agg55, zer55, byt55, siz57, agg57, zer57, byt57, siz67, agg67, zer67, byt67, AHeap.get_alloc, AHeap.get_set, AHeap.next_alloc, AHeap.next_set, AHeap.loadCells, AHeap.load1, AHeap.storeCells, List.getElem?_cons_zero, List.getElem?_cons_succ, List.length_cons, List.length_nil, List.drop_zero, List.take_succ_cons, List.take_zero, List.drop_succ_cons, List.drop_nil, List.take_nil, List.append_nil, List.cons_append, List.nil_append, binA, isConstO, keyOk, ents_some, Bool.or_true, Bool.or_false, Bool.true_or, Bool.false_or, wantedA, dstOk, Option.bind_some, List.append_nil, decide_true, decide_false, beq_self_eq_true, Bool.not_true, Bool.not_false, Bool.false_eq_true, if_false, List.zipIdx_cons, reid, toAV, Int.toNat_natCast, Int.natCast_one, Int.natCast_zero] <;> rfl))
    | ((with_reducible apply wpOps_skipT); exact rfl; exact rfl)
    | ((with_reducible apply wpOps_skipN); exact rfl; exact rfl)
    | ((with_reducible apply dw_skipT); exact rfl; exact rfl)
    | (with_reducible apply aw_seq)
    | (with_reducible apply aw_regionL)
    | (with_reducible apply aw_block)
    | (with_reducible apply aw_scope)
    | (with_reducible apply aw_nil)
    | (with_reducible apply aw_then)
    | (with_reducible apply aw_thenR)
    | (with_reducible apply aw_thenE)
    | (with_reducible apply aw_blockR)
    | (with_reducible apply aw_blockN)
    | (with_reducible apply aw_blockE)
    | (with_reducible apply aw_ret)
    | (with_reducible apply aw_exit)
    | (with_reducible apply aw_skip)
    | ((with_reducible apply aw_condT); exact rfl)
    | ((with_reducible apply aw_condF); exact rfl)
    | ((with_reducible apply aw_drawL); (simp only [List.zipIdx_cons, List.zipIdx_nil, Nat.zero_add, Nat.reduceAdd] <;> rfl); kernel_rfl; kernel_rfl)
    | (with_reducible apply dw_nil)
    | fail)

  refine wpOps_heap (fun H => Keep h H ∧ H.next = h.next + 4 ∧ H.get h.next = some (.cells true 0 [.str nam, .slice (some (o, 0)) fs.length]) ∧ H.get (h.next + 1) = some (.cells true 0 [.slice none 0, .int .i64 0, .int .i64 0]) ∧ H.get (h.next + 2) = some (.map []) ∧ H.get (h.next + 3) = some (.cells true 0 [.slice none 0, .int .i64 0, .int .i64 1])) ⟨?_, rfl, ?_, ?_, ?_, ?_⟩ ?_
  · skip
    try dsimp only
    repeat (first | exact Keep.refl _ | (with_reducible apply Keep.bump) | (with_reducible apply Keep.alloc) | ((with_reducible apply Keep.set); (first | exact Nat.le_refl _ | (omega)); ((try simp only [AHeap.next_alloc, AHeap.next_bump, AHeap.next_set]); omega)))

  · skip
    simp only [AHeap.get_alloc, AHeap.get_bump, AHeap.next_bump, AHeap.next_set, AHeap.next_alloc, AHeap.get_set]
    repeat (first | rfl | assumption | exact if_pos trivial | exact if_pos rfl | (refine (if_pos trivial).trans ?_) | (refine (if_pos rfl).trans ?_) | (refine (if_neg (by omega)).trans ?_))
  · skip
    simp only [AHeap.get_alloc, AHeap.get_bump, AHeap.next_bump, AHeap.next_set, AHeap.next_alloc, AHeap.get_set]
    repeat (first | rfl | assumption | exact if_pos trivial | exact if_pos rfl | (refine (if_pos trivial).trans ?_) | (refine (if_pos rfl).trans ?_) | (refine (if_neg (by omega)).trans ?_))
  · skip
    simp only [AHeap.get_alloc, AHeap.get_bump, AHeap.next_bump, AHeap.next_set, AHeap.next_alloc, AHeap.get_set]
    repeat (first | rfl | assumption | exact if_pos trivial | exact if_pos rfl | (refine (if_pos trivial).trans ?_) | (refine (if_pos rfl).trans ?_) | (refine (if_neg (by omega)).trans ?_))
  · skip
    simp only [AHeap.get_alloc, AHeap.get_bump, AHeap.next_bump, AHeap.next_set, AHeap.next_alloc, AHeap.get_set]
    repeat (first | rfl | assumption | exact if_pos trivial | exact if_pos rfl | (refine (if_pos trivial).trans ?_) | (refine (if_pos rfl).trans ?_) | (refine (if_neg (by omega)).trans ?_))
  rintro H ⟨k1, n1, d0, d1, d2, d3⟩
  repeat (first
    | ((first | ((with_reducible apply wpOps_valT); exact rfl; exact rfl) | ((with_reducible apply wpOps_storeN); exact rfl; exact rfl) | ((with_reducible apply dw_pureT); exact rfl; exact rfl; exact rfl) | ((with_reducible apply dw_readT); exact rfl; exact rfl; exact rfl)); (simp only [List.getElem?_toArray, List.toList_toArray, bin_eql, bin_neq, bin_lss, bin_leq, bin_gtr, bin_geq, bin_add, bin_sub, bin_mul, un_not, unA, AHeap.get_bump, AHeap.next_bump, opK0, kMove, kPick, kAlloc, kBox, kBuild, kBuildSlice, kLoad, kStore, kNilCheck, kBinOp, kUnOp, kFieldAddr, kField, kIndexAddr, kIndex, kLookup, kMapUpdate, kMakeMap, kExtract, kSlice, kCall, lenA, evA, evAs, evParts, toAV, toAV0, toAVs, T.get_set, T.get_nil, Nat.reduceAdd, Nat.reduceMul, Nat.reduceEqDiff, Nat.zero_add, Nat.add_zero, Nat.mul_one, Nat.zero_mul, AV.cells, List.all_cons, List.all_nil, AV.scalar, Bool.and_true, Bool.true_and, ↓reduceIte, if_true, und_all, Tryd.underlying3, Tryd.underlying4, Tryd.underlying5, Tryd.underlying9, Tryd.underlying23, Tryd.underlying24, Tryd.underlying31, Tryd.underlying38, Tryd.underlying39, Tryd.underlying40, Tryd.underlying41, Tryd.underlying42, Tryd.underlying45, Tryd.underlying46, Tryd.underlying48, Tryd.underlying50, Tryd.underlying55, Tryd.underlying57, Tryd.underlying67, siz3, agg3, zer3, byt3, siz4, agg4, zer4, byt4, siz5, agg5, zer5, byt5, siz9, agg9, zer9, byt9, siz23, agg23, zer23, byt23, siz24, agg24, zer24, byt24, siz31, agg31, zer31, byt31, siz38, agg38, zer38, byt38, siz39, agg39, zer39, byt39, siz40, agg40, zer40, byt40, siz41, agg41, zer41, byt41, siz42, agg42, zer42, byt42, siz45, agg45, zer45, byt45, siz46, agg46, zer46, byt46, siz48, agg48, zer48, byt48, siz50, agg50, zer50, byt50, siz55, agg55, zer55, byt55, siz57, agg57, zer57, byt57, siz67, agg67, zer67, byt67, AHeap.get_alloc, AHeap.get_set, AHeap.next_alloc, AHeap.next_set, AHeap.loadCells, AHeap.load1, AHeap.storeCells, List.getElem?_cons_zero, List.getElem?_cons_succ, List.length_cons, List.length_nil, List.drop_zero, List.take_succ_cons, List.take_zero, List.drop_succ_cons, List.drop_nil, List.take_nil, List.append_nil, List.cons_append, List.nil_append, binA, isConstO, keyOk, ents_some, Bool.or_true, Bool.or_false, Bool.true_or, Bool.false_or, wantedA, dstOk, Option.bind_some, List.append_nil, decide_true, decide_false, beq_self_eq_true, Bool.not_true, Bool.not_false, Bool.false_eq_true, if_false, List.zipIdx_cons, reid, toAV, Int.toNat_natCast, Int.natCast_one, Int.natCast_zero, d0] <;> rfl))
    | ((with_reducible apply wpOps_skipT); exact rfl; exact rfl)
    | ((with_reducible apply wpOps_skipN); exact rfl; exact rfl)
    | ((with_reducible apply dw_skipT); exact rfl; exact rfl)
    | (with_reducible apply aw_seq)
    | (with_reducible apply aw_regionL)
    | (with_reducible apply aw_block)
    | (with_reducible apply aw_scope)
    | (with_reducible apply aw_nil)
    | (with_reducible apply aw_then)
    | (with_reducible apply aw_thenR)
    | (with_reducible apply aw_thenE)
    | (with_reducible apply aw_blockR)
    | (with_reducible apply aw_blockN)
    | (with_reducible apply aw_blockE)
    | (with_reducible apply aw_ret)
    | (with_reducible apply aw_exit)
    | (with_reducible apply aw_skip)
    | ((with_reducible apply aw_condT); exact rfl)
    | ((with_reducible apply aw_condF); exact rfl)
    | ((with_reducible apply aw_drawL); (simp only [List.zipIdx_cons, List.zipIdx_nil, Nat.zero_add, Nat.reduceAdd] <;> rfl); kernel_rfl; kernel_rfl)
    | (with_reducible apply dw_nil)
    | fail)

  refine aw_loop (fun k x => ∃ i s, i ≤ fs.length ∧ k = fs.length - i ∧ layGo names es fs lay0 = layGo names es (fs.drop i) s ∧ LGood s ∧ LayInv h tb o fs i s x) fs.length ?_ ?_
  · refine ⟨0, lay0, Nat.zero_le _, rfl, rfl, lay0_good, rfl, rfl, rfl, rfl, rfl, rfl, rfl, rfl, rfl, rfl, rfl, ?_, ?_, ?_, ?_, ?_⟩
    · exact d1
    · exact d2
    · exact ⟨_, d3, .inl ⟨rfl, rfl⟩⟩
    · exact k1
    · dsimp only; omega
  · rintro k ⟨rg, n, H, dd, rnd⟩ ⟨i, s, hi, rfl, hgo, hg, hn, hd, hr, r0, r4, r6, r7, r8, r18, r19, r20, c4, c6, ⟨sl, c7, hpl⟩, k1, nx⟩
    dsimp only at hn hd hr r0 r4 r6 r7 r8 r18 r19 r20 c4 c6 c7 k1 nx hpl
    subst hn hd hr
    by_cases hlt : i < fs.length
    · have g1 : ((i : Int) < (fs.length : Int)) = True := eq_true (by omega)
      have g2 : (0 ≤ (i : Int)) = True := eq_true (by omega)
      have ho' := (k1.old o lo).trans ho
      obtain ⟨f, hf⟩ : ∃ f, fs[i]? = some f := ⟨fs[i], List.getElem?_eq_getElem hlt⟩
      have g3 := flatF_at fs i f hf
      have g4 : (i * 2 + 2 ≤ (flatF fs).length) = True := eq_true (by rw [flatF_length]; omega)
      have hfm := hfs f (List.mem_of_getElem? hf)
      have hdr : fs.drop i = f :: fs.drop (i + 1) := by rw [List.drop_eq_getElem_cons hlt]; rw [List.getElem?_eq_getElem hlt] at hf; injection hf with hf; rw [hf]
      rw [hdr, layGo] at hgo
      obtain ⟨fn, ft⟩ := f
      dsimp only at g3 hfm
      have q6 : (h.next + 2 = H.next) = False := eq_false (by omega)
      have q4 : (h.next + 1 = H.next) = False := eq_false (by omega)
      have q8 : (H.next = h.next + 2) = False := eq_false (by omega)
      have q7 : (h.next + 1 = h.next + 2) = False := eq_false (by omega)
      have hfind := find_names fn s.met 0
      obtain ⟨MM, hMM⟩ : ∃ M, M = nmMap s.met := ⟨_, rfl⟩
      rw [← hMM] at c6 hfind
      rcases hfind with ⟨m1, m2⟩ | ⟨m1, j, m2, _⟩
      · have M1 : nmMap (s.met ++ [fn]) = MM ++ [(.str fn, .bool true)] := by rw [hMM]; simp [nmMap]
        repeat (first
          | ((first | ((with_reducible apply wpOps_valT); (first | exact rfl | (apply wantedGT; exact rfl; exact rfl; exact rfl; (simp only [T.get_set, Nat.reduceEqDiff, ↓reduceIte, evA, r0, r4, r6, r7, r8, r18, r19, r20] <;> rfl))); exact rfl) | ((with_reducible apply wpOps_storeN); (first | exact rfl | (apply wantedGT; exact rfl; exact rfl; exact rfl; (simp only [T.get_set, Nat.reduceEqDiff, ↓reduceIte, evA, r0, r4, r6, r7, r8, r18, r19, r20] <;> rfl))); exact rfl) | ((with_reducible apply dw_pureT); (first | exact rfl | (apply wantedGT; exact rfl; exact rfl; exact rfl; (simp only [T.get_set, Nat.reduceEqDiff, ↓reduceIte, evA, r0, r4, r6, r7, r8, r18, r19, r20] <;> rfl))); exact rfl; exact rfl) | ((with_reducible apply dw_readT); (first | exact rfl | (apply wantedGT; exact rfl; exact rfl; exact rfl; (simp only [T.get_set, Nat.reduceEqDiff, ↓reduceIte, evA, r0, r4, r6, r7, r8, r18, r19, r20] <;> rfl))); exact rfl; exact rfl)); (simp only [List.getElem?_toArray, List.toList_toArray, bin_eql, bin_neq, bin_lss, bin_leq, bin_gtr, bin_geq, bin_add, bin_sub, bin_mul, un_not, unA, AHeap.get_bump, AHeap.next_bump, opK0, kMove, kPick, kAlloc, kBox, kBuild, kBuildSlice, kLoad, kStore, kNilCheck, kBinOp, kUnOp, kFieldAddr, kField, kIndexAddr, kIndex, kLookup, kMapUpdate, kMakeMap, kExtract, kSlice, kCall, lenA, evA, evAs, evParts, toAV, toAV0, toAVs, T.get_set, T.get_nil, Nat.reduceAdd, Nat.reduceMul, Nat.reduceEqDiff, Nat.zero_add, Nat.add_zero, Nat.mul_one, Nat.zero_mul, AV.cells, List.all_cons, List.all_nil, AV.scalar, Bool.and_true, Bool.true_and, ↓reduceIte, if_true, und_all, Tryd.underlying3, Tryd.underlying4, Tryd.underlying5, Tryd.underlying9, Tryd.underlying23, Tryd.underlying24, Tryd.underlying31, Tryd.underlying38, Tryd.underlying39, Tryd.underlying40, Tryd.underlying41, Tryd.underlying42, Tryd.underlying45, Tryd.underlying46, Tryd.underlying48, Tryd.underlying50, Tryd.underlying55, Tryd.underlying57, Tryd.underlying67, siz3, agg3, zer3, byt3, siz4, agg4, zer4, byt4, siz5, agg5, zer5, byt5, siz9, agg9, zer9, byt9, siz23, agg23, zer23, byt23, siz24, agg24, zer24, byt24, siz31, agg31, zer31, byt31, siz38, agg38, zer38, byt38, siz39, agg39, zer39, byt39, siz40, agg40, zer40, byt40, siz41, agg41, zer41, byt41, siz42, agg42, zer42, byt42, siz45, agg45, zer45, byt45, siz46, agg46, zer46, byt46, siz48, agg48, zer48, byt48, siz50, agg50, zer50, byt50, siz55, agg55, zer55, byt55, siz57, agg57, zer57, byt57, siz67, agg67, zer67, byt67, AHeap.get_alloc, AHeap.get_set, AHeap.next_alloc, AHeap.next_set, AHeap.loadCells, AHeap.load1, AHeap.storeCells, List.getElem?_cons_zero, List.getElem?_cons_succ, List.length_cons, List.length_nil, List.drop_zero, List.take_succ_cons, List.take_zero, List.drop_succ_cons, List.drop_nil, List.take_nil, List.append_nil, List.cons_append, List.nil_append, binA, isConstO, keyOk, ents_some, Bool.or_true, Bool.or_false, Bool.true_or, Bool.false_or, wantedA, dstOk, Option.bind_some, List.append_nil, decide_true, decide_false, beq_self_eq_true, Bool.not_true, Bool.not_false, Bool.false_eq_true, if_false, List.zipIdx_cons, reid, toAV, Int.toNat_natCast, Int.natCast_one, Int.natCast_zero, g1, g2, g3, g4, ho', and_self, c6, q6, q4, q7, q8, c4, AHeap.get_set, m2, r0, r4, r6, r7, r8, r18, r19, r20] <;> rfl))
          | ((with_reducible apply wpOps_skipT); (first | exact rfl | (apply wantedGF; exact rfl; exact rfl; exact rfl; (simp only [T.get_set, Nat.reduceEqDiff, ↓reduceIte, evA, r0, r4, r6, r7, r8, r18, r19, r20] <;> rfl)) | (apply wantedZ; exact rfl; exact rfl; exact rfl; (simp only [T.get_set, Nat.reduceEqDiff, ↓reduceIte, evA, r0, r4, r6, r7, r8, r18, r19, r20] <;> rfl))); exact rfl)
          | ((with_reducible apply wpOps_skipN); (first | exact rfl | (apply wantedGF; exact rfl; exact rfl; exact rfl; (simp only [T.get_set, Nat.reduceEqDiff, ↓reduceIte, evA, r0, r4, r6, r7, r8, r18, r19, r20] <;> rfl)) | (apply wantedZ; exact rfl; exact rfl; exact rfl; (simp only [T.get_set, Nat.reduceEqDiff, ↓reduceIte, evA, r0, r4, r6, r7, r8, r18, r19, r20] <;> rfl))); exact rfl)
          | ((with_reducible apply dw_skipT); (first | exact rfl | (apply wantedGF; exact rfl; exact rfl; exact rfl; (simp only [T.get_set, Nat.reduceEqDiff, ↓reduceIte, evA, r0, r4, r6, r7, r8, r18, r19, r20] <;> rfl)) | (apply wantedZ; exact rfl; exact rfl; exact rfl; (simp only [T.get_set, Nat.reduceEqDiff, ↓reduceIte, evA, r0, r4, r6, r7, r8, r18, r19, r20] <;> rfl))); exact rfl)
          | (with_reducible apply aw_seq)
          | (with_reducible apply aw_regionL)
          | (with_reducible apply aw_block)
          | (with_reducible apply aw_scope)
          | (with_reducible apply aw_nil)
          | (with_reducible apply aw_then)
          | (with_reducible apply aw_thenR)
          | (with_reducible apply aw_thenE)
          | (with_reducible apply aw_blockR)
          | (with_reducible apply aw_blockN)
          | (with_reducible apply aw_blockE)
          | (with_reducible apply aw_ret)
          | (with_reducible apply aw_exit)
          | (with_reducible apply aw_skip)
          | ((with_reducible apply aw_condT); (first | exact rfl | (simp only [T.get_set, Nat.reduceEqDiff, ↓reduceIte, evA, r0, r4, r6, r7, r8, r18, r19, r20] <;> rfl)))
          | ((with_reducible apply aw_condF); (first | exact rfl | (simp only [T.get_set, Nat.reduceEqDiff, ↓reduceIte, evA, r0, r4, r6, r7, r8, r18, r19, r20] <;> rfl)))
          | ((with_reducible apply aw_drawL); (simp only [List.zipIdx_cons, List.zipIdx_nil, Nat.zero_add, Nat.reduceAdd] <;> rfl); kernel_rfl; kernel_rfl)
          | (with_reducible apply dw_nil)
          | fail)

        (with_reducible apply wpOps_callT); (first | exact rfl | (apply wantedGT; exact rfl; exact rfl; exact rfl; (simp only [T.get_set, Nat.reduceEqDiff, ↓reduceIte, evA, r0, r4, r6, r7, r8, r18, r19, r20] <;> rfl))); exact rfl; (simp only [List.getElem?_toArray, List.toList_toArray, bin_eql, bin_neq, bin_lss, bin_leq, bin_gtr, bin_geq, bin_add, bin_sub, bin_mul, un_not, unA, AHeap.get_bump, AHeap.next_bump, opK0, kMove, kPick, kAlloc, kBox, kBuild, kBuildSlice, kLoad, kStore, kNilCheck, kBinOp, kUnOp, kFieldAddr, kField, kIndexAddr, kIndex, kLookup, kMapUpdate, kMakeMap, kExtract, kSlice, kCall, lenA, evA, evAs, evParts, toAV, toAV0, toAVs, T.get_set, T.get_nil, Nat.reduceAdd, Nat.reduceMul, Nat.reduceEqDiff, Nat.zero_add, Nat.add_zero, Nat.mul_one, Nat.zero_mul, AV.cells, List.all_cons, List.all_nil, AV.scalar, Bool.and_true, Bool.true_and, ↓reduceIte, if_true, und_all, Tryd.underlying3, Tryd.underlying4, Tryd.underlying5, Tryd.underlying9, Tryd.underlying23, Tryd.underlying24, Tryd.underlying31, Tryd.underlying38, Tryd.underlying39, Tryd.underlying40, Tryd.underlying41, Tryd.underlying42, Tryd.underlying45, Tryd.underlying46, Tryd.underlying48, Tryd.underlying50, Tryd.underlying55, Tryd.underlying57, Tryd.underlying67, siz3, agg3, zer3, byt3, siz4, agg4, zer4, byt4, siz5, agg5, zer5, byt5, siz9, agg9, zer9, byt9, siz23, agg23, zer23, byt23, siz24, agg24, zer24, byt24, siz31, agg31, zer31, byt31, siz38, agg38, zer38, byt38, siz39, agg39, zer39, byt39, siz40, agg40, zer40, byt40, siz41, agg41, zer41, byt41, siz42, agg42, zer42, byt42, siz45, agg45, zer45, byt45, siz46, agg46, zer46, byt46, siz48, agg48, zer48, byt48, siz50, agg50, zer50, byt50, siz55, agg55, zer55, byt55, siz57, agg57, zer57, byt57, siz67, agg67, zer67, byt67, AHeap.get_alloc, AHeap.get_set, AHeap.next_alloc, AHeap.next_set, AHeap.loadCells, AHeap.load1, AHeap.storeCells, List.getElem?_cons_zero, List.getElem?_cons_succ, List.length_cons, List.length_nil, List.drop_zero, List.take_succ_cons, List.take_zero, List.drop_succ_cons, List.drop_nil, List.take_nil, List.append_nil, List.cons_append, List.nil_append, binA, isConstO, keyOk, ents_some, Bool.or_true, Bool.or_false, Bool.true_or, Bool.false_or, wantedA, dstOk, Option.bind_some, List.append_nil, decide_true, decide_false, beq_self_eq_true, Bool.not_true, Bool.not_false, Bool.false_eq_true, if_false, List.zipIdx_cons, reid, toAV, Int.toNat_natCast, Int.natCast_one, Int.natCast_zero, g1, g2, g3, g4, ho', and_self, c6, q6, q4, q7, q8, c4, AHeap.get_set, m2, r0, r4, r6, r7, r8, r18, r19, r20] <;> rfl)

        refine (goodName_w _ fn (by omega)).mono fun out h2 hq => ?_
        obtain ⟨rfl, rfl⟩ := hq
        dsimp only
        cases hgn : gn fn with
        | false =>
          repeat (first
            | ((first | ((with_reducible apply wpOps_valT); (first | exact rfl | (apply wantedGT; exact rfl; exact rfl; exact rfl; (simp only [T.get_set, Nat.reduceEqDiff, ↓reduceIte, evA, r0, r4, r6, r7, r8, r18, r19, r20] <;> rfl))); exact rfl) | ((with_reducible apply wpOps_storeN); (first | exact rfl | (apply wantedGT; exact rfl; exact rfl; exact rfl; (simp only [T.get_set, Nat.reduceEqDiff, ↓reduceIte, evA, r0, r4, r6, r7, r8, r18, r19, r20] <;> rfl))); exact rfl) | ((with_reducible apply dw_pureT); (first | exact rfl | (apply wantedGT; exact rfl; exact rfl; exact rfl; (simp only [T.get_set, Nat.reduceEqDiff, ↓reduceIte, evA, r0, r4, r6, r7, r8, r18, r19, r20] <;> rfl))); exact rfl; exact rfl) | ((with_reducible apply dw_readT); (first | exact rfl | (apply wantedGT; exact rfl; exact rfl; exact rfl; (simp only [T.get_set, Nat.reduceEqDiff, ↓reduceIte, evA, r0, r4, r6, r7, r8, r18, r19, r20] <;> rfl))); exact rfl; exact rfl)); (simp only [List.getElem?_toArray, List.toList_toArray, bin_eql, bin_neq, bin_lss, bin_leq, bin_gtr, bin_geq, bin_add, bin_sub, bin_mul, un_not, unA, AHeap.get_bump, AHeap.next_bump, opK0, kMove, kPick, kAlloc, kBox, kBuild, kBuildSlice, kLoad, kStore, kNilCheck, kBinOp, kUnOp, kFieldAddr, kField, kIndexAddr, kIndex, kLookup, kMapUpdate, kMakeMap, kExtract, kSlice, kCall, lenA, evA, evAs, evParts, toAV, toAV0, toAVs, T.get_set, T.get_nil, Nat.reduceAdd, Nat.reduceMul, Nat.reduceEqDiff, Nat.zero_add, Nat.add_zero, Nat.mul_one, Nat.zero_mul, AV.cells, List.all_cons, List.all_nil, AV.scalar, Bool.and_true, Bool.true_and, ↓reduceIte, if_true, und_all, Tryd.underlying3, Tryd.underlying4, Tryd.underlying5, Tryd.underlying9, Tryd.underlying23, Tryd.underlying24, Tryd.underlying31, Tryd.underlying38, Tryd.underlying39, Tryd.underlying40, Tryd.underlying41, Tryd.underlying42, Tryd.underlying45, Tryd.underlying46, Tryd.underlying48, Tryd.underlying50, Tryd.underlying55, Tryd.underlying57, Tryd.underlying67, siz3, agg3, zer3, byt3, siz4, agg4, zer4, byt4, siz5, agg5, zer5, byt5, siz9, agg9, zer9, byt9, siz23, agg23, zer23, byt23, siz24, agg24, zer24, byt24, siz31, agg31, zer31, byt31, siz38, agg38, zer38, byt38, siz39, agg39, zer39, byt39, siz40, agg40, zer40, byt40, siz41, agg41, zer41, byt41, siz42, agg42, zer42, byt42, siz45, agg45, zer45, byt45, siz46, agg46, zer46, byt46, siz48, agg48, zer48, byt48, siz50, agg50, zer50, byt50, siz55, agg55, zer55, byt55, siz57, agg57, zer57, byt57, siz67, agg67, zer67, byt67, AHeap.get_alloc, AHeap.get_set, AHeap.next_alloc, AHeap.next_set, AHeap.loadCells, AHeap.load1, AHeap.storeCells, List.getElem?_cons_zero, List.getElem?_cons_succ, List.length_cons, List.length_nil, List.drop_zero, List.take_succ_cons, List.take_zero, List.drop_succ_cons, List.drop_nil, List.take_nil, List.append_nil, List.cons_append, List.nil_append, binA, isConstO, keyOk, ents_some, Bool.or_true, Bool.or_false, Bool.true_or, Bool.false_or, wantedA, dstOk, Option.bind_some, List.append_nil, decide_true, decide_false, beq_self_eq_true, Bool.not_true, Bool.not_false, Bool.false_eq_true, if_false, List.zipIdx_cons, reid, toAV, Int.toNat_natCast, Int.natCast_one, Int.natCast_zero, g1, g2, g3, g4, ho', and_self, c6, q6, q4, q7, q8, c4, AHeap.get_set, m2, r0, r4, r6, r7, r8, r18, r19, r20] <;> rfl))
            | ((with_reducible apply wpOps_skipT); (first | exact rfl | (apply wantedGF; exact rfl; exact rfl; exact rfl; (simp only [T.get_set, Nat.reduceEqDiff, ↓reduceIte, evA, r0, r4, r6, r7, r8, r18, r19, r20] <;> rfl)) | (apply wantedZ; exact rfl; exact rfl; exact rfl; (simp only [T.get_set, Nat.reduceEqDiff, ↓reduceIte, evA, r0, r4, r6, r7, r8, r18, r19, r20] <;> rfl))); exact rfl)
            | ((with_reducible apply wpOps_skipN); (first | exact rfl | (apply wantedGF; exact rfl; exact rfl; exact rfl; (simp only [T.get_set, Nat.reduceEqDiff, ↓reduceIte, evA, r0, r4, r6, r7, r8, r18, r19, r20] <;> rfl)) | (apply wantedZ; exact rfl; exact rfl; exact rfl; (simp only [T.get_set, Nat.reduceEqDiff, ↓reduceIte, evA, r0, r4, r6, r7, r8, r18, r19, r20] <;> rfl))); exact rfl)
            | ((with_reducible apply dw_skipT); (first | exact rfl | (apply wantedGF; exact rfl; exact rfl; exact rfl; (simp only [T.get_set, Nat.reduceEqDiff, ↓reduceIte, evA, r0, r4, r6, r7, r8, r18, r19, r20] <;> rfl)) | (apply wantedZ; exact rfl; exact rfl; exact rfl; (simp only [T.get_set, Nat.reduceEqDiff, ↓reduceIte, evA, r0, r4, r6, r7, r8, r18, r19, r20] <;> rfl))); exact rfl)
            | (with_reducible apply aw_seq)
            | (with_reducible apply aw_regionL)
            | (with_reducible apply aw_block)
            | (with_reducible apply aw_scope)
            | (with_reducible apply aw_nil)
            | (with_reducible apply aw_then)
            | (with_reducible apply aw_thenR)
            | (with_reducible apply aw_thenE)
            | (with_reducible apply aw_blockR)
            | (with_reducible apply aw_blockN)
            | (with_reducible apply aw_blockE)
            | (with_reducible apply aw_ret)
            | (with_reducible apply aw_exit)
            | (with_reducible apply aw_skip)
            | ((with_reducible apply aw_condT); (first | exact rfl | (simp only [T.get_set, Nat.reduceEqDiff, ↓reduceIte, evA, r0, r4, r6, r7, r8, r18, r19, r20] <;> rfl)))
            | ((with_reducible apply aw_condF); (first | exact rfl | (simp only [T.get_set, Nat.reduceEqDiff, ↓reduceIte, evA, r0, r4, r6, r7, r8, r18, r19, r20] <;> rfl)))
            | ((with_reducible apply aw_drawL); (simp only [List.zipIdx_cons, List.zipIdx_nil, Nat.zero_add, Nat.reduceAdd] <;> rfl); kernel_rfl; kernel_rfl)
            | (with_reducible apply dw_nil)
            | fail)

          have hstep : layStep names es s (fn, ft) = Option.none := by simp only [layStep, m1, hgn, Bool.false_eq_true, if_false]
          refine ⟨rfl, _, (by simp only [res16, resultsA, resultA, List.getElem?_toArray, List.toList_toArray, bin_eql, bin_neq, bin_lss, bin_leq, bin_gtr, bin_geq, bin_add, bin_sub, bin_mul, un_not, unA, AHeap.get_bump, AHeap.next_bump, opK0, kMove, kPick, kAlloc, kBox, kBuild, kBuildSlice, kLoad, kStore, kNilCheck, kBinOp, kUnOp, kFieldAddr, kField, kIndexAddr, kIndex, kLookup, kMapUpdate, kMakeMap, kExtract, kSlice, kCall, lenA, evA, evAs, evParts, toAV, toAV0, toAVs, T.get_set, T.get_nil, Nat.reduceAdd, Nat.reduceMul, Nat.reduceEqDiff, Nat.zero_add, Nat.add_zero, Nat.mul_one, Nat.zero_mul, AV.cells, List.all_cons, List.all_nil, AV.scalar, Bool.and_true, Bool.true_and, ↓reduceIte, if_true, und_all, Tryd.underlying3, Tryd.underlying4, Tryd.underlying5, Tryd.underlying9, Tryd.underlying23, Tryd.underlying24, Tryd.underlying31, Tryd.underlying38, Tryd.underlying39, Tryd.underlying40, Tryd.underlying41, Tryd.underlying42, Tryd.underlying45, Tryd.underlying46, Tryd.underlying48, Tryd.underlying50, Tryd.underlying55, Tryd.underlying57, Tryd.underlying67, siz3, agg3, zer3, byt3, siz4, agg4, zer4, byt4, siz5, agg5, zer5, byt5, siz9, agg9, zer9, byt9, siz23, agg23, zer23, byt23, siz24, agg24, zer24, byt24, siz31, agg31, zer31, byt31, siz38, agg38, zer38, byt38, siz39, agg39, zer39, byt39, siz40, agg40, zer40, byt40, siz41, agg41, zer41, byt41, siz42, agg42, zer42, byt42, siz45, agg45, zer45, byt45, siz46, agg46, zer46, byt46, siz48, agg48, zer48, byt48, siz50, agg50, zer50, byt50, siz55, agg55, zer55, byt55, siz57, agg57, zer57, byt57, siz67, agg67, zer67, byt67, AHeap.get_alloc, AHeap.get_set, AHeap.next_alloc, AHeap.next_set, AHeap.loadCells, AHeap.load1, AHeap.storeCells, List.getElem?_cons_zero, List.getElem?_cons_succ, List.length_cons, List.length_nil, List.drop_zero, List.take_succ_cons, List.take_zero, List.drop_succ_cons, List.drop_nil, List.take_nil, List.append_nil, List.cons_append, List.nil_append, binA, isConstO, keyOk, ents_some, Bool.or_true, Bool.or_false, Bool.true_or, Bool.false_or, wantedA, dstOk, Option.bind_some, List.append_nil, decide_true, decide_false, beq_self_eq_true, Bool.not_true, Bool.not_false, Bool.false_eq_true, if_false, List.zipIdx_cons, reid, toAV, Int.toNat_natCast, Int.natCast_one, Int.natCast_zero, c4, r0, r4, r6, r7, r8, r18, r19, r20] <;> rfl), ?_, ?_⟩
          · simp only [layF, hgo, hstep]; rfl
          · skip
            try dsimp only
            repeat (first | exact Keep.refl _ | exact k1 | (with_reducible apply Keep.bump) | (with_reducible apply Keep.alloc) | ((with_reducible apply Keep.set); (first | exact Nat.le_refl _ | (have := Keep.next k1; omega)); ((try simp only [AHeap.next_alloc, AHeap.next_bump, AHeap.next_set]); have := Keep.next k1; omega)))

        | true =>
          repeat (first
            | ((first | ((with_reducible apply wpOps_valT); (first | exact rfl | (apply wantedGT; exact rfl; exact rfl; exact rfl; (simp only [T.get_set, Nat.reduceEqDiff, ↓reduceIte, evA, r0, r4, r6, r7, r8, r18, r19, r20] <;> rfl))); exact rfl) | ((with_reducible apply wpOps_storeN); (first | exact rfl | (apply wantedGT; exact rfl; exact rfl; exact rfl; (simp only [T.get_set, Nat.reduceEqDiff, ↓reduceIte, evA, r0, r4, r6, r7, r8, r18, r19, r20] <;> rfl))); exact rfl) | ((with_reducible apply dw_pureT); (first | exact rfl | (apply wantedGT; exact rfl; exact rfl; exact rfl; (simp only [T.get_set, Nat.reduceEqDiff, ↓reduceIte, evA, r0, r4, r6, r7, r8, r18, r19, r20] <;> rfl))); exact rfl; exact rfl) | ((with_reducible apply dw_readT); (first | exact rfl | (apply wantedGT; exact rfl; exact rfl; exact rfl; (simp only [T.get_set, Nat.reduceEqDiff, ↓reduceIte, evA, r0, r4, r6, r7, r8, r18, r19, r20] <;> rfl))); exact rfl; exact rfl)); (simp only [List.getElem?_toArray, List.toList_toArray, bin_eql, bin_neq, bin_lss, bin_leq, bin_gtr, bin_geq, bin_add, bin_sub, bin_mul, un_not, unA, AHeap.get_bump, AHeap.next_bump, opK0, kMove, kPick, kAlloc, kBox, kBuild, kBuildSlice, kLoad, kStore, kNilCheck, kBinOp, kUnOp, kFieldAddr, kField, kIndexAddr, kIndex, kLookup, kMapUpdate, kMakeMap, kExtract, kSlice, kCall, lenA, evA, evAs, evParts, toAV, toAV0, toAVs, T.get_set, T.get_nil, Nat.reduceAdd, Nat.reduceMul, Nat.reduceEqDiff, Nat.zero_add, Nat.add_zero, Nat.mul_one, Nat.zero_mul, AV.cells, List.all_cons, List.all_nil, AV.scalar, Bool.and_true, Bool.true_and, ↓reduceIte, if_true, und_all, Tryd.underlying3, Tryd.underlying4, Tryd.underlying5, Tryd.underlying9, Tryd.underlying23, Tryd.underlying24, Tryd.underlying31, Tryd.underlying38, Tryd.underlying39, Tryd.underlying40, Tryd.underlying41, Tryd.underlying42, Tryd.underlying45, Tryd.underlying46, Tryd.underlying48, Tryd.underlying50, Tryd.underlying55, Tryd.underlying57, Tryd.underlying67, siz3, agg3, zer3, byt3, siz4, agg4, zer4, byt4, siz5, agg5, zer5, byt5, siz9, agg9, zer9, byt9, siz23, agg23, zer23, byt23, siz24, agg24, zer24, byt24, siz31, agg31, zer31, byt31, siz38, agg38, zer38, byt38, siz39, agg39, zer39, byt39, siz40, agg40, zer40, byt40, siz41, agg41, zer41, byt41, siz42, agg42, zer42, byt42, siz45, agg45, zer45, byt45, siz46, agg46, zer46, byt46, siz48, agg48, zer48, byt48, siz50, agg50, zer50, byt50, siz55, agg55, zer55, byt55, siz57, agg57, zer57, byt57, siz67, agg67, zer67, byt67, AHeap.get_alloc, AHeap.get_set, AHeap.next_alloc, AHeap.next_set, AHeap.loadCells, AHeap.load1, AHeap.storeCells, List.getElem?_cons_zero, List.getElem?_cons_succ, List.length_cons, List.length_nil, List.drop_zero, List.take_succ_cons, List.take_zero, List.drop_succ_cons, List.drop_nil, List.take_nil, List.append_nil, List.cons_append, List.nil_append, binA, isConstO, keyOk, ents_some, Bool.or_true, Bool.or_false, Bool.true_or, Bool.false_or, wantedA, dstOk, Option.bind_some, List.append_nil, decide_true, decide_false, beq_self_eq_true, Bool.not_true, Bool.not_false, Bool.false_eq_true, if_false, List.zipIdx_cons, reid, toAV, Int.toNat_natCast, Int.natCast_one, Int.natCast_zero, g1, g2, g3, g4, ho', and_self, c6, q6, q4, q7, q8, c4, AHeap.get_set, m2, r0, r4, r6, r7, r8, r18, r19, r20] <;> rfl))
            | ((with_reducible apply wpOps_skipT); (first | exact rfl | (apply wantedGF; exact rfl; exact rfl; exact rfl; (simp only [T.get_set, Nat.reduceEqDiff, ↓reduceIte, evA, r0, r4, r6, r7, r8, r18, r19, r20] <;> rfl)) | (apply wantedZ; exact rfl; exact rfl; exact rfl; (simp only [T.get_set, Nat.reduceEqDiff, ↓reduceIte, evA, r0, r4, r6, r7, r8, r18, r19, r20] <;> rfl))); exact rfl)
            | ((with_reducible apply wpOps_skipN); (first | exact rfl | (apply wantedGF; exact rfl; exact rfl; exact rfl; (simp only [T.get_set, Nat.reduceEqDiff, ↓reduceIte, evA, r0, r4, r6, r7, r8, r18, r19, r20] <;> rfl)) | (apply wantedZ; exact rfl; exact rfl; exact rfl; (simp only [T.get_set, Nat.reduceEqDiff, ↓reduceIte, evA, r0, r4, r6, r7, r8, r18, r19, r20] <;> rfl))); exact rfl)
            | ((with_reducible apply dw_skipT); (first | exact rfl | (apply wantedGF; exact rfl; exact rfl; exact rfl; (simp only [T.get_set, Nat.reduceEqDiff, ↓reduceIte, evA, r0, r4, r6, r7, r8, r18, r19, r20] <;> rfl)) | (apply wantedZ; exact rfl; exact rfl; exact rfl; (simp only [T.get_set, Nat.reduceEqDiff, ↓reduceIte, evA, r0, r4, r6, r7, r8, r18, r19, r20] <;> rfl))); exact rfl)
            | (with_reducible apply aw_seq)
            | (with_reducible apply aw_regionL)
            | (with_reducible apply aw_block)
            | (with_reducible apply aw_scope)
            | (with_reducible apply aw_nil)
            | (with_reducible apply aw_then)
            | (with_reducible apply aw_thenR)
            | (with_reducible apply aw_thenE)
            | (with_reducible apply aw_blockR)
            | (with_reducible apply aw_blockN)
            | (with_reducible apply aw_blockE)
            | (with_reducible apply aw_ret)
            | (with_reducible apply aw_exit)
            | (with_reducible apply aw_skip)
            | ((with_reducible apply aw_condT); (first | exact rfl | (simp only [T.get_set, Nat.reduceEqDiff, ↓reduceIte, evA, r0, r4, r6, r7, r8, r18, r19, r20] <;> rfl)))
            | ((with_reducible apply aw_condF); (first | exact rfl | (simp only [T.get_set, Nat.reduceEqDiff, ↓reduceIte, evA, r0, r4, r6, r7, r8, r18, r19, r20] <;> rfl)))
            | ((with_reducible apply aw_drawL); (simp only [List.zipIdx_cons, List.zipIdx_nil, Nat.zero_add, Nat.reduceAdd] <;> rfl); kernel_rfl; kernel_rfl)
            | (with_reducible apply dw_nil)
            | fail)

          (with_reducible apply wpOps_callT); (first | exact rfl | (apply wantedGT; exact rfl; exact rfl; exact rfl; (simp only [T.get_set, Nat.reduceEqDiff, ↓reduceIte, evA, r0, r4, r6, r7, r8, r18, r19, r20] <;> rfl))); exact rfl; (simp only [List.getElem?_toArray, List.toList_toArray, bin_eql, bin_neq, bin_lss, bin_leq, bin_gtr, bin_geq, bin_add, bin_sub, bin_mul, un_not, unA, AHeap.get_bump, AHeap.next_bump, opK0, kMove, kPick, kAlloc, kBox, kBuild, kBuildSlice, kLoad, kStore, kNilCheck, kBinOp, kUnOp, kFieldAddr, kField, kIndexAddr, kIndex, kLookup, kMapUpdate, kMakeMap, kExtract, kSlice, kCall, lenA, evA, evAs, evParts, toAV, toAV0, toAVs, T.get_set, T.get_nil, Nat.reduceAdd, Nat.reduceMul, Nat.reduceEqDiff, Nat.zero_add, Nat.add_zero, Nat.mul_one, Nat.zero_mul, AV.cells, List.all_cons, List.all_nil, AV.scalar, Bool.and_true, Bool.true_and, ↓reduceIte, if_true, und_all, Tryd.underlying3, Tryd.underlying4, Tryd.underlying5, Tryd.underlying9, Tryd.underlying23, Tryd.underlying24, Tryd.underlying31, Tryd.underlying38, Tryd.underlying39, Tryd.underlying40, Tryd.underlying41, Tryd.underlying42, Tryd.underlying45, Tryd.underlying46, Tryd.underlying48, Tryd.underlying50, Tryd.underlying55, Tryd.underlying57, Tryd.underlying67, siz3, agg3, zer3, byt3, siz4, agg4, zer4, byt4, siz5, agg5, zer5, byt5, siz9, agg9, zer9, byt9, siz23, agg23, zer23, byt23, siz24, agg24, zer24, byt24, siz31, agg31, zer31, byt31, siz38, agg38, zer38, byt38, siz39, agg39, zer39, byt39, siz40, agg40, zer40, byt40, siz41, agg41, zer41, byt41, siz42, agg42, zer42, byt42, siz45, agg45, zer45, byt45, siz46, agg46, zer46, byt46, siz48, agg48, zer48, byt48, siz50, agg50, zer50, byt50, siz55, agg55, zer55, byt55, siz57, agg57, zer57, byt57, siz67, agg67, zer67, byt67, AHeap.get_alloc, AHeap.get_set, AHeap.next_alloc, AHeap.next_set, AHeap.loadCells, AHeap.load1, AHeap.storeCells, List.getElem?_cons_zero, List.getElem?_cons_succ, List.length_cons, List.length_nil, List.drop_zero, List.take_succ_cons, List.take_zero, List.drop_succ_cons, List.drop_nil, List.take_nil, List.append_nil, List.cons_append, List.nil_append, binA, isConstO, keyOk, ents_some, Bool.or_true, Bool.or_false, Bool.true_or, Bool.false_or, wantedA, dstOk, Option.bind_some, List.append_nil, decide_true, decide_false, beq_self_eq_true, Bool.not_true, Bool.not_false, Bool.false_eq_true, if_false, List.zipIdx_cons, reid, toAV, Int.toNat_natCast, Int.natCast_one, Int.natCast_zero, g1, g2, g3, g4, ho', and_self, c6, q6, q4, q7, q8, c4, AHeap.get_set, m2, r0, r4, r6, r7, r8, r18, r19, r20] <;> rfl)

          refine WCall_heap (fun G => Keep h G ∧ G.get (h.next + 1) = some (.cells true 0 [.slice none 0, .int .i64 0, .int .i64 0]) ∧ G.get (h.next + 2) = some (.map (nmMap (s.met ++ [fn]))) ∧ G.get (h.next + 3) = some (.cells true 0 [sl, .int .i64 s.size, .int .i64 s.align]) ∧
            PlAt G sl s.ps (h.next + 4) ∧ G.get H.next = some (.cells true 0 [.str fn, .str ft]) ∧ H.next < G.next) ⟨?_, ?_, ?_, ?_, ?_, ?_, ?_⟩ ?_
          · skip
            try dsimp only
            repeat (first | exact Keep.refl _ | exact k1 | (with_reducible apply Keep.bump) | (with_reducible apply Keep.alloc) | ((with_reducible apply Keep.set); (first | exact Nat.le_refl _ | (have := Keep.next k1; omega)); ((try simp only [AHeap.next_alloc, AHeap.next_bump, AHeap.next_set]); have := Keep.next k1; omega)))

          · skip
            simp only [AHeap.get_alloc, AHeap.get_bump, AHeap.next_bump, AHeap.next_set, AHeap.next_alloc, AHeap.get_set]
            repeat (first | rfl | assumption | exact if_pos trivial | exact if_pos rfl | (refine (if_pos trivial).trans ?_) | (refine (if_pos rfl).trans ?_) | (refine (if_neg (by omega)).trans ?_))

          · rw [M1]
            simp only [AHeap.get_alloc, AHeap.get_bump, AHeap.next_bump, AHeap.next_set, AHeap.next_alloc, AHeap.get_set]
            repeat (first | rfl | assumption | exact if_pos trivial | exact if_pos rfl | (refine (if_pos trivial).trans ?_) | (refine (if_pos rfl).trans ?_) | (refine (if_neg (by omega)).trans ?_))

          · skip
            simp only [AHeap.get_alloc, AHeap.get_bump, AHeap.next_bump, AHeap.next_set, AHeap.next_alloc, AHeap.get_set]
            repeat (first | rfl | assumption | exact if_pos trivial | exact if_pos rfl | (refine (if_pos trivial).trans ?_) | (refine (if_pos rfl).trans ?_) | (refine (if_neg (by omega)).trans ?_))

          · refine hpl.mono (Nat.le_refl _) (by simp only [AHeap.next_set, AHeap.next_alloc]; omega) fun j h1 h2 => ?_
            simp only [AHeap.get_alloc, AHeap.get_bump, AHeap.next_bump, AHeap.next_set, AHeap.next_alloc, AHeap.get_set]
            repeat (first | rfl | assumption | exact if_pos trivial | exact if_pos rfl | (refine (if_pos trivial).trans ?_) | (refine (if_pos rfl).trans ?_) | (refine (if_neg (by omega)).trans ?_))

          · skip
            simp only [AHeap.get_alloc, AHeap.get_bump, AHeap.next_bump, AHeap.next_set, AHeap.next_alloc, AHeap.get_set]
            repeat (first | rfl | assumption | exact if_pos trivial | exact if_pos rfl | (refine (if_pos trivial).trans ?_) | (refine (if_pos rfl).trans ?_) | (refine (if_neg (by omega)).trans ?_))

          · simp only [AHeap.next_set, AHeap.next_alloc]; omega
          clear c4 c6 c7 hpl q6 q4 q7 q8 g3 g4 m2 M1 hMM
          rintro G ⟨kG, c4, c6, c7, hpl, c10, nG⟩
          refine (size_w G tb nm st names es ft (hT.keep kG) (kG.fresh hF) hE hfm.2).mono fun out G' hq => ?_
          obtain ⟨rfl, k2⟩ := hq
          have nx' : h.next + 4 ≤ G.next := by omega
          replace c4 := (k2.old _ (by omega)).trans c4
          replace c6 := (k2.old _ (by omega)).trans c6
          replace c7 := (k2.old _ (by omega)).trans c7
          replace c10 := (k2.old _ (by omega)).trans c10
          replace hpl := hpl.mono (Nat.le_refl _) k2.next fun j h1 h2 => k2.old j h2
          replace nG := Nat.lt_of_lt_of_le nG k2.next
          replace kG := kG.trans k2
          replace nx' := Nat.le_trans nx' k2.next
          clear k1 k2
          have e1 := szF_err names es ft
          have e2 := @szF_fits names es ft hE
          have hs0 : layStep names es s (fn, ft) = if (szF names es ft).2.2 = 5 then none
            else if s.long = true ∨ (szF names es ft).2.2 = 2 then some { s with met := s.met ++ [fn], long := true }
            else some ⟨s.met ++ [fn], s.ps ++ [⟨fn, ft, upTo s.size (szF names es ft).2.1⟩], upTo s.size (szF names es ft).2.1 + (szF names es ft).1, max s.align (szF names es ft).2.1,
              decide (65536 < upTo s.size (szF names es ft).2.1 + (szF names es ft).1)⟩ := by
            simp only [layStep, m1, hgn, if_false, if_true]
          have hgood := fun s' (e : layStep names es s (fn, ft) = some s') => layStep_good hE hg e
          dsimp only [retM]
          generalize szF names es ft = z at *
          obtain ⟨sz, al, er⟩ := z
          dsimp only at *
          have wi : IntKind.wrap .i64 ((i : Int) + 1) = ((i + 1 : Nat) : Int) := by
            rw [wr (by omega) (by omega)]; simp
          by_cases h5 : er = 5
          · subst h5
            have hstep : layStep names es s (fn, ft) = Option.none := by rw [hs0]; simp only [if_true]
            repeat (first
              | ((first | ((with_reducible apply wpOps_valT); (first | exact rfl | (apply wantedGT; exact rfl; exact rfl; exact rfl; (simp only [T.get_set, Nat.reduceEqDiff, ↓reduceIte, evA, r0, r4, r6, r7, r8, r18, r19, r20] <;> rfl))); exact rfl) | ((with_reducible apply wpOps_storeN); (first | exact rfl | (apply wantedGT; exact rfl; exact rfl; exact rfl; (simp only [T.get_set, Nat.reduceEqDiff, ↓reduceIte, evA, r0, r4, r6, r7, r8, r18, r19, r20] <;> rfl))); exact rfl) | ((with_reducible apply dw_pureT); (first | exact rfl | (apply wantedGT; exact rfl; exact rfl; exact rfl; (simp only [T.get_set, Nat.reduceEqDiff, ↓reduceIte, evA, r0, r4, r6, r7, r8, r18, r19, r20] <;> rfl))); exact rfl; exact rfl) | ((with_reducible apply dw_readT); (first | exact rfl | (apply wantedGT; exact rfl; exact rfl; exact rfl; (simp only [T.get_set, Nat.reduceEqDiff, ↓reduceIte, evA, r0, r4, r6, r7, r8, r18, r19, r20] <;> rfl))); exact rfl; exact rfl)); (simp only [List.getElem?_toArray, List.toList_toArray, bin_eql, bin_neq, bin_lss, bin_leq, bin_gtr, bin_geq, bin_add, bin_sub, bin_mul, un_not, unA, AHeap.get_bump, AHeap.next_bump, opK0, kMove, kPick, kAlloc, kBox, kBuild, kBuildSlice, kLoad, kStore, kNilCheck, kBinOp, kUnOp, kFieldAddr, kField, kIndexAddr, kIndex, kLookup, kMapUpdate, kMakeMap, kExtract, kSlice, kCall, lenA, evA, evAs, evParts, toAV, toAV0, toAVs, T.get_set, T.get_nil, Nat.reduceAdd, Nat.reduceMul, Nat.reduceEqDiff, Nat.zero_add, Nat.add_zero, Nat.mul_one, Nat.zero_mul, AV.cells, List.all_cons, List.all_nil, AV.scalar, Bool.and_true, Bool.true_and, ↓reduceIte, if_true, und_all, Tryd.underlying3, Tryd.underlying4, Tryd.underlying5, Tryd.underlying9, Tryd.underlying23, Tryd.underlying24, Tryd.underlying31, Tryd.underlying38, Tryd.underlying39, Tryd.underlying40, Tryd.underlying41, Tryd.underlying42, Tryd.underlying45, Tryd.underlying46, Tryd.underlying48, Tryd.underlying50, Tryd.underlying55, Tryd.underlying57, Tryd.underlying67, siz3, agg3, zer3, byt3, siz4, agg4, zer4, byt4, siz5, agg5, zer5, byt5, siz9, agg9, zer9, byt9, siz23, agg23, zer23, byt23, siz24, agg24, zer24, byt24, siz31, agg31, zer31, byt31, siz38, agg38, zer38, byt38, siz39, agg39, zer39, byt39, siz40, agg40, zer40, byt40, siz41, agg41, zer41, byt41, siz42, agg42, zer42, byt42, siz45, agg45, zer45, byt45, siz46, agg46, zer46, byt46, siz48, agg48, zer48, byt48, siz50, agg50, zer50, byt50, siz55, agg55, zer55, byt55, siz57, agg57, zer57, byt57, siz67, agg67, zer67, byt67, AHeap.get_alloc, AHeap.get_set, AHeap.next_alloc, AHeap.next_set, AHeap.loadCells, AHeap.load1, AHeap.storeCells, List.getElem?_cons_zero, List.getElem?_cons_succ, List.length_cons, List.length_nil, List.drop_zero, List.take_succ_cons, List.take_zero, List.drop_succ_cons, List.drop_nil, List.take_nil, List.append_nil, List.cons_append, List.nil_append, binA, isConstO, keyOk, ents_some, Bool.or_true, Bool.or_false, Bool.true_or, Bool.false_or, wantedA, dstOk, Option.bind_some, List.append_nil, decide_true, decide_false, beq_self_eq_true, Bool.not_true, Bool.not_false, Bool.false_eq_true, if_false, List.zipIdx_cons, reid, toAV, Int.toNat_natCast, Int.natCast_one, Int.natCast_zero, c4, c6, c7, c10, r0, r4, r6, r7, r8, r18, r19, r20] <;> rfl))
              | ((with_reducible apply wpOps_skipT); (first | exact rfl | (apply wantedGF; exact rfl; exact rfl; exact rfl; (simp only [T.get_set, Nat.reduceEqDiff, ↓reduceIte, evA, r0, r4, r6, r7, r8, r18, r19, r20] <;> rfl)) | (apply wantedZ; exact rfl; exact rfl; exact rfl; (simp only [T.get_set, Nat.reduceEqDiff, ↓reduceIte, evA, r0, r4, r6, r7, r8, r18, r19, r20] <;> rfl))); exact rfl)
              | ((with_reducible apply wpOps_skipN); (first | exact rfl | (apply wantedGF; exact rfl; exact rfl; exact rfl; (simp only [T.get_set, Nat.reduceEqDiff, ↓reduceIte, evA, r0, r4, r6, r7, r8, r18, r19, r20] <;> rfl)) | (apply wantedZ; exact rfl; exact rfl; exact rfl; (simp only [T.get_set, Nat.reduceEqDiff, ↓reduceIte, evA, r0, r4, r6, r7, r8, r18, r19, r20] <;> rfl))); exact rfl)
              | ((with_reducible apply dw_skipT); (first | exact rfl | (apply wantedGF; exact rfl; exact rfl; exact rfl; (simp only [T.get_set, Nat.reduceEqDiff, ↓reduceIte, evA, r0, r4, r6, r7, r8, r18, r19, r20] <;> rfl)) | (apply wantedZ; exact rfl; exact rfl; exact rfl; (simp only [T.get_set, Nat.reduceEqDiff, ↓reduceIte, evA, r0, r4, r6, r7, r8, r18, r19, r20] <;> rfl))); exact rfl)
              | (with_reducible apply aw_seq)
              | (with_reducible apply aw_regionL)
              | (with_reducible apply aw_block)
              | (with_reducible apply aw_scope)
              | (with_reducible apply aw_nil)
              | (with_reducible apply aw_then)
              | (with_reducible apply aw_thenR)
              | (with_reducible apply aw_thenE)
              | (with_reducible apply aw_blockR)
              | (with_reducible apply aw_blockN)
              | (with_reducible apply aw_blockE)
              | (with_reducible apply aw_ret)
              | (with_reducible apply aw_exit)
              | (with_reducible apply aw_skip)
              | ((with_reducible apply aw_condT); (first | exact rfl | (simp only [T.get_set, Nat.reduceEqDiff, ↓reduceIte, evA, r0, r4, r6, r7, r8, r18, r19, r20] <;> rfl)))
              | ((with_reducible apply aw_condF); (first | exact rfl | (simp only [T.get_set, Nat.reduceEqDiff, ↓reduceIte, evA, r0, r4, r6, r7, r8, r18, r19, r20] <;> rfl)))
              | ((with_reducible apply aw_drawL); (simp only [List.zipIdx_cons, List.zipIdx_nil, Nat.zero_add, Nat.reduceAdd] <;> rfl); kernel_rfl; kernel_rfl)
              | (with_reducible apply dw_nil)
              | fail)

            refine ⟨rfl, _, (by simp only [res16, resultsA, resultA, List.getElem?_toArray, List.toList_toArray, bin_eql, bin_neq, bin_lss, bin_leq, bin_gtr, bin_geq, bin_add, bin_sub, bin_mul, un_not, unA, AHeap.get_bump, AHeap.next_bump, opK0, kMove, kPick, kAlloc, kBox, kBuild, kBuildSlice, kLoad, kStore, kNilCheck, kBinOp, kUnOp, kFieldAddr, kField, kIndexAddr, kIndex, kLookup, kMapUpdate, kMakeMap, kExtract, kSlice, kCall, lenA, evA, evAs, evParts, toAV, toAV0, toAVs, T.get_set, T.get_nil, Nat.reduceAdd, Nat.reduceMul, Nat.reduceEqDiff, Nat.zero_add, Nat.add_zero, Nat.mul_one, Nat.zero_mul, AV.cells, List.all_cons, List.all_nil, AV.scalar, Bool.and_true, Bool.true_and, ↓reduceIte, if_true, und_all, Tryd.underlying3, Tryd.underlying4, Tryd.underlying5, Tryd.underlying9, Tryd.underlying23, Tryd.underlying24, Tryd.underlying31, Tryd.underlying38, Tryd.underlying39, Tryd.underlying40, Tryd.underlying41, Tryd.underlying42, Tryd.underlying45, Tryd.underlying46, Tryd.underlying48, Tryd.underlying50, Tryd.underlying55, Tryd.underlying57, Tryd.underlying67, siz3, agg3, zer3, byt3, siz4, agg4, zer4, byt4, siz5, agg5, zer5, byt5, siz9, agg9, zer9, byt9, siz23, agg23, zer23, byt23, siz24, agg24, zer24, byt24, siz31, agg31, zer31, byt31, siz38, agg38, zer38, byt38, siz39, agg39, zer39, byt39, siz40, agg40, zer40, byt40, siz41, agg41, zer41, byt41, siz42, agg42, zer42, byt42, siz45, agg45, zer45, byt45, siz46, agg46, zer46, byt46, siz48, agg48, zer48, byt48, siz50, agg50, zer50, byt50, siz55, agg55, zer55, byt55, siz57, agg57, zer57, byt57, siz67, agg67, zer67, byt67, AHeap.get_alloc, AHeap.get_set, AHeap.next_alloc, AHeap.next_set, AHeap.loadCells, AHeap.load1, AHeap.storeCells, List.getElem?_cons_zero, List.getElem?_cons_succ, List.length_cons, List.length_nil, List.drop_zero, List.take_succ_cons, List.take_zero, List.drop_succ_cons, List.drop_nil, List.take_nil, List.append_nil, List.cons_append, List.nil_append, binA, isConstO, keyOk, ents_some, Bool.or_true, Bool.or_false, Bool.true_or, Bool.false_or, wantedA, dstOk, Option.bind_some, List.append_nil, decide_true, decide_false, beq_self_eq_true, Bool.not_true, Bool.not_false, Bool.false_eq_true, if_false, List.zipIdx_cons, reid, toAV, Int.toNat_natCast, Int.natCast_one, Int.natCast_zero, c4, r0, r4, r6, r7, r8, r18, r19, r20] <;> rfl), ?_, ?_⟩
            · simp only [layF, hgo, hstep]; rfl
            · skip
              try dsimp only
              repeat (first | exact Keep.refl _ | exact kG | (with_reducible apply Keep.bump) | (with_reducible apply Keep.alloc) | ((with_reducible apply Keep.set); (first | exact Nat.le_refl _ | (have := Keep.next kG; omega)); ((try simp only [AHeap.next_alloc, AHeap.next_bump, AHeap.next_set]); have := Keep.next kG; omega)))

          · have g5 : (er == 5) = false := by simpa using h5
            rw [if_neg h5] at hs0
            by_cases hl : s.long = true
            · rw [if_pos (.inl hl)] at hs0
              rw [hl] at r8
              repeat (first
                | ((first | ((with_reducible apply wpOps_valT); (first | exact rfl | (apply wantedGT; exact rfl; exact rfl; exact rfl; (simp only [T.get_set, Nat.reduceEqDiff, ↓reduceIte, evA, r0, r4, r6, r7, r8, r18, r19, r20] <;> rfl))); exact rfl) | ((with_reducible apply wpOps_storeN); (first | exact rfl | (apply wantedGT; exact rfl; exact rfl; exact rfl; (simp only [T.get_set, Nat.reduceEqDiff, ↓reduceIte, evA, r0, r4, r6, r7, r8, r18, r19, r20] <;> rfl))); exact rfl) | ((with_reducible apply dw_pureT); (first | exact rfl | (apply wantedGT; exact rfl; exact rfl; exact rfl; (simp only [T.get_set, Nat.reduceEqDiff, ↓reduceIte, evA, r0, r4, r6, r7, r8, r18, r19, r20] <;> rfl))); exact rfl; exact rfl) | ((with_reducible apply dw_readT); (first | exact rfl | (apply wantedGT; exact rfl; exact rfl; exact rfl; (simp only [T.get_set, Nat.reduceEqDiff, ↓reduceIte, evA, r0, r4, r6, r7, r8, r18, r19, r20] <;> rfl))); exact rfl; exact rfl)); (simp only [List.getElem?_toArray, List.toList_toArray, bin_eql, bin_neq, bin_lss, bin_leq, bin_gtr, bin_geq, bin_add, bin_sub, bin_mul, un_not, unA, AHeap.get_bump, AHeap.next_bump, opK0, kMove, kPick, kAlloc, kBox, kBuild, kBuildSlice, kLoad, kStore, kNilCheck, kBinOp, kUnOp, kFieldAddr, kField, kIndexAddr, kIndex, kLookup, kMapUpdate, kMakeMap, kExtract, kSlice, kCall, lenA, evA, evAs, evParts, toAV, toAV0, toAVs, T.get_set, T.get_nil, Nat.reduceAdd, Nat.reduceMul, Nat.reduceEqDiff, Nat.zero_add, Nat.add_zero, Nat.mul_one, Nat.zero_mul, AV.cells, List.all_cons, List.all_nil, AV.scalar, Bool.and_true, Bool.true_and, ↓reduceIte, if_true, und_all, Tryd.underlying3, Tryd.underlying4, Tryd.underlying5, Tryd.underlying9, Tryd.underlying23, Tryd.underlying24, Tryd.underlying31, Tryd.underlying38, Tryd.underlying39, Tryd.underlying40, Tryd.underlying41, Tryd.underlying42, Tryd.underlying45, Tryd.underlying46, Tryd.underlying48, Tryd.underlying50, Tryd.underlying55, Tryd.underlying57, Tryd.underlying67, siz3, agg3, zer3, byt3, siz4, agg4, zer4, byt4, siz5, agg5, zer5, byt5, siz9, agg9, zer9, byt9, siz23, agg23, zer23, byt23, siz24, agg24, zer24, byt24, siz31, agg31, zer31, byt31, siz38, agg38, zer38, byt38, siz39, agg39, zer39, byt39, siz40, agg40, zer40, byt40, siz41, agg41, zer41, byt41, siz42, agg42, zer42, byt42, siz45, agg45, zer45, byt45, siz46, agg46, zer46, byt46, siz48, agg48, zer48, byt48, siz50, agg50, zer50, byt50, siz55, agg55, zer55, byt55, siz57, agg57, zer57, byt57, siz67, agg67, zer67, byt67, AHeap.get_alloc, AHeap.get_set, AHeap.next_alloc, AHeap.next_set, AHeap.loadCells, AHeap.load1, AHeap.storeCells, List.getElem?_cons_zero, List.getElem?_cons_succ, List.length_cons, List.length_nil, List.drop_zero, List.take_succ_cons, List.take_zero, List.drop_succ_cons, List.drop_nil, List.take_nil, List.append_nil, List.cons_append, List.nil_append, binA, isConstO, keyOk, ents_some, Bool.or_true, Bool.or_false, Bool.true_or, Bool.false_or, wantedA, dstOk, Option.bind_some, List.append_nil, decide_true, decide_false, beq_self_eq_true, Bool.not_true, Bool.not_false, Bool.false_eq_true, if_false, List.zipIdx_cons, reid, toAV, Int.toNat_natCast, Int.natCast_one, Int.natCast_zero, c4, c6, c7, c10, g5, wi, r0, r4, r6, r7, r8, r18, r19, r20] <;> rfl))
                | ((with_reducible apply wpOps_skipT); (first | exact rfl | (apply wantedGF; exact rfl; exact rfl; exact rfl; (simp only [T.get_set, Nat.reduceEqDiff, ↓reduceIte, evA, r0, r4, r6, r7, r8, r18, r19, r20] <;> rfl)) | (apply wantedZ; exact rfl; exact rfl; exact rfl; (simp only [T.get_set, Nat.reduceEqDiff, ↓reduceIte, evA, r0, r4, r6, r7, r8, r18, r19, r20] <;> rfl))); exact rfl)
                | ((with_reducible apply wpOps_skipN); (first | exact rfl | (apply wantedGF; exact rfl; exact rfl; exact rfl; (simp only [T.get_set, Nat.reduceEqDiff, ↓reduceIte, evA, r0, r4, r6, r7, r8, r18, r19, r20] <;> rfl)) | (apply wantedZ; exact rfl; exact rfl; exact rfl; (simp only [T.get_set, Nat.reduceEqDiff, ↓reduceIte, evA, r0, r4, r6, r7, r8, r18, r19, r20] <;> rfl))); exact rfl)
                | ((with_reducible apply dw_skipT); (first | exact rfl | (apply wantedGF; exact rfl; exact rfl; exact rfl; (simp only [T.get_set, Nat.reduceEqDiff, ↓reduceIte, evA, r0, r4, r6, r7, r8, r18, r19, r20] <;> rfl)) | (apply wantedZ; exact rfl; exact rfl; exact rfl; (simp only [T.get_set, Nat.reduceEqDiff, ↓reduceIte, evA, r0, r4, r6, r7, r8, r18, r19, r20] <;> rfl))); exact rfl)
                | (with_reducible apply aw_seq)
                | (with_reducible apply aw_regionL)
                | (with_reducible apply aw_block)
                | (with_reducible apply aw_scope)
                | (with_reducible apply aw_nil)
                | (with_reducible apply aw_then)
                | (with_reducible apply aw_thenR)
                | (with_reducible apply aw_thenE)
                | (with_reducible apply aw_blockR)
                | (with_reducible apply aw_blockN)
                | (with_reducible apply aw_blockE)
                | (with_reducible apply aw_ret)
                | (with_reducible apply aw_exit)
                | (with_reducible apply aw_skip)
                | ((with_reducible apply aw_condT); (first | exact rfl | (simp only [T.get_set, Nat.reduceEqDiff, ↓reduceIte, evA, r0, r4, r6, r7, r8, r18, r19, r20] <;> rfl)))
                | ((with_reducible apply aw_condF); (first | exact rfl | (simp only [T.get_set, Nat.reduceEqDiff, ↓reduceIte, evA, r0, r4, r6, r7, r8, r18, r19, r20] <;> rfl)))
                | ((with_reducible apply aw_drawL); (simp only [List.zipIdx_cons, List.zipIdx_nil, Nat.zero_add, Nat.reduceAdd] <;> rfl); kernel_rfl; kernel_rfl)
                | (with_reducible apply dw_nil)
                | fail)

              refine ⟨fs.length - (i + 1), by omega, i + 1, _, hlt, rfl, by rw [hgo, hs0], hgood _ hs0, ?_⟩
              exact ⟨rfl, rfl, rfl, by (first | exact rfl | (simp only [T.get_set, Nat.reduceEqDiff, ↓reduceIte, evA, r0, r4, r6, r7, r8, r18, r19, r20] <;> rfl)), by (first | exact rfl | (simp only [T.get_set, Nat.reduceEqDiff, ↓reduceIte, evA, r0, r4, r6, r7, r8, r18, r19, r20] <;> rfl)), by (first | exact rfl | (simp only [T.get_set, Nat.reduceEqDiff, ↓reduceIte, evA, r0, r4, r6, r7, r8, r18, r19, r20] <;> rfl)), by (first | exact rfl | (simp only [T.get_set, Nat.reduceEqDiff, ↓reduceIte, evA, r0, r4, r6, r7, r8, r18, r19, r20] <;> rfl)), by (first | exact rfl | (simp only [T.get_set, Nat.reduceEqDiff, ↓reduceIte, evA, r0, r4, r6, r7, r8, r18, r19, r20] <;> rfl)), by (first | exact rfl | (simp only [T.get_set, Nat.reduceEqDiff, ↓reduceIte, evA, r0, r4, r6, r7, r8, r18, r19, r20] <;> rfl)), by (first | exact rfl | (simp only [T.get_set, Nat.reduceEqDiff, ↓reduceIte, evA, r0, r4, r6, r7, r8, r18, r19, r20] <;> rfl)), by (first | exact rfl | (simp only [T.get_set, Nat.reduceEqDiff, ↓reduceIte, evA, r0, r4, r6, r7, r8, r18, r19, r20] <;> rfl)), c4, c6, ⟨sl, c7, hpl⟩, kG, nx'⟩

            · have hl' : s.long = false := by simpa using hl
              rw [hl'] at r8
              by_cases h2 : er = 2
              · rw [if_pos (.inr h2)] at hs0
                subst h2
                repeat (first
                  | ((first | ((with_reducible apply wpOps_valT); (first | exact rfl | (apply wantedGT; exact rfl; exact rfl; exact rfl; (simp only [T.get_set, Nat.reduceEqDiff, ↓reduceIte, evA, r0, r4, r6, r7, r8, r18, r19, r20] <;> rfl))); exact rfl) | ((with_reducible apply wpOps_storeN); (first | exact rfl | (apply wantedGT; exact rfl; exact rfl; exact rfl; (simp only [T.get_set, Nat.reduceEqDiff, ↓reduceIte, evA, r0, r4, r6, r7, r8, r18, r19, r20] <;> rfl))); exact rfl) | ((with_reducible apply dw_pureT); (first | exact rfl | (apply wantedGT; exact rfl; exact rfl; exact rfl; (simp only [T.get_set, Nat.reduceEqDiff, ↓reduceIte, evA, r0, r4, r6, r7, r8, r18, r19, r20] <;> rfl))); exact rfl; exact rfl) | ((with_reducible apply dw_readT); (first | exact rfl | (apply wantedGT; exact rfl; exact rfl; exact rfl; (simp only [T.get_set, Nat.reduceEqDiff, ↓reduceIte, evA, r0, r4, r6, r7, r8, r18, r19, r20] <;> rfl))); exact rfl; exact rfl)); (simp only [List.getElem?_toArray, List.toList_toArray, bin_eql, bin_neq, bin_lss, bin_leq, bin_gtr, bin_geq, bin_add, bin_sub, bin_mul, un_not, unA, AHeap.get_bump, AHeap.next_bump, opK0, kMove, kPick, kAlloc, kBox, kBuild, kBuildSlice, kLoad, kStore, kNilCheck, kBinOp, kUnOp, kFieldAddr, kField, kIndexAddr, kIndex, kLookup, kMapUpdate, kMakeMap, kExtract, kSlice, kCall, lenA, evA, evAs, evParts, toAV, toAV0, toAVs, T.get_set, T.get_nil, Nat.reduceAdd, Nat.reduceMul, Nat.reduceEqDiff, Nat.zero_add, Nat.add_zero, Nat.mul_one, Nat.zero_mul, AV.cells, List.all_cons, List.all_nil, AV.scalar, Bool.and_true, Bool.true_and, ↓reduceIte, if_true, und_all, Tryd.underlying3, Tryd.underlying4, Tryd.underlying5, Tryd.underlying9, Tryd.underlying23, Tryd.underlying24, Tryd.underlying31, Tryd.underlying38, Tryd.underlying39, Tryd.underlying40, Tryd.underlying41, Tryd.underlying42, Tryd.underlying45, Tryd.underlying46, Tryd.underlying48, Tryd.underlying50, Tryd.underlying55, Tryd.underlying57, Tryd.underlying67, siz3, agg3, zer3, byt3, siz4, agg4, zer4, byt4, siz5, agg5, zer5, byt5, siz9, agg9, zer9, byt9, siz23, agg23, zer23, byt23, siz24, agg24, zer24, byt24, siz31, agg31, zer31, byt31, siz38, agg38, zer38, byt38, siz39, agg39, zer39, byt39, siz40, agg40, zer40, byt40, siz41, agg41, zer41, byt41, siz42, agg42, zer42, byt42, siz45, agg45, zer45, byt45, siz46, agg46, zer46, byt46, siz48, agg48, zer48, byt48, siz50, agg50, zer50, byt50, siz55, agg55, zer55, byt55, siz57, agg57, zer57, byt57, siz67, agg67, zer67, byt67, AHeap.get_alloc, AHeap.get_set, AHeap.next_alloc, AHeap.next_set, AHeap.loadCells, AHeap.load1, AHeap.storeCells, List.getElem?_cons_zero, List.getElem?_cons_succ, List.length_cons, List.length_nil, List.drop_zero, List.take_succ_cons, List.take_zero, List.drop_succ_cons, List.drop_nil, List.take_nil, List.append_nil, List.cons_append, List.nil_append, binA, isConstO, keyOk, ents_some, Bool.or_true, Bool.or_false, Bool.true_or, Bool.false_or, wantedA, dstOk, Option.bind_some, List.append_nil, decide_true, decide_false, beq_self_eq_true, Bool.not_true, Bool.not_false, Bool.false_eq_true, if_false, List.zipIdx_cons, reid, toAV, Int.toNat_natCast, Int.natCast_one, Int.natCast_zero, c4, c6, c7, c10, g5, wi, r0, r4, r6, r7, r8, r18, r19, r20] <;> rfl))
                  | ((with_reducible apply wpOps_skipT); (first | exact rfl | (apply wantedGF; exact rfl; exact rfl; exact rfl; (simp only [T.get_set, Nat.reduceEqDiff, ↓reduceIte, evA, r0, r4, r6, r7, r8, r18, r19, r20] <;> rfl)) | (apply wantedZ; exact rfl; exact rfl; exact rfl; (simp only [T.get_set, Nat.reduceEqDiff, ↓reduceIte, evA, r0, r4, r6, r7, r8, r18, r19, r20] <;> rfl))); exact rfl)
                  | ((with_reducible apply wpOps_skipN); (first | exact rfl | (apply wantedGF; exact rfl; exact rfl; exact rfl; (simp only [T.get_set, Nat.reduceEqDiff, ↓reduceIte, evA, r0, r4, r6, r7, r8, r18, r19, r20] <;> rfl)) | (apply wantedZ; exact rfl; exact rfl; exact rfl; (simp only [T.get_set, Nat.reduceEqDiff, ↓reduceIte, evA, r0, r4, r6, r7, r8, r18, r19, r20] <;> rfl))); exact rfl)
                  | ((with_reducible apply dw_skipT); (first | exact rfl | (apply wantedGF; exact rfl; exact rfl; exact rfl; (simp only [T.get_set, Nat.reduceEqDiff, ↓reduceIte, evA, r0, r4, r6, r7, r8, r18, r19, r20] <;> rfl)) | (apply wantedZ; exact rfl; exact rfl; exact rfl; (simp only [T.get_set, Nat.reduceEqDiff, ↓reduceIte, evA, r0, r4, r6, r7, r8, r18, r19, r20] <;> rfl))); exact rfl)
                  | (with_reducible apply aw_seq)
                  | (with_reducible apply aw_regionL)
                  | (with_reducible apply aw_block)
                  | (with_reducible apply aw_scope)
                  | (with_reducible apply aw_nil)
                  | (with_reducible apply aw_then)
                  | (with_reducible apply aw_thenR)
                  | (with_reducible apply aw_thenE)
                  | (with_reducible apply aw_blockR)
                  | (with_reducible apply aw_blockN)
                  | (with_reducible apply aw_blockE)
                  | (with_reducible apply aw_ret)
                  | (with_reducible apply aw_exit)
                  | (with_reducible apply aw_skip)
                  | ((with_reducible apply aw_condT); (first | exact rfl | (simp only [T.get_set, Nat.reduceEqDiff, ↓reduceIte, evA, r0, r4, r6, r7, r8, r18, r19, r20] <;> rfl)))
                  | ((with_reducible apply aw_condF); (first | exact rfl | (simp only [T.get_set, Nat.reduceEqDiff, ↓reduceIte, evA, r0, r4, r6, r7, r8, r18, r19, r20] <;> rfl)))
                  | ((with_reducible apply aw_drawL); (simp only [List.zipIdx_cons, List.zipIdx_nil, Nat.zero_add, Nat.reduceAdd] <;> rfl); kernel_rfl; kernel_rfl)
                  | (with_reducible apply dw_nil)
                  | fail)

                refine ⟨fs.length - (i + 1), by omega, i + 1, _, hlt, rfl, by rw [hgo, hs0], hgood _ hs0, ?_⟩
                exact ⟨rfl, rfl, rfl, by (first | exact rfl | (simp only [T.get_set, Nat.reduceEqDiff, ↓reduceIte, evA, r0, r4, r6, r7, r8, r18, r19, r20] <;> rfl)), by (first | exact rfl | (simp only [T.get_set, Nat.reduceEqDiff, ↓reduceIte, evA, r0, r4, r6, r7, r8, r18, r19, r20] <;> rfl)), by (first | exact rfl | (simp only [T.get_set, Nat.reduceEqDiff, ↓reduceIte, evA, r0, r4, r6, r7, r8, r18, r19, r20] <;> rfl)), by (first | exact rfl | (simp only [T.get_set, Nat.reduceEqDiff, ↓reduceIte, evA, r0, r4, r6, r7, r8, r18, r19, r20] <;> rfl)), by (first | exact rfl | (simp only [T.get_set, Nat.reduceEqDiff, ↓reduceIte, evA, r0, r4, r6, r7, r8, r18, r19, r20] <;> rfl)), by (first | exact rfl | (simp only [T.get_set, Nat.reduceEqDiff, ↓reduceIte, evA, r0, r4, r6, r7, r8, r18, r19, r20] <;> rfl)), by (first | exact rfl | (simp only [T.get_set, Nat.reduceEqDiff, ↓reduceIte, evA, r0, r4, r6, r7, r8, r18, r19, r20] <;> rfl)), by (first | exact rfl | (simp only [T.get_set, Nat.reduceEqDiff, ↓reduceIte, evA, r0, r4, r6, r7, r8, r18, r19, r20] <;> rfl)), c4, c6, ⟨sl, c7, hpl⟩, kG, nx'⟩

              · have g2' : (er == 2) = false := by simpa using h2
                have h0 : er = 0 := by omega
                rw [if_neg (by rw [hl']; simpa using h2)] at hs0
                subst h0
                obtain ⟨b1, b2, b3⟩ := e2 rfl
                obtain ⟨w1, w2, w3, w4⟩ := upTo_wrap hg.lo hg.hi b3
                obtain ⟨u1, u2, u3⟩ := upTo_ge hg.lo b3
                have hsh := hg.sh hl'
                have hlo := hg.lo
                have hln := hg.ln
                have nz : al ≠ 0 := by omega
                have w5 : IntKind.wrap .i64 (upTo s.size al + sz) = upTo s.size al + sz := wr (by omega) (by omega)
                have mx : (if al > s.align then al else s.align) = max s.align al := by
                  split <;> omega
                repeat (first
                  | ((first | ((with_reducible apply wpOps_valT); (first | exact rfl | (apply wantedGT; exact rfl; exact rfl; exact rfl; (simp only [T.get_set, Nat.reduceEqDiff, ↓reduceIte, evA, r0, r4, r6, r7, r8, r18, r19, r20] <;> rfl))); exact rfl) | ((with_reducible apply wpOps_storeN); (first | exact rfl | (apply wantedGT; exact rfl; exact rfl; exact rfl; (simp only [T.get_set, Nat.reduceEqDiff, ↓reduceIte, evA, r0, r4, r6, r7, r8, r18, r19, r20] <;> rfl))); exact rfl) | ((with_reducible apply dw_pureT); (first | exact rfl | (apply wantedGT; exact rfl; exact rfl; exact rfl; (simp only [T.get_set, Nat.reduceEqDiff, ↓reduceIte, evA, r0, r4, r6, r7, r8, r18, r19, r20] <;> rfl))); exact rfl; exact rfl) | ((with_reducible apply dw_readT); (first | exact rfl | (apply wantedGT; exact rfl; exact rfl; exact rfl; (simp only [T.get_set, Nat.reduceEqDiff, ↓reduceIte, evA, r0, r4, r6, r7, r8, r18, r19, r20] <;> rfl))); exact rfl; exact rfl)); (simp only [List.getElem?_toArray, List.toList_toArray, bin_eql, bin_neq, bin_lss, bin_leq, bin_gtr, bin_geq, bin_add, bin_sub, bin_mul, un_not, unA, AHeap.get_bump, AHeap.next_bump, opK0, kMove, kPick, kAlloc, kBox, kBuild, kBuildSlice, kLoad, kStore, kNilCheck, kBinOp, kUnOp, kFieldAddr, kField, kIndexAddr, kIndex, kLookup, kMapUpdate, kMakeMap, kExtract, kSlice, kCall, lenA, evA, evAs, evParts, toAV, toAV0, toAVs, T.get_set, T.get_nil, Nat.reduceAdd, Nat.reduceMul, Nat.reduceEqDiff, Nat.zero_add, Nat.add_zero, Nat.mul_one, Nat.zero_mul, AV.cells, List.all_cons, List.all_nil, AV.scalar, Bool.and_true, Bool.true_and, ↓reduceIte, if_true, und_all, Tryd.underlying3, Tryd.underlying4, Tryd.underlying5, Tryd.underlying9, Tryd.underlying23, Tryd.underlying24, Tryd.underlying31, Tryd.underlying38, Tryd.underlying39, Tryd.underlying40, Tryd.underlying41, Tryd.underlying42, Tryd.underlying45, Tryd.underlying46, Tryd.underlying48, Tryd.underlying50, Tryd.underlying55, Tryd.underlying57, Tryd.underlying67, siz3, agg3, zer3, byt3, siz4, agg4, zer4, byt4, siz5, agg5, zer5, byt5, siz9, agg9, zer9, byt9, siz23, agg23, zer23, byt23, siz24, agg24, zer24, byt24, siz31, agg31, zer31, byt31, siz38, agg38, zer38, byt38, siz39, agg39, zer39, byt39, siz40, agg40, zer40, byt40, siz41, agg41, zer41, byt41, siz42, agg42, zer42, byt42, siz45, agg45, zer45, byt45, siz46, agg46, zer46, byt46, siz48, agg48, zer48, byt48, siz50, agg50, zer50, byt50, siz55, agg55, zer55, byt55, siz57, agg57, zer57, byt57, siz67, agg67, zer67, byt67, AHeap.get_alloc, AHeap.get_set, AHeap.next_alloc, AHeap.next_set, AHeap.loadCells, AHeap.load1, AHeap.storeCells, List.getElem?_cons_zero, List.getElem?_cons_succ, List.length_cons, List.length_nil, List.drop_zero, List.take_succ_cons, List.take_zero, List.drop_succ_cons, List.drop_nil, List.take_nil, List.append_nil, List.cons_append, List.nil_append, binA, isConstO, keyOk, ents_some, Bool.or_true, Bool.or_false, Bool.true_or, Bool.false_or, wantedA, dstOk, Option.bind_some, List.append_nil, decide_true, decide_false, beq_self_eq_true, Bool.not_true, Bool.not_false, Bool.false_eq_true, if_false, List.zipIdx_cons, reid, toAV, Int.toNat_natCast, Int.natCast_one, Int.natCast_zero, c4, c6, c7, c10, g5, g2', wi, w1, w2, w3, w4, w5, mx, bin_quo nz, r0, r4, r6, r7, r8, r18, r19, r20] <;> rfl))
                  | ((with_reducible apply wpOps_skipT); (first | exact rfl | (apply wantedGF; exact rfl; exact rfl; exact rfl; (simp only [T.get_set, Nat.reduceEqDiff, ↓reduceIte, evA, r0, r4, r6, r7, r8, r18, r19, r20] <;> rfl)) | (apply wantedZ; exact rfl; exact rfl; exact rfl; (simp only [T.get_set, Nat.reduceEqDiff, ↓reduceIte, evA, r0, r4, r6, r7, r8, r18, r19, r20] <;> rfl))); exact rfl)
                  | ((with_reducible apply wpOps_skipN); (first | exact rfl | (apply wantedGF; exact rfl; exact rfl; exact rfl; (simp only [T.get_set, Nat.reduceEqDiff, ↓reduceIte, evA, r0, r4, r6, r7, r8, r18, r19, r20] <;> rfl)) | (apply wantedZ; exact rfl; exact rfl; exact rfl; (simp only [T.get_set, Nat.reduceEqDiff, ↓reduceIte, evA, r0, r4, r6, r7, r8, r18, r19, r20] <;> rfl))); exact rfl)
                  | ((with_reducible apply dw_skipT); (first | exact rfl | (apply wantedGF; exact rfl; exact rfl; exact rfl; (simp only [T.get_set, Nat.reduceEqDiff, ↓reduceIte, evA, r0, r4, r6, r7, r8, r18, r19, r20] <;> rfl)) | (apply wantedZ; exact rfl; exact rfl; exact rfl; (simp only [T.get_set, Nat.reduceEqDiff, ↓reduceIte, evA, r0, r4, r6, r7, r8, r18, r19, r20] <;> rfl))); exact rfl)
                  | (with_reducible apply aw_seq)
                  | (with_reducible apply aw_regionL)
                  | (with_reducible apply aw_block)
                  | (with_reducible apply aw_scope)
                  | (with_reducible apply aw_nil)
                  | (with_reducible apply aw_then)
                  | (with_reducible apply aw_thenR)
                  | (with_reducible apply aw_thenE)
                  | (with_reducible apply aw_blockR)
                  | (with_reducible apply aw_blockN)
                  | (with_reducible apply aw_blockE)
                  | (with_reducible apply aw_ret)
                  | (with_reducible apply aw_exit)
                  | (with_reducible apply aw_skip)
                  | ((with_reducible apply aw_condT); (first | exact rfl | (simp only [T.get_set, Nat.reduceEqDiff, ↓reduceIte, evA, r0, r4, r6, r7, r8, r18, r19, r20] <;> rfl)))
                  | ((with_reducible apply aw_condF); (first | exact rfl | (simp only [T.get_set, Nat.reduceEqDiff, ↓reduceIte, evA, r0, r4, r6, r7, r8, r18, r19, r20] <;> rfl)))
                  | ((with_reducible apply aw_drawL); (simp only [List.zipIdx_cons, List.zipIdx_nil, Nat.zero_add, Nat.reduceAdd] <;> rfl); kernel_rfl; kernel_rfl)
                  | (with_reducible apply dw_nil)
                  | fail)

                refine wpOps_heap (fun X => Keep h X ∧ X.next = G'.next + 1 ∧ X.get G'.next = some (.cells true 3 (flat [⟨fn, ft, upTo s.size al⟩])) ∧ PlAt X sl s.ps (h.next + 4) ∧ X.get (h.next + 1) = some (.cells true 0 [.slice none 0, .int .i64 0, .int .i64 0]) ∧ X.get (h.next + 2) = some (.map (nmMap (s.met ++ [fn]))) ∧
                  X.get (h.next + 3) = some (.cells true 0 [sl, .int .i64 s.size, .int .i64 s.align])) ⟨?_, ?_, ?_, ?_, ?_, ?_, ?_⟩ ?_
                · skip
                  try dsimp only
                  repeat (first | exact Keep.refl _ | exact kG | (with_reducible apply Keep.bump) | (with_reducible apply Keep.alloc) | ((with_reducible apply Keep.set); (first | exact Nat.le_refl _ | (have := Keep.next kG; omega)); ((try simp only [AHeap.next_alloc, AHeap.next_bump, AHeap.next_set]); have := Keep.next kG; omega)))

                · rfl
                · skip
                  simp only [AHeap.get_alloc, AHeap.get_bump, AHeap.next_bump, AHeap.next_set, AHeap.next_alloc, AHeap.get_set]
                  repeat (first | rfl | assumption | exact if_pos trivial | exact if_pos rfl | (refine (if_pos trivial).trans ?_) | (refine (if_pos rfl).trans ?_) | (refine (if_neg (by omega)).trans ?_))

                · refine hpl.mono (Nat.le_refl _) (by simp only [AHeap.next_set, AHeap.next_alloc]; omega) fun j h1 h2 => ?_
                  simp only [AHeap.get_alloc, AHeap.get_bump, AHeap.next_bump, AHeap.next_set, AHeap.next_alloc, AHeap.get_set]
                  repeat (first | rfl | assumption | exact if_pos trivial | exact if_pos rfl | (refine (if_pos trivial).trans ?_) | (refine (if_pos rfl).trans ?_) | (refine (if_neg (by omega)).trans ?_))

                · skip
                  simp only [AHeap.get_alloc, AHeap.get_bump, AHeap.next_bump, AHeap.next_set, AHeap.next_alloc, AHeap.get_set]
                  repeat (first | rfl | assumption | exact if_pos trivial | exact if_pos rfl | (refine (if_pos trivial).trans ?_) | (refine (if_pos rfl).trans ?_) | (refine (if_neg (by omega)).trans ?_))

                · skip
                  simp only [AHeap.get_alloc, AHeap.get_bump, AHeap.next_bump, AHeap.next_set, AHeap.next_alloc, AHeap.get_set]
                  repeat (first | rfl | assumption | exact if_pos trivial | exact if_pos rfl | (refine (if_pos trivial).trans ?_) | (refine (if_pos rfl).trans ?_) | (refine (if_neg (by omega)).trans ?_))

                · skip
                  simp only [AHeap.get_alloc, AHeap.get_bump, AHeap.next_bump, AHeap.next_set, AHeap.next_alloc, AHeap.get_set]
                  repeat (first | rfl | assumption | exact if_pos trivial | exact if_pos rfl | (refine (if_pos trivial).trans ?_) | (refine (if_pos rfl).trans ?_) | (refine (if_neg (by omega)).trans ?_))

                clear c4 c6 c7 hpl
                rintro X ⟨kX, nX, cX, hpl, c4, c6, c7⟩
                obtain ⟨X', ap, a1, a2, a3, a4⟩ := append_pl (H := X) hpl cX rfl (by simp) (by simp only [List.length_cons, List.length_nil]; omega) (by omega)
                simp only [List.length_cons, List.length_nil, Nat.zero_add] at ap
                replace c4 := (a3 _ (by omega)).trans c4
                replace c6 := (a3 _ (by omega)).trans c6
                replace c7 := (a3 _ (by omega)).trans c7
                have kX' : Keep h X' := ⟨by have := kX.next; omega, fun i hi => (a3 i (by omega)).trans (kX.old i hi), fun hF i hi => a4 (kX.fresh hF) i hi⟩
                clear hpl
                repeat (first
                  | ((first | ((with_reducible apply wpOps_valT); (first | exact rfl | (apply wantedGT; exact rfl; exact rfl; exact rfl; (simp only [T.get_set, Nat.reduceEqDiff, ↓reduceIte, evA, r0, r4, r6, r7, r8, r18, r19, r20] <;> rfl))); exact rfl) | ((with_reducible apply wpOps_storeN); (first | exact rfl | (apply wantedGT; exact rfl; exact rfl; exact rfl; (simp only [T.get_set, Nat.reduceEqDiff, ↓reduceIte, evA, r0, r4, r6, r7, r8, r18, r19, r20] <;> rfl))); exact rfl) | ((with_reducible apply dw_pureT); (first | exact rfl | (apply wantedGT; exact rfl; exact rfl; exact rfl; (simp only [T.get_set, Nat.reduceEqDiff, ↓reduceIte, evA, r0, r4, r6, r7, r8, r18, r19, r20] <;> rfl))); exact rfl; exact rfl) | ((with_reducible apply dw_readT); (first | exact rfl | (apply wantedGT; exact rfl; exact rfl; exact rfl; (simp only [T.get_set, Nat.reduceEqDiff, ↓reduceIte, evA, r0, r4, r6, r7, r8, r18, r19, r20] <;> rfl))); exact rfl; exact rfl)); (simp only [List.getElem?_toArray, List.toList_toArray, bin_eql, bin_neq, bin_lss, bin_leq, bin_gtr, bin_geq, bin_add, bin_sub, bin_mul, un_not, unA, AHeap.get_bump, AHeap.next_bump, opK0, kMove, kPick, kAlloc, kBox, kBuild, kBuildSlice, kLoad, kStore, kNilCheck, kBinOp, kUnOp, kFieldAddr, kField, kIndexAddr, kIndex, kLookup, kMapUpdate, kMakeMap, kExtract, kSlice, kCall, lenA, evA, evAs, evParts, toAV, toAV0, toAVs, T.get_set, T.get_nil, Nat.reduceAdd, Nat.reduceMul, Nat.reduceEqDiff, Nat.zero_add, Nat.add_zero, Nat.mul_one, Nat.zero_mul, AV.cells, List.all_cons, List.all_nil, AV.scalar, Bool.and_true, Bool.true_and, ↓reduceIte, if_true, und_all, Tryd.underlying3, Tryd.underlying4, Tryd.underlying5, Tryd.underlying9, Tryd.underlying23, Tryd.underlying24, Tryd.underlying31, Tryd.underlying38, Tryd.underlying39, Tryd.underlying40, Tryd.underlying41, Tryd.underlying42, Tryd.underlying45, Tryd.underlying46, Tryd.underlying48, Tryd.underlying50, Tryd.underlying55, Tryd.underlying57, Tryd.underlying67, siz3, agg3, zer3, byt3, siz4, agg4, zer4, byt4, siz5, agg5, zer5, byt5, siz9, agg9, zer9, byt9, siz23, agg23, zer23, byt23, siz24, agg24, zer24, byt24, siz31, agg31, zer31, byt31, siz38, agg38, zer38, byt38, siz39, agg39, zer39, byt39, siz40, agg40, zer40, byt40, siz41, agg41, zer41, byt41, siz42, agg42, zer42, byt42, siz45, agg45, zer45, byt45, siz46, agg46, zer46, byt46, siz48, agg48, zer48, byt48, siz50, agg50, zer50, byt50, siz55, agg55, zer55, byt55, siz57, agg57, zer57, byt57, siz67, agg67, zer67, byt67, AHeap.get_alloc, AHeap.get_set, AHeap.next_alloc, AHeap.next_set, AHeap.loadCells, AHeap.load1, AHeap.storeCells, List.getElem?_cons_zero, List.getElem?_cons_succ, List.length_cons, List.length_nil, List.drop_zero, List.take_succ_cons, List.take_zero, List.drop_succ_cons, List.drop_nil, List.take_nil, List.append_nil, List.cons_append, List.nil_append, binA, isConstO, keyOk, ents_some, Bool.or_true, Bool.or_false, Bool.true_or, Bool.false_or, wantedA, dstOk, Option.bind_some, List.append_nil, decide_true, decide_false, beq_self_eq_true, Bool.not_true, Bool.not_false, Bool.false_eq_true, if_false, List.zipIdx_cons, reid, toAV, Int.toNat_natCast, Int.natCast_one, Int.natCast_zero, c4, c6, c7, c10, g5, g2', wi, w1, w2, w3, w4, w5, mx, bin_quo nz, ap, r0, r4, r6, r7, r8, r18, r19, r20] <;> rfl))
                  | ((with_reducible apply wpOps_skipT); (first | exact rfl | (apply wantedGF; exact rfl; exact rfl; exact rfl; (simp only [T.get_set, Nat.reduceEqDiff, ↓reduceIte, evA, r0, r4, r6, r7, r8, r18, r19, r20] <;> rfl)) | (apply wantedZ; exact rfl; exact rfl; exact rfl; (simp only [T.get_set, Nat.reduceEqDiff, ↓reduceIte, evA, r0, r4, r6, r7, r8, r18, r19, r20] <;> rfl))); exact rfl)
                  | ((with_reducible apply wpOps_skipN); (first | exact rfl | (apply wantedGF; exact rfl; exact rfl; exact rfl; (simp only [T.get_set, Nat.reduceEqDiff, ↓reduceIte, evA, r0, r4, r6, r7, r8, r18, r19, r20] <;> rfl)) | (apply wantedZ; exact rfl; exact rfl; exact rfl; (simp only [T.get_set, Nat.reduceEqDiff, ↓reduceIte, evA, r0, r4, r6, r7, r8, r18, r19, r20] <;> rfl))); exact rfl)
                  | ((with_reducible apply dw_skipT); (first | exact rfl | (apply wantedGF; exact rfl; exact rfl; exact rfl; (simp only [T.get_set, Nat.reduceEqDiff, ↓reduceIte, evA, r0, r4, r6, r7, r8, r18, r19, r20] <;> rfl)) | (apply wantedZ; exact rfl; exact rfl; exact rfl; (simp only [T.get_set, Nat.reduceEqDiff, ↓reduceIte, evA, r0, r4, r6, r7, r8, r18, r19, r20] <;> rfl))); exact rfl)
                  | (with_reducible apply aw_seq)
                  | (with_reducible apply aw_regionL)
                  | (with_reducible apply aw_block)
                  | (with_reducible apply aw_scope)
                  | (with_reducible apply aw_nil)
                  | (with_reducible apply aw_then)
                  | (with_reducible apply aw_thenR)
                  | (with_reducible apply aw_thenE)
                  | (with_reducible apply aw_blockR)
                  | (with_reducible apply aw_blockN)
                  | (with_reducible apply aw_blockE)
                  | (with_reducible apply aw_ret)
                  | (with_reducible apply aw_exit)
                  | (with_reducible apply aw_skip)
                  | ((with_reducible apply aw_condT); (first | exact rfl | (simp only [T.get_set, Nat.reduceEqDiff, ↓reduceIte, evA, r0, r4, r6, r7, r8, r18, r19, r20] <;> rfl)))
                  | ((with_reducible apply aw_condF); (first | exact rfl | (simp only [T.get_set, Nat.reduceEqDiff, ↓reduceIte, evA, r0, r4, r6, r7, r8, r18, r19, r20] <;> rfl)))
                  | ((with_reducible apply aw_drawL); (simp only [List.zipIdx_cons, List.zipIdx_nil, Nat.zero_add, Nat.reduceAdd] <;> rfl); kernel_rfl; kernel_rfl)
                  | (with_reducible apply dw_nil)
                  | fail)

                refine ⟨fs.length - (i + 1), by omega, i + 1, _, hlt, rfl, by rw [hgo, hs0], hgood _ hs0, ?_⟩
                refine ⟨rfl, rfl, rfl, by (first | exact rfl | (simp only [T.get_set, Nat.reduceEqDiff, ↓reduceIte, evA, r0, r4, r6, r7, r8, r18, r19, r20] <;> rfl)), by (first | exact rfl | (simp only [T.get_set, Nat.reduceEqDiff, ↓reduceIte, evA, r0, r4, r6, r7, r8, r18, r19, r20] <;> rfl)), by (first | exact rfl | (simp only [T.get_set, Nat.reduceEqDiff, ↓reduceIte, evA, r0, r4, r6, r7, r8, r18, r19, r20] <;> rfl)), by (first | exact rfl | (simp only [T.get_set, Nat.reduceEqDiff, ↓reduceIte, evA, r0, r4, r6, r7, r8, r18, r19, r20] <;> rfl)), by (first | exact rfl | (simp only [T.get_set, Nat.reduceEqDiff, ↓reduceIte, evA, r0, r4, r6, r7, r8, r18, r19, r20] <;> rfl)), by (first | exact rfl | (simp only [T.get_set, Nat.reduceEqDiff, ↓reduceIte, evA, r0, r4, r6, r7, r8, r18, r19, r20] <;> rfl)), by (first | exact rfl | (simp only [T.get_set, Nat.reduceEqDiff, ↓reduceIte, evA, r0, r4, r6, r7, r8, r18, r19, r20] <;> rfl)), by (first | exact rfl | (simp only [T.get_set, Nat.reduceEqDiff, ↓reduceIte, evA, r0, r4, r6, r7, r8, r18, r19, r20] <;> rfl)), ?_, ?_, ?_, ?_, ?_⟩
                · skip
                  simp only [AHeap.get_alloc, AHeap.get_bump, AHeap.next_bump, AHeap.next_set, AHeap.next_alloc, AHeap.get_set]
                  repeat (first | rfl | assumption | exact if_pos trivial | exact if_pos rfl | (refine (if_pos trivial).trans ?_) | (refine (if_pos rfl).trans ?_) | (refine (if_neg (by omega)).trans ?_))

                · skip
                  simp only [AHeap.get_alloc, AHeap.get_bump, AHeap.next_bump, AHeap.next_set, AHeap.next_alloc, AHeap.get_set]
                  repeat (first | rfl | assumption | exact if_pos trivial | exact if_pos rfl | (refine (if_pos trivial).trans ?_) | (refine (if_pos rfl).trans ?_) | (refine (if_neg (by omega)).trans ?_))

                · refine ⟨.slice (some (X.next, 0)) (s.ps.length + 1), ?_, .inr ⟨X.next, ?_, ?_, by omega, ?_⟩⟩
                  · skip
                    simp only [AHeap.get_alloc, AHeap.get_bump, AHeap.next_bump, AHeap.next_set, AHeap.next_alloc, AHeap.get_set]
                    repeat (first | rfl | assumption | exact if_pos trivial | exact if_pos rfl | (refine (if_pos trivial).trans ?_) | (refine (if_pos rfl).trans ?_) | (refine (if_neg (by omega)).trans ?_))

                  · simp only [List.length_append, List.length_cons, List.length_nil]
                  · simp only [AHeap.get_set]
                    rw [if_neg (by omega), if_neg (by omega), if_neg (by omega)]; exact a1
                  · simp only [AHeap.next_set]; omega
                · skip
                  try dsimp only
                  repeat (first | exact Keep.refl _ | exact kX' | (with_reducible apply Keep.bump) | (with_reducible apply Keep.alloc) | ((with_reducible apply Keep.set); (first | exact Nat.le_refl _ | (have := Keep.next kX'; omega)); ((try simp only [AHeap.next_alloc, AHeap.next_bump, AHeap.next_set]); have := Keep.next kX'; omega)))

                · simp only [AHeap.next_set]; omega
      · have hstep : layStep names es s (fn, ft) = Option.none := by simp only [layStep, m1, if_true]
        repeat (first
          | ((first | ((with_reducible apply wpOps_valT); (first | exact rfl | (apply wantedGT; exact rfl; exact rfl; exact rfl; (simp only [T.get_set, Nat.reduceEqDiff, ↓reduceIte, evA, r0, r4, r6, r7, r8, r18, r19, r20] <;> rfl))); exact rfl) | ((with_reducible apply wpOps_storeN); (first | exact rfl | (apply wantedGT; exact rfl; exact rfl; exact rfl; (simp only [T.get_set, Nat.reduceEqDiff, ↓reduceIte, evA, r0, r4, r6, r7, r8, r18, r19, r20] <;> rfl))); exact rfl) | ((with_reducible apply dw_pureT); (first | exact rfl | (apply wantedGT; exact rfl; exact rfl; exact rfl; (simp only [T.get_set, Nat.reduceEqDiff, ↓reduceIte, evA, r0, r4, r6, r7, r8, r18, r19, r20] <;> rfl))); exact rfl; exact rfl) | ((with_reducible apply dw_readT); (first | exact rfl | (apply wantedGT; exact rfl; exact rfl; exact rfl; (simp only [T.get_set, Nat.reduceEqDiff, ↓reduceIte, evA, r0, r4, r6, r7, r8, r18, r19, r20] <;> rfl))); exact rfl; exact rfl)); (simp only [List.getElem?_toArray, List.toList_toArray, bin_eql, bin_neq, bin_lss, bin_leq, bin_gtr, bin_geq, bin_add, bin_sub, bin_mul, un_not, unA, AHeap.get_bump, AHeap.next_bump, opK0, kMove, kPick, kAlloc, kBox, kBuild, kBuildSlice, kLoad, kStore, kNilCheck, kBinOp, kUnOp, kFieldAddr, kField, kIndexAddr, kIndex, kLookup, kMapUpdate, kMakeMap, kExtract, kSlice, kCall, lenA, evA, evAs, evParts, toAV, toAV0, toAVs, T.get_set, T.get_nil, Nat.reduceAdd, Nat.reduceMul, Nat.reduceEqDiff, Nat.zero_add, Nat.add_zero, Nat.mul_one, Nat.zero_mul, AV.cells, List.all_cons, List.all_nil, AV.scalar, Bool.and_true, Bool.true_and, ↓reduceIte, if_true, und_all, Tryd.underlying3, Tryd.underlying4, Tryd.underlying5, Tryd.underlying9, Tryd.underlying23, Tryd.underlying24, Tryd.underlying31, Tryd.underlying38, Tryd.underlying39, Tryd.underlying40, Tryd.underlying41, Tryd.underlying42, Tryd.underlying45, Tryd.underlying46, Tryd.underlying48, Tryd.underlying50, Tryd.underlying55, Tryd.underlying57, Tryd.underlying67, siz3, agg3, zer3, byt3, siz4, agg4, zer4, byt4, siz5, agg5, zer5, byt5, siz9, agg9, zer9, byt9, siz23, agg23, zer23, byt23, siz24, agg24, zer24, byt24, siz31, agg31, zer31, byt31, siz38, agg38, zer38, byt38, siz39, agg39, zer39, byt39, siz40, agg40, zer40, byt40, siz41, agg41, zer41, byt41, siz42, agg42, zer42, byt42, siz45, agg45, zer45, byt45, siz46, agg46, zer46, byt46, siz48, agg48, zer48, byt48, siz50, agg50, zer50, byt50, siz55, agg55, zer55, byt55, siz57, agg57, zer57, byt57, siz67, agg67, zer67, byt67, AHeap.get_alloc, AHeap.get_set, AHeap.next_alloc, AHeap.next_set, AHeap.loadCells, AHeap.load1, AHeap.storeCells, List.getElem?_cons_zero, List.getElem?_cons_succ, List.length_cons, List.length_nil, List.drop_zero, List.take_succ_cons, List.take_zero, List.drop_succ_cons, List.drop_nil, List.take_nil, List.append_nil, List.cons_append, List.nil_append, binA, isConstO, keyOk, ents_some, Bool.or_true, Bool.or_false, Bool.true_or, Bool.false_or, wantedA, dstOk, Option.bind_some, List.append_nil, decide_true, decide_false, beq_self_eq_true, Bool.not_true, Bool.not_false, Bool.false_eq_true, if_false, List.zipIdx_cons, reid, toAV, Int.toNat_natCast, Int.natCast_one, Int.natCast_zero, g1, g2, g3, g4, ho', and_self, c6, q6, q4, q7, q8, c4, AHeap.get_set, m2, r0, r4, r6, r7, r8, r18, r19, r20] <;> rfl))
          | ((with_reducible apply wpOps_skipT); (first | exact rfl | (apply wantedGF; exact rfl; exact rfl; exact rfl; (simp only [T.get_set, Nat.reduceEqDiff, ↓reduceIte, evA, r0, r4, r6, r7, r8, r18, r19, r20] <;> rfl)) | (apply wantedZ; exact rfl; exact rfl; exact rfl; (simp only [T.get_set, Nat.reduceEqDiff, ↓reduceIte, evA, r0, r4, r6, r7, r8, r18, r19, r20] <;> rfl))); exact rfl)
          | ((with_reducible apply wpOps_skipN); (first | exact rfl | (apply wantedGF; exact rfl; exact rfl; exact rfl; (simp only [T.get_set, Nat.reduceEqDiff, ↓reduceIte, evA, r0, r4, r6, r7, r8, r18, r19, r20] <;> rfl)) | (apply wantedZ; exact rfl; exact rfl; exact rfl; (simp only [T.get_set, Nat.reduceEqDiff, ↓reduceIte, evA, r0, r4, r6, r7, r8, r18, r19, r20] <;> rfl))); exact rfl)
          | ((with_reducible apply dw_skipT); (first | exact rfl | (apply wantedGF; exact rfl; exact rfl; exact rfl; (simp only [T.get_set, Nat.reduceEqDiff, ↓reduceIte, evA, r0, r4, r6, r7, r8, r18, r19, r20] <;> rfl)) | (apply wantedZ; exact rfl; exact rfl; exact rfl; (simp only [T.get_set, Nat.reduceEqDiff, ↓reduceIte, evA, r0, r4, r6, r7, r8, r18, r19, r20] <;> rfl))); exact rfl)
          | (with_reducible apply aw_seq)
          | (with_reducible apply aw_regionL)
          | (with_reducible apply aw_block)
          | (with_reducible apply aw_scope)
          | (with_reducible apply aw_nil)
          | (with_reducible apply aw_then)
          | (with_reducible apply aw_thenR)
          | (with_reducible apply aw_thenE)
          | (with_reducible apply aw_blockR)
          | (with_reducible apply aw_blockN)
          | (with_reducible apply aw_blockE)
          | (with_reducible apply aw_ret)
          | (with_reducible apply aw_exit)
          | (with_reducible apply aw_skip)
          | ((with_reducible apply aw_condT); (first | exact rfl | (simp only [T.get_set, Nat.reduceEqDiff, ↓reduceIte, evA, r0, r4, r6, r7, r8, r18, r19, r20] <;> rfl)))
          | ((with_reducible apply aw_condF); (first | exact rfl | (simp only [T.get_set, Nat.reduceEqDiff, ↓reduceIte, evA, r0, r4, r6, r7, r8, r18, r19, r20] <;> rfl)))
          | ((with_reducible apply aw_drawL); (simp only [List.zipIdx_cons, List.zipIdx_nil, Nat.zero_add, Nat.reduceAdd] <;> rfl); kernel_rfl; kernel_rfl)
          | (with_reducible apply dw_nil)
          | fail)

        refine ⟨rfl, _, (by simp only [res16, resultsA, resultA, List.getElem?_toArray, List.toList_toArray, bin_eql, bin_neq, bin_lss, bin_leq, bin_gtr, bin_geq, bin_add, bin_sub, bin_mul, un_not, unA, AHeap.get_bump, AHeap.next_bump, opK0, kMove, kPick, kAlloc, kBox, kBuild, kBuildSlice, kLoad, kStore, kNilCheck, kBinOp, kUnOp, kFieldAddr, kField, kIndexAddr, kIndex, kLookup, kMapUpdate, kMakeMap, kExtract, kSlice, kCall, lenA, evA, evAs, evParts, toAV, toAV0, toAVs, T.get_set, T.get_nil, Nat.reduceAdd, Nat.reduceMul, Nat.reduceEqDiff, Nat.zero_add, Nat.add_zero, Nat.mul_one, Nat.zero_mul, AV.cells, List.all_cons, List.all_nil, AV.scalar, Bool.and_true, Bool.true_and, ↓reduceIte, if_true, und_all, Tryd.underlying3, Tryd.underlying4, Tryd.underlying5, Tryd.underlying9, Tryd.underlying23, Tryd.underlying24, Tryd.underlying31, Tryd.underlying38, Tryd.underlying39, Tryd.underlying40, Tryd.underlying41, Tryd.underlying42, Tryd.underlying45, Tryd.underlying46, Tryd.underlying48, Tryd.underlying50, Tryd.underlying55, Tryd.underlying57, Tryd.underlying67, siz3, agg3, zer3, byt3, siz4, agg4, zer4, byt4, siz5, agg5, zer5, byt5, siz9, agg9, zer9, byt9, siz23, agg23, zer23, byt23, siz24, agg24, zer24, byt24, siz31, agg31, zer31, byt31, siz38, agg38, zer38, byt38, siz39, agg39, zer39, byt39, siz40, agg40, zer40, byt40, siz41, agg41, zer41, byt41, siz42, agg42, zer42, byt42, siz45, agg45, zer45, byt45, siz46, agg46, zer46, byt46, siz48, agg48, zer48, byt48, siz50, agg50, zer50, byt50, siz55, agg55, zer55, byt55, siz57, agg57, zer57, byt57, siz67, agg67, zer67, byt67, AHeap.get_alloc, AHeap.get_set, AHeap.next_alloc, AHeap.next_set, AHeap.loadCells, AHeap.load1, AHeap.storeCells, List.getElem?_cons_zero, List.getElem?_cons_succ, List.length_cons, List.length_nil, List.drop_zero, List.take_succ_cons, List.take_zero, List.drop_succ_cons, List.drop_nil, List.take_nil, List.append_nil, List.cons_append, List.nil_append, binA, isConstO, keyOk, ents_some, Bool.or_true, Bool.or_false, Bool.true_or, Bool.false_or, wantedA, dstOk, Option.bind_some, List.append_nil, decide_true, decide_false, beq_self_eq_true, Bool.not_true, Bool.not_false, Bool.false_eq_true, if_false, List.zipIdx_cons, reid, toAV, Int.toNat_natCast, Int.natCast_one, Int.natCast_zero, c4, r0, r4, r6, r7, r8, r18, r19, r20] <;> rfl), ?_, ?_⟩
        · simp only [layF, hgo, hstep]; rfl
        · skip
          try dsimp only
          repeat (first | exact Keep.refl _ | exact k1 | (with_reducible apply Keep.bump) | (with_reducible apply Keep.alloc) | ((with_reducible apply Keep.set); (first | exact Nat.le_refl _ | (have := Keep.next k1; omega)); ((try simp only [AHeap.next_alloc, AHeap.next_bump, AHeap.next_set]); have := Keep.next k1; omega)))

    · have g1 : ((i : Int) < (fs.length : Int)) = False := eq_false (by omega)
      have g9 : fs.drop i = [] := List.drop_eq_nil_of_le (by omega)
      rw [g9, layGo] at hgo
      obtain ⟨w1, w2, w3, w4⟩ := upTo_wrap hg.lo hg.hi hg.al
      have nz : s.align ≠ 0 := by have := hg.al; omega
      repeat (first
        | ((first | ((with_reducible apply wpOps_valT); (first | exact rfl | (apply wantedGT; exact rfl; exact rfl; exact rfl; (simp only [T.get_set, Nat.reduceEqDiff, ↓reduceIte, evA, r0, r4, r6, r7, r8, r18, r19, r20] <;> rfl))); exact rfl) | ((with_reducible apply wpOps_storeN); (first | exact rfl | (apply wantedGT; exact rfl; exact rfl; exact rfl; (simp only [T.get_set, Nat.reduceEqDiff, ↓reduceIte, evA, r0, r4, r6, r7, r8, r18, r19, r20] <;> rfl))); exact rfl) | ((with_reducible apply dw_pureT); (first | exact rfl | (apply wantedGT; exact rfl; exact rfl; exact rfl; (simp only [T.get_set, Nat.reduceEqDiff, ↓reduceIte, evA, r0, r4, r6, r7, r8, r18, r19, r20] <;> rfl))); exact rfl; exact rfl) | ((with_reducible apply dw_readT); (first | exact rfl | (apply wantedGT; exact rfl; exact rfl; exact rfl; (simp only [T.get_set, Nat.reduceEqDiff, ↓reduceIte, evA, r0, r4, r6, r7, r8, r18, r19, r20] <;> rfl))); exact rfl; exact rfl)); (simp only [List.getElem?_toArray, List.toList_toArray, bin_eql, bin_neq, bin_lss, bin_leq, bin_gtr, bin_geq, bin_add, bin_sub, bin_mul, un_not, unA, AHeap.get_bump, AHeap.next_bump, opK0, kMove, kPick, kAlloc, kBox, kBuild, kBuildSlice, kLoad, kStore, kNilCheck, kBinOp, kUnOp, kFieldAddr, kField, kIndexAddr, kIndex, kLookup, kMapUpdate, kMakeMap, kExtract, kSlice, kCall, lenA, evA, evAs, evParts, toAV, toAV0, toAVs, T.get_set, T.get_nil, Nat.reduceAdd, Nat.reduceMul, Nat.reduceEqDiff, Nat.zero_add, Nat.add_zero, Nat.mul_one, Nat.zero_mul, AV.cells, List.all_cons, List.all_nil, AV.scalar, Bool.and_true, Bool.true_and, ↓reduceIte, if_true, und_all, Tryd.underlying3, Tryd.underlying4, Tryd.underlying5, Tryd.underlying9, Tryd.underlying23, Tryd.underlying24, Tryd.underlying31, Tryd.underlying38, Tryd.underlying39, Tryd.underlying40, Tryd.underlying41, Tryd.underlying42, Tryd.underlying45, Tryd.underlying46, Tryd.underlying48, Tryd.underlying50, Tryd.underlying55, Tryd.underlying57, Tryd.underlying67, siz3, agg3, zer3, byt3, siz4, agg4, zer4, byt4, siz5, agg5, zer5, byt5, siz9, agg9, zer9, byt9, siz23, agg23, zer23, byt23, siz24, agg24, zer24, byt24, siz31, agg31, zer31, byt31, siz38, agg38, zer38, byt38, siz39, agg39, zer39, byt39, siz40, agg40, zer40, byt40, siz41, agg41, zer41, byt41, siz42, agg42, zer42, byt42, siz45, agg45, zer45, byt45, siz46, agg46, zer46, byt46, siz48, agg48, zer48, byt48, siz50, agg50, zer50, byt50, siz55, agg55, zer55, byt55, siz57, agg57, zer57, byt57, siz67, agg67, zer67, byt67, AHeap.get_alloc, AHeap.get_set, AHeap.next_alloc, AHeap.next_set, AHeap.loadCells, AHeap.load1, AHeap.storeCells, List.getElem?_cons_zero, List.getElem?_cons_succ, List.length_cons, List.length_nil, List.drop_zero, List.take_succ_cons, List.take_zero, List.drop_succ_cons, List.drop_nil, List.take_nil, List.append_nil, List.cons_append, List.nil_append, binA, isConstO, keyOk, ents_some, Bool.or_true, Bool.or_false, Bool.true_or, Bool.false_or, wantedA, dstOk, Option.bind_some, List.append_nil, decide_true, decide_false, beq_self_eq_true, Bool.not_true, Bool.not_false, Bool.false_eq_true, if_false, List.zipIdx_cons, reid, toAV, Int.toNat_natCast, Int.natCast_one, Int.natCast_zero, g1, c7, c4, w1, w2, w3, w4, bin_quo nz, r0, r4, r6, r7, r8, r18, r19, r20] <;> rfl))
        | ((with_reducible apply wpOps_skipT); (first | exact rfl | (apply wantedGF; exact rfl; exact rfl; exact rfl; (simp only [T.get_set, Nat.reduceEqDiff, ↓reduceIte, evA, r0, r4, r6, r7, r8, r18, r19, r20] <;> rfl)) | (apply wantedZ; exact rfl; exact rfl; exact rfl; (simp only [T.get_set, Nat.reduceEqDiff, ↓reduceIte, evA, r0, r4, r6, r7, r8, r18, r19, r20] <;> rfl))); exact rfl)
        | ((with_reducible apply wpOps_skipN); (first | exact rfl | (apply wantedGF; exact rfl; exact rfl; exact rfl; (simp only [T.get_set, Nat.reduceEqDiff, ↓reduceIte, evA, r0, r4, r6, r7, r8, r18, r19, r20] <;> rfl)) | (apply wantedZ; exact rfl; exact rfl; exact rfl; (simp only [T.get_set, Nat.reduceEqDiff, ↓reduceIte, evA, r0, r4, r6, r7, r8, r18, r19, r20] <;> rfl))); exact rfl)
        | ((with_reducible apply dw_storeN); (first | exact rfl | (apply wantedGT; exact rfl; exact rfl; exact rfl; (simp only [T.get_set, Nat.reduceEqDiff, ↓reduceIte, evA, r0, r4, r6, r7, r8, r18, r19, r20] <;> rfl))); exact rfl; exact rfl; (simp only [List.getElem?_toArray, List.toList_toArray, bin_eql, bin_neq, bin_lss, bin_leq, bin_gtr, bin_geq, bin_add, bin_sub, bin_mul, un_not, unA, AHeap.get_bump, AHeap.next_bump, opK0, kMove, kPick, kAlloc, kBox, kBuild, kBuildSlice, kLoad, kStore, kNilCheck, kBinOp, kUnOp, kFieldAddr, kField, kIndexAddr, kIndex, kLookup, kMapUpdate, kMakeMap, kExtract, kSlice, kCall, lenA, evA, evAs, evParts, toAV, toAV0, toAVs, T.get_set, T.get_nil, Nat.reduceAdd, Nat.reduceMul, Nat.reduceEqDiff, Nat.zero_add, Nat.add_zero, Nat.mul_one, Nat.zero_mul, AV.cells, List.all_cons, List.all_nil, AV.scalar, Bool.and_true, Bool.true_and, ↓reduceIte, if_true, und_all, Tryd.underlying3, Tryd.underlying4, Tryd.underlying5, Tryd.underlying9, Tryd.underlying23, Tryd.underlying24, Tryd.underlying31, Tryd.underlying38, Tryd.underlying39, Tryd.underlying40, Tryd.underlying41, Tryd.underlying42, Tryd.underlying45, Tryd.underlying46, Tryd.underlying48, Tryd.underlying50, Tryd.underlying55, Tryd.underlying57, Tryd.underlying67, siz3, agg3, zer3, byt3, siz4, agg4, zer4, byt4, siz5, agg5, zer5, byt5, siz9, agg9, zer9, byt9, siz23, agg23, zer23, byt23, siz24, agg24, zer24, byt24, siz31, agg31, zer31, byt31, siz38, agg38, zer38, byt38, siz39, agg39, zer39, byt39, siz40, agg40, zer40, byt40, siz41, agg41, zer41, byt41, siz42, agg42, zer42, byt42, siz45, agg45, zer45, byt45, siz46, agg46, zer46, byt46, siz48, agg48, zer48, byt48, siz50, agg50, zer50, byt50, siz55, agg55, zer55, byt55, siz57, agg57, zer57, byt57, siz67, agg67, zer67, byt67, AHeap.get_alloc, AHeap.get_set, AHeap.next_alloc, AHeap.next_set, AHeap.loadCells, AHeap.load1, AHeap.storeCells, List.getElem?_cons_zero, List.getElem?_cons_succ, List.length_cons, List.length_nil, List.drop_zero, List.take_succ_cons, List.take_zero, List.drop_succ_cons, List.drop_nil, List.take_nil, List.append_nil, List.cons_append, List.nil_append, binA, isConstO, keyOk, ents_some, Bool.or_true, Bool.or_false, Bool.true_or, Bool.false_or, wantedA, dstOk, Option.bind_some, List.append_nil, decide_true, decide_false, beq_self_eq_true, Bool.not_true, Bool.not_false, Bool.false_eq_true, if_false, List.zipIdx_cons, reid, toAV, Int.toNat_natCast, Int.natCast_one, Int.natCast_zero, g1, c7, c4, w1, w2, w3, w4, bin_quo nz, r0, r4, r6, r7, r8, r18, r19, r20] <;> rfl); kernel_rfl; kernel_rfl)
        | ((with_reducible apply dw_skipT); (first | exact rfl | (apply wantedGF; exact rfl; exact rfl; exact rfl; (simp only [T.get_set, Nat.reduceEqDiff, ↓reduceIte, evA, r0, r4, r6, r7, r8, r18, r19, r20] <;> rfl)) | (apply wantedZ; exact rfl; exact rfl; exact rfl; (simp only [T.get_set, Nat.reduceEqDiff, ↓reduceIte, evA, r0, r4, r6, r7, r8, r18, r19, r20] <;> rfl))); exact rfl)
        | (with_reducible apply aw_seq)
        | (with_reducible apply aw_regionL)
        | (with_reducible apply aw_block)
        | (with_reducible apply aw_scope)
        | (with_reducible apply aw_nil)
        | (with_reducible apply aw_then)
        | (with_reducible apply aw_thenR)
        | (with_reducible apply aw_thenE)
        | (with_reducible apply aw_blockR)
        | (with_reducible apply aw_blockN)
        | (with_reducible apply aw_blockE)
        | (with_reducible apply aw_ret)
        | (with_reducible apply aw_exit)
        | (with_reducible apply aw_skip)
        | ((with_reducible apply aw_condT); (first | exact rfl | (simp only [T.get_set, Nat.reduceEqDiff, ↓reduceIte, evA, r0, r4, r6, r7, r8, r18, r19, r20] <;> rfl)))
        | ((with_reducible apply aw_condF); (first | exact rfl | (simp only [T.get_set, Nat.reduceEqDiff, ↓reduceIte, evA, r0, r4, r6, r7, r8, r18, r19, r20] <;> rfl)))
        | ((with_reducible apply aw_drawL); (simp only [List.zipIdx_cons, List.zipIdx_nil, Nat.zero_add, Nat.reduceAdd] <;> rfl); kernel_rfl; kernel_rfl)
        | (with_reducible apply dw_nil)
        | fail)

      obtain ⟨sc1, sc2⟩ := hpl.scalar
      simp only [AV.scalar] at sc1
      have q9 : (h.next + 1 = h.next + 3) = False := eq_false (by omega)
      have q10 : (h.next + 3 = h.next + 1) = False := eq_false (by omega)
      cases hl : s.long with
      | true =>
        rw [hl] at r8
        repeat (first
          | ((first | ((with_reducible apply wpOps_valT); (first | exact rfl | (apply wantedGT; exact rfl; exact rfl; exact rfl; (simp only [T.get_set, Nat.reduceEqDiff, ↓reduceIte, evA, r0, r4, r6, r7, r8, r18, r19, r20] <;> rfl))); exact rfl) | ((with_reducible apply wpOps_storeN); (first | exact rfl | (apply wantedGT; exact rfl; exact rfl; exact rfl; (simp only [T.get_set, Nat.reduceEqDiff, ↓reduceIte, evA, r0, r4, r6, r7, r8, r18, r19, r20] <;> rfl))); exact rfl) | ((with_reducible apply dw_pureT); (first | exact rfl | (apply wantedGT; exact rfl; exact rfl; exact rfl; (simp only [T.get_set, Nat.reduceEqDiff, ↓reduceIte, evA, r0, r4, r6, r7, r8, r18, r19, r20] <;> rfl))); exact rfl; exact rfl) | ((with_reducible apply dw_readT); (first | exact rfl | (apply wantedGT; exact rfl; exact rfl; exact rfl; (simp only [T.get_set, Nat.reduceEqDiff, ↓reduceIte, evA, r0, r4, r6, r7, r8, r18, r19, r20] <;> rfl))); exact rfl; exact rfl)); (simp only [List.getElem?_toArray, List.toList_toArray, bin_eql, bin_neq, bin_lss, bin_leq, bin_gtr, bin_geq, bin_add, bin_sub, bin_mul, un_not, unA, AHeap.get_bump, AHeap.next_bump, opK0, kMove, kPick, kAlloc, kBox, kBuild, kBuildSlice, kLoad, kStore, kNilCheck, kBinOp, kUnOp, kFieldAddr, kField, kIndexAddr, kIndex, kLookup, kMapUpdate, kMakeMap, kExtract, kSlice, kCall, lenA, evA, evAs, evParts, toAV, toAV0, toAVs, T.get_set, T.get_nil, Nat.reduceAdd, Nat.reduceMul, Nat.reduceEqDiff, Nat.zero_add, Nat.add_zero, Nat.mul_one, Nat.zero_mul, AV.cells, List.all_cons, List.all_nil, AV.scalar, Bool.and_true, Bool.true_and, ↓reduceIte, if_true, und_all, Tryd.underlying3, Tryd.underlying4, Tryd.underlying5, Tryd.underlying9, Tryd.underlying23, Tryd.underlying24, Tryd.underlying31, Tryd.underlying38, Tryd.underlying39, Tryd.underlying40, Tryd.underlying41, Tryd.underlying42, Tryd.underlying45, Tryd.underlying46, Tryd.underlying48, Tryd.underlying50, Tryd.underlying55, Tryd.underlying57, Tryd.underlying67, siz3, agg3, zer3, byt3, siz4, agg4, zer4, byt4, siz5, agg5, zer5, byt5, siz9, agg9, zer9, byt9, siz23, agg23, zer23, byt23, siz24, agg24, zer24, byt24, siz31, agg31, zer31, byt31, siz38, agg38, zer38, byt38, siz39, agg39, zer39, byt39, siz40, agg40, zer40, byt40, siz41, agg41, zer41, byt41, siz42, agg42, zer42, byt42, siz45, agg45, zer45, byt45, siz46, agg46, zer46, byt46, siz48, agg48, zer48, byt48, siz50, agg50, zer50, byt50, siz55, agg55, zer55, byt55, siz57, agg57, zer57, byt57, siz67, agg67, zer67, byt67, AHeap.get_alloc, AHeap.get_set, AHeap.next_alloc, AHeap.next_set, AHeap.loadCells, AHeap.load1, AHeap.storeCells, List.getElem?_cons_zero, List.getElem?_cons_succ, List.length_cons, List.length_nil, List.drop_zero, List.take_succ_cons, List.take_zero, List.drop_succ_cons, List.drop_nil, List.take_nil, List.append_nil, List.cons_append, List.nil_append, binA, isConstO, keyOk, ents_some, Bool.or_true, Bool.or_false, Bool.true_or, Bool.false_or, wantedA, dstOk, Option.bind_some, List.append_nil, decide_true, decide_false, beq_self_eq_true, Bool.not_true, Bool.not_false, Bool.false_eq_true, if_false, List.zipIdx_cons, reid, toAV, Int.toNat_natCast, Int.natCast_one, Int.natCast_zero, g1, c7, c4, w1, w2, w3, w4, bin_quo nz, sc1, sc2, q9, q10, Nat.le_refl, and_self, r0, r4, r6, r7, r8, r18, r19, r20] <;> rfl))
          | ((with_reducible apply wpOps_skipT); (first | exact rfl | (apply wantedGF; exact rfl; exact rfl; exact rfl; (simp only [T.get_set, Nat.reduceEqDiff, ↓reduceIte, evA, r0, r4, r6, r7, r8, r18, r19, r20] <;> rfl)) | (apply wantedZ; exact rfl; exact rfl; exact rfl; (simp only [T.get_set, Nat.reduceEqDiff, ↓reduceIte, evA, r0, r4, r6, r7, r8, r18, r19, r20] <;> rfl))); exact rfl)
          | ((with_reducible apply wpOps_skipN); (first | exact rfl | (apply wantedGF; exact rfl; exact rfl; exact rfl; (simp only [T.get_set, Nat.reduceEqDiff, ↓reduceIte, evA, r0, r4, r6, r7, r8, r18, r19, r20] <;> rfl)) | (apply wantedZ; exact rfl; exact rfl; exact rfl; (simp only [T.get_set, Nat.reduceEqDiff, ↓reduceIte, evA, r0, r4, r6, r7, r8, r18, r19, r20] <;> rfl))); exact rfl)
          | ((with_reducible apply dw_skipT); (first | exact rfl | (apply wantedGF; exact rfl; exact rfl; exact rfl; (simp only [T.get_set, Nat.reduceEqDiff, ↓reduceIte, evA, r0, r4, r6, r7, r8, r18, r19, r20] <;> rfl)) | (apply wantedZ; exact rfl; exact rfl; exact rfl; (simp only [T.get_set, Nat.reduceEqDiff, ↓reduceIte, evA, r0, r4, r6, r7, r8, r18, r19, r20] <;> rfl))); exact rfl)
          | (with_reducible apply aw_seq)
          | (with_reducible apply aw_regionL)
          | (with_reducible apply aw_block)
          | (with_reducible apply aw_scope)
          | (with_reducible apply aw_nil)
          | (with_reducible apply aw_then)
          | (with_reducible apply aw_thenR)
          | (with_reducible apply aw_thenE)
          | (with_reducible apply aw_blockR)
          | (with_reducible apply aw_blockN)
          | (with_reducible apply aw_blockE)
          | (with_reducible apply aw_ret)
          | (with_reducible apply aw_exit)
          | (with_reducible apply aw_skip)
          | ((with_reducible apply aw_condT); (first | exact rfl | (simp only [T.get_set, Nat.reduceEqDiff, ↓reduceIte, evA, r0, r4, r6, r7, r8, r18, r19, r20] <;> rfl)))
          | ((with_reducible apply aw_condF); (first | exact rfl | (simp only [T.get_set, Nat.reduceEqDiff, ↓reduceIte, evA, r0, r4, r6, r7, r8, r18, r19, r20] <;> rfl)))
          | ((with_reducible apply aw_drawL); (simp only [List.zipIdx_cons, List.zipIdx_nil, Nat.zero_add, Nat.reduceAdd] <;> rfl); kernel_rfl; kernel_rfl)
          | (with_reducible apply dw_nil)
          | fail)

        refine ⟨rfl, _, (by simp only [res16, resultsA, resultA, List.getElem?_toArray, List.toList_toArray, bin_eql, bin_neq, bin_lss, bin_leq, bin_gtr, bin_geq, bin_add, bin_sub, bin_mul, un_not, unA, AHeap.get_bump, AHeap.next_bump, opK0, kMove, kPick, kAlloc, kBox, kBuild, kBuildSlice, kLoad, kStore, kNilCheck, kBinOp, kUnOp, kFieldAddr, kField, kIndexAddr, kIndex, kLookup, kMapUpdate, kMakeMap, kExtract, kSlice, kCall, lenA, evA, evAs, evParts, toAV, toAV0, toAVs, T.get_set, T.get_nil, Nat.reduceAdd, Nat.reduceMul, Nat.reduceEqDiff, Nat.zero_add, Nat.add_zero, Nat.mul_one, Nat.zero_mul, AV.cells, List.all_cons, List.all_nil, AV.scalar, Bool.and_true, Bool.true_and, ↓reduceIte, if_true, und_all, Tryd.underlying3, Tryd.underlying4, Tryd.underlying5, Tryd.underlying9, Tryd.underlying23, Tryd.underlying24, Tryd.underlying31, Tryd.underlying38, Tryd.underlying39, Tryd.underlying40, Tryd.underlying41, Tryd.underlying42, Tryd.underlying45, Tryd.underlying46, Tryd.underlying48, Tryd.underlying50, Tryd.underlying55, Tryd.underlying57, Tryd.underlying67, siz3, agg3, zer3, byt3, siz4, agg4, zer4, byt4, siz5, agg5, zer5, byt5, siz9, agg9, zer9, byt9, siz23, agg23, zer23, byt23, siz24, agg24, zer24, byt24, siz31, agg31, zer31, byt31, siz38, agg38, zer38, byt38, siz39, agg39, zer39, byt39, siz40, agg40, zer40, byt40, siz41, agg41, zer41, byt41, siz42, agg42, zer42, byt42, siz45, agg45, zer45, byt45, siz46, agg46, zer46, byt46, siz48, agg48, zer48, byt48, siz50, agg50, zer50, byt50, siz55, agg55, zer55, byt55, siz57, agg57, zer57, byt57, siz67, agg67, zer67, byt67, AHeap.get_alloc, AHeap.get_set, AHeap.next_alloc, AHeap.next_set, AHeap.loadCells, AHeap.load1, AHeap.storeCells, List.getElem?_cons_zero, List.getElem?_cons_succ, List.length_cons, List.length_nil, List.drop_zero, List.take_succ_cons, List.take_zero, List.drop_succ_cons, List.drop_nil, List.take_nil, List.append_nil, List.cons_append, List.nil_append, binA, isConstO, keyOk, ents_some, Bool.or_true, Bool.or_false, Bool.true_or, Bool.false_or, wantedA, dstOk, Option.bind_some, List.append_nil, decide_true, decide_false, beq_self_eq_true, Bool.not_true, Bool.not_false, Bool.false_eq_true, if_false, List.zipIdx_cons, reid, toAV, Int.toNat_natCast, Int.natCast_one, Int.natCast_zero, g1, c7, c4, w1, w2, w3, w4, bin_quo nz, sc1, sc2, q9, q10, Nat.le_refl, and_self, r0, r4, r6, r7, r8, r18, r19, r20] <;> rfl), ?_, ?_⟩
        · simp only [layF, hgo, hl, true_or, if_true]; rfl
        · skip
          try dsimp only
          repeat (first | exact Keep.refl _ | exact k1 | (with_reducible apply Keep.bump) | (with_reducible apply Keep.alloc) | ((with_reducible apply Keep.set); (first | exact Nat.le_refl _ | (have := Keep.next k1; omega)); ((try simp only [AHeap.next_alloc, AHeap.next_bump, AHeap.next_set]); have := Keep.next k1; omega)))

      | false =>
        rw [hl] at r8
        by_cases hb : 65536 < upTo s.size s.align
        · have g7 : (65536 < upTo s.size s.align) = True := eq_true hb
          repeat (first
            | ((first | ((with_reducible apply wpOps_valT); (first | exact rfl | (apply wantedGT; exact rfl; exact rfl; exact rfl; (simp only [T.get_set, Nat.reduceEqDiff, ↓reduceIte, evA, r0, r4, r6, r7, r8, r18, r19, r20] <;> rfl))); exact rfl) | ((with_reducible apply wpOps_storeN); (first | exact rfl | (apply wantedGT; exact rfl; exact rfl; exact rfl; (simp only [T.get_set, Nat.reduceEqDiff, ↓reduceIte, evA, r0, r4, r6, r7, r8, r18, r19, r20] <;> rfl))); exact rfl) | ((with_reducible apply dw_pureT); (first | exact rfl | (apply wantedGT; exact rfl; exact rfl; exact rfl; (simp only [T.get_set, Nat.reduceEqDiff, ↓reduceIte, evA, r0, r4, r6, r7, r8, r18, r19, r20] <;> rfl))); exact rfl; exact rfl) | ((with_reducible apply dw_readT); (first | exact rfl | (apply wantedGT; exact rfl; exact rfl; exact rfl; (simp only [T.get_set, Nat.reduceEqDiff, ↓reduceIte, evA, r0, r4, r6, r7, r8, r18, r19, r20] <;> rfl))); exact rfl; exact rfl)); (simp only [List.getElem?_toArray, List.toList_toArray, bin_eql, bin_neq, bin_lss, bin_leq, bin_gtr, bin_geq, bin_add, bin_sub, bin_mul, un_not, unA, AHeap.get_bump, AHeap.next_bump, opK0, kMove, kPick, kAlloc, kBox, kBuild, kBuildSlice, kLoad, kStore, kNilCheck, kBinOp, kUnOp, kFieldAddr, kField, kIndexAddr, kIndex, kLookup, kMapUpdate, kMakeMap, kExtract, kSlice, kCall, lenA, evA, evAs, evParts, toAV, toAV0, toAVs, T.get_set, T.get_nil, Nat.reduceAdd, Nat.reduceMul, Nat.reduceEqDiff, Nat.zero_add, Nat.add_zero, Nat.mul_one, Nat.zero_mul, AV.cells, List.all_cons, List.all_nil, AV.scalar, Bool.and_true, Bool.true_and, ↓reduceIte, if_true, und_all, Tryd.underlying3, Tryd.underlying4, Tryd.underlying5, Tryd.underlying9, Tryd.underlying23, Tryd.underlying24, Tryd.underlying31, Tryd.underlying38, Tryd.underlying39, Tryd.underlying40, Tryd.underlying41, Tryd.underlying42, Tryd.underlying45, Tryd.underlying46, Tryd.underlying48, Tryd.underlying50, Tryd.underlying55, Tryd.underlying57, Tryd.underlying67, siz3, agg3, zer3, byt3, siz4, agg4, zer4, byt4, siz5, agg5, zer5, byt5, siz9, agg9, zer9, byt9, siz23, agg23, zer23, byt23, siz24, agg24, zer24, byt24, siz31, agg31, zer31, byt31, siz38, agg38, zer38, byt38, siz39, agg39, zer39, byt39, siz40, agg40, zer40, byt40, siz41, agg41, zer41, byt41, siz42, agg42, zer42, byt42, siz45, agg45, zer45, byt45, siz46, agg46, zer46, byt46, siz48, agg48, zer48, byt48, siz50, agg50, zer50, byt50, siz55, agg55, zer55, byt55, siz57, agg57, zer57, byt57, siz67, agg67, zer67, byt67, AHeap.get_alloc, AHeap.get_set, AHeap.next_alloc, AHeap.next_set, AHeap.loadCells, AHeap.load1, AHeap.storeCells, List.getElem?_cons_zero, List.getElem?_cons_succ, List.length_cons, List.length_nil, List.drop_zero, List.take_succ_cons, List.take_zero, List.drop_succ_cons, List.drop_nil, List.take_nil, List.append_nil, List.cons_append, List.nil_append, binA, isConstO, keyOk, ents_some, Bool.or_true, Bool.or_false, Bool.true_or, Bool.false_or, wantedA, dstOk, Option.bind_some, List.append_nil, decide_true, decide_false, beq_self_eq_true, Bool.not_true, Bool.not_false, Bool.false_eq_true, if_false, List.zipIdx_cons, reid, toAV, Int.toNat_natCast, Int.natCast_one, Int.natCast_zero, g1, c7, c4, w1, w2, w3, w4, bin_quo nz, sc1, sc2, q9, q10, Nat.le_refl, and_self, g7, r0, r4, r6, r7, r8, r18, r19, r20] <;> rfl))
            | ((with_reducible apply wpOps_skipT); (first | exact rfl | (apply wantedGF; exact rfl; exact rfl; exact rfl; (simp only [T.get_set, Nat.reduceEqDiff, ↓reduceIte, evA, r0, r4, r6, r7, r8, r18, r19, r20] <;> rfl)) | (apply wantedZ; exact rfl; exact rfl; exact rfl; (simp only [T.get_set, Nat.reduceEqDiff, ↓reduceIte, evA, r0, r4, r6, r7, r8, r18, r19, r20] <;> rfl))); exact rfl)
            | ((with_reducible apply wpOps_skipN); (first | exact rfl | (apply wantedGF; exact rfl; exact rfl; exact rfl; (simp only [T.get_set, Nat.reduceEqDiff, ↓reduceIte, evA, r0, r4, r6, r7, r8, r18, r19, r20] <;> rfl)) | (apply wantedZ; exact rfl; exact rfl; exact rfl; (simp only [T.get_set, Nat.reduceEqDiff, ↓reduceIte, evA, r0, r4, r6, r7, r8, r18, r19, r20] <;> rfl))); exact rfl)
            | ((with_reducible apply dw_skipT); (first | exact rfl | (apply wantedGF; exact rfl; exact rfl; exact rfl; (simp only [T.get_set, Nat.reduceEqDiff, ↓reduceIte, evA, r0, r4, r6, r7, r8, r18, r19, r20] <;> rfl)) | (apply wantedZ; exact rfl; exact rfl; exact rfl; (simp only [T.get_set, Nat.reduceEqDiff, ↓reduceIte, evA, r0, r4, r6, r7, r8, r18, r19, r20] <;> rfl))); exact rfl)
            | (with_reducible apply aw_seq)
            | (with_reducible apply aw_regionL)
            | (with_reducible apply aw_block)
            | (with_reducible apply aw_scope)
            | (with_reducible apply aw_nil)
            | (with_reducible apply aw_then)
            | (with_reducible apply aw_thenR)
            | (with_reducible apply aw_thenE)
            | (with_reducible apply aw_blockR)
            | (with_reducible apply aw_blockN)
            | (with_reducible apply aw_blockE)
            | (with_reducible apply aw_ret)
            | (with_reducible apply aw_exit)
            | (with_reducible apply aw_skip)
            | ((with_reducible apply aw_condT); (first | exact rfl | (simp only [T.get_set, Nat.reduceEqDiff, ↓reduceIte, evA, r0, r4, r6, r7, r8, r18, r19, r20] <;> rfl)))
            | ((with_reducible apply aw_condF); (first | exact rfl | (simp only [T.get_set, Nat.reduceEqDiff, ↓reduceIte, evA, r0, r4, r6, r7, r8, r18, r19, r20] <;> rfl)))
            | ((with_reducible apply aw_drawL); (simp only [List.zipIdx_cons, List.zipIdx_nil, Nat.zero_add, Nat.reduceAdd] <;> rfl); kernel_rfl; kernel_rfl)
            | (with_reducible apply dw_nil)
            | fail)

          refine ⟨rfl, _, (by simp only [res16, resultsA, resultA, List.getElem?_toArray, List.toList_toArray, bin_eql, bin_neq, bin_lss, bin_leq, bin_gtr, bin_geq, bin_add, bin_sub, bin_mul, un_not, unA, AHeap.get_bump, AHeap.next_bump, opK0, kMove, kPick, kAlloc, kBox, kBuild, kBuildSlice, kLoad, kStore, kNilCheck, kBinOp, kUnOp, kFieldAddr, kField, kIndexAddr, kIndex, kLookup, kMapUpdate, kMakeMap, kExtract, kSlice, kCall, lenA, evA, evAs, evParts, toAV, toAV0, toAVs, T.get_set, T.get_nil, Nat.reduceAdd, Nat.reduceMul, Nat.reduceEqDiff, Nat.zero_add, Nat.add_zero, Nat.mul_one, Nat.zero_mul, AV.cells, List.all_cons, List.all_nil, AV.scalar, Bool.and_true, Bool.true_and, ↓reduceIte, if_true, und_all, Tryd.underlying3, Tryd.underlying4, Tryd.underlying5, Tryd.underlying9, Tryd.underlying23, Tryd.underlying24, Tryd.underlying31, Tryd.underlying38, Tryd.underlying39, Tryd.underlying40, Tryd.underlying41, Tryd.underlying42, Tryd.underlying45, Tryd.underlying46, Tryd.underlying48, Tryd.underlying50, Tryd.underlying55, Tryd.underlying57, Tryd.underlying67, siz3, agg3, zer3, byt3, siz4, agg4, zer4, byt4, siz5, agg5, zer5, byt5, siz9, agg9, zer9, byt9, siz23, agg23, zer23, byt23, siz24, agg24, zer24, byt24, siz31, agg31, zer31, byt31, siz38, agg38, zer38, byt38, siz39, agg39, zer39, byt39, siz40, agg40, zer40, byt40, siz41, agg41, zer41, byt41, siz42, agg42, zer42, byt42, siz45, agg45, zer45, byt45, siz46, agg46, zer46, byt46, siz48, agg48, zer48, byt48, siz50, agg50, zer50, byt50, siz55, agg55, zer55, byt55, siz57, agg57, zer57, byt57, siz67, agg67, zer67, byt67, AHeap.get_alloc, AHeap.get_set, AHeap.next_alloc, AHeap.next_set, AHeap.loadCells, AHeap.load1, AHeap.storeCells, List.getElem?_cons_zero, List.getElem?_cons_succ, List.length_cons, List.length_nil, List.drop_zero, List.take_succ_cons, List.take_zero, List.drop_succ_cons, List.drop_nil, List.take_nil, List.append_nil, List.cons_append, List.nil_append, binA, isConstO, keyOk, ents_some, Bool.or_true, Bool.or_false, Bool.true_or, Bool.false_or, wantedA, dstOk, Option.bind_some, List.append_nil, decide_true, decide_false, beq_self_eq_true, Bool.not_true, Bool.not_false, Bool.false_eq_true, if_false, List.zipIdx_cons, reid, toAV, Int.toNat_natCast, Int.natCast_one, Int.natCast_zero, g1, c7, c4, w1, w2, w3, w4, bin_quo nz, sc1, sc2, q9, q10, Nat.le_refl, and_self, r0, r4, r6, r7, r8, r18, r19, r20] <;> rfl), ?_, ?_⟩
          · simp only [layF, hgo, hl, g7, or_true, if_true]; rfl
          · skip
            try dsimp only
            repeat (first | exact Keep.refl _ | exact k1 | (with_reducible apply Keep.bump) | (with_reducible apply Keep.alloc) | ((with_reducible apply Keep.set); (first | exact Nat.le_refl _ | (have := Keep.next k1; omega)); ((try simp only [AHeap.next_alloc, AHeap.next_bump, AHeap.next_set]); have := Keep.next k1; omega)))

        · have g7 : (65536 < upTo s.size s.align) = False := eq_false hb
          repeat (first
            | ((first | ((with_reducible apply wpOps_valT); (first | exact rfl | (apply wantedGT; exact rfl; exact rfl; exact rfl; (simp only [T.get_set, Nat.reduceEqDiff, ↓reduceIte, evA, r0, r4, r6, r7, r8, r18, r19, r20] <;> rfl))); exact rfl) | ((with_reducible apply wpOps_storeN); (first | exact rfl | (apply wantedGT; exact rfl; exact rfl; exact rfl; (simp only [T.get_set, Nat.reduceEqDiff, ↓reduceIte, evA, r0, r4, r6, r7, r8, r18, r19, r20] <;> rfl))); exact rfl) | ((with_reducible apply dw_pureT); (first | exact rfl | (apply wantedGT; exact rfl; exact rfl; exact rfl; (simp only [T.get_set, Nat.reduceEqDiff, ↓reduceIte, evA, r0, r4, r6, r7, r8, r18, r19, r20] <;> rfl))); exact rfl; exact rfl) | ((with_reducible apply dw_readT); (first | exact rfl | (apply wantedGT; exact rfl; exact rfl; exact rfl; (simp only [T.get_set, Nat.reduceEqDiff, ↓reduceIte, evA, r0, r4, r6, r7, r8, r18, r19, r20] <;> rfl))); exact rfl; exact rfl)); (simp only [List.getElem?_toArray, List.toList_toArray, bin_eql, bin_neq, bin_lss, bin_leq, bin_gtr, bin_geq, bin_add, bin_sub, bin_mul, un_not, unA, AHeap.get_bump, AHeap.next_bump, opK0, kMove, kPick, kAlloc, kBox, kBuild, kBuildSlice, kLoad, kStore, kNilCheck, kBinOp, kUnOp, kFieldAddr, kField, kIndexAddr, kIndex, kLookup, kMapUpdate, kMakeMap, kExtract, kSlice, kCall, lenA, evA, evAs, evParts, toAV, toAV0, toAVs, T.get_set, T.get_nil, Nat.reduceAdd, Nat.reduceMul, Nat.reduceEqDiff, Nat.zero_add, Nat.add_zero, Nat.mul_one, Nat.zero_mul, AV.cells, List.all_cons, List.all_nil, AV.scalar, Bool.and_true, Bool.true_and, ↓reduceIte, if_true, und_all, Tryd.underlying3, Tryd.underlying4, Tryd.underlying5, Tryd.underlying9, Tryd.underlying23, Tryd.underlying24, Tryd.underlying31, Tryd.underlying38, Tryd.underlying39, Tryd.underlying40, Tryd.underlying41, Tryd.underlying42, Tryd.underlying45, Tryd.underlying46, Tryd.underlying48, Tryd.underlying50, Tryd.underlying55, Tryd.underlying57, Tryd.underlying67, siz3, agg3, zer3, byt3, siz4, agg4, zer4, byt4, siz5, agg5, zer5, byt5, siz9, agg9, zer9, byt9, siz23, agg23, zer23, byt23, siz24, agg24, zer24, byt24, siz31, agg31, zer31, byt31, siz38, agg38, zer38, byt38, siz39, agg39, zer39, byt39, siz40, agg40, zer40, byt40, siz41, agg41, zer41, byt41, siz42, agg42, zer42, byt42, siz45, agg45, zer45, byt45, siz46, agg46, zer46, byt46, siz48, agg48, zer48, byt48, siz50, agg50, zer50, byt50, siz55, agg55, zer55, byt55, siz57, agg57, zer57, byt57, siz67, agg67, zer67, byt67, AHeap.get_alloc, AHeap.get_set, AHeap.next_alloc, AHeap.next_set, AHeap.loadCells, AHeap.load1, AHeap.storeCells, List.getElem?_cons_zero, List.getElem?_cons_succ, List.length_cons, List.length_nil, List.drop_zero, List.take_succ_cons, List.take_zero, List.drop_succ_cons, List.drop_nil, List.take_nil, List.append_nil, List.cons_append, List.nil_append, binA, isConstO, keyOk, ents_some, Bool.or_true, Bool.or_false, Bool.true_or, Bool.false_or, wantedA, dstOk, Option.bind_some, List.append_nil, decide_true, decide_false, beq_self_eq_true, Bool.not_true, Bool.not_false, Bool.false_eq_true, if_false, List.zipIdx_cons, reid, toAV, Int.toNat_natCast, Int.natCast_one, Int.natCast_zero, g1, c7, c4, w1, w2, w3, w4, bin_quo nz, sc1, sc2, q9, q10, Nat.le_refl, and_self, g7, r0, r4, r6, r7, r8, r18, r19, r20] <;> rfl))
            | ((with_reducible apply wpOps_skipT); (first | exact rfl | (apply wantedGF; exact rfl; exact rfl; exact rfl; (simp only [T.get_set, Nat.reduceEqDiff, ↓reduceIte, evA, r0, r4, r6, r7, r8, r18, r19, r20] <;> rfl)) | (apply wantedZ; exact rfl; exact rfl; exact rfl; (simp only [T.get_set, Nat.reduceEqDiff, ↓reduceIte, evA, r0, r4, r6, r7, r8, r18, r19, r20] <;> rfl))); exact rfl)
            | ((with_reducible apply wpOps_skipN); (first | exact rfl | (apply wantedGF; exact rfl; exact rfl; exact rfl; (simp only [T.get_set, Nat.reduceEqDiff, ↓reduceIte, evA, r0, r4, r6, r7, r8, r18, r19, r20] <;> rfl)) | (apply wantedZ; exact rfl; exact rfl; exact rfl; (simp only [T.get_set, Nat.reduceEqDiff, ↓reduceIte, evA, r0, r4, r6, r7, r8, r18, r19, r20] <;> rfl))); exact rfl)
            | ((with_reducible apply dw_skipT); (first | exact rfl | (apply wantedGF; exact rfl; exact rfl; exact rfl; (simp only [T.get_set, Nat.reduceEqDiff, ↓reduceIte, evA, r0, r4, r6, r7, r8, r18, r19, r20] <;> rfl)) | (apply wantedZ; exact rfl; exact rfl; exact rfl; (simp only [T.get_set, Nat.reduceEqDiff, ↓reduceIte, evA, r0, r4, r6, r7, r8, r18, r19, r20] <;> rfl))); exact rfl)
            | (with_reducible apply aw_seq)
            | (with_reducible apply aw_regionL)
            | (with_reducible apply aw_block)
            | (with_reducible apply aw_scope)
            | (with_reducible apply aw_nil)
            | (with_reducible apply aw_then)
            | (with_reducible apply aw_thenR)
            | (with_reducible apply aw_thenE)
            | (with_reducible apply aw_blockR)
            | (with_reducible apply aw_blockN)
            | (with_reducible apply aw_blockE)
            | (with_reducible apply aw_ret)
            | (with_reducible apply aw_exit)
            | (with_reducible apply aw_skip)
            | ((with_reducible apply aw_condT); (first | exact rfl | (simp only [T.get_set, Nat.reduceEqDiff, ↓reduceIte, evA, r0, r4, r6, r7, r8, r18, r19, r20] <;> rfl)))
            | ((with_reducible apply aw_condF); (first | exact rfl | (simp only [T.get_set, Nat.reduceEqDiff, ↓reduceIte, evA, r0, r4, r6, r7, r8, r18, r19, r20] <;> rfl)))
            | ((with_reducible apply aw_drawL); (simp only [List.zipIdx_cons, List.zipIdx_nil, Nat.zero_add, Nat.reduceAdd] <;> rfl); kernel_rfl; kernel_rfl)
            | (with_reducible apply dw_nil)
            | fail)

          refine ⟨rfl, _, (by simp only [res16, resultsA, resultA, List.getElem?_toArray, List.toList_toArray, bin_eql, bin_neq, bin_lss, bin_leq, bin_gtr, bin_geq, bin_add, bin_sub, bin_mul, un_not, unA, AHeap.get_bump, AHeap.next_bump, opK0, kMove, kPick, kAlloc, kBox, kBuild, kBuildSlice, kLoad, kStore, kNilCheck, kBinOp, kUnOp, kFieldAddr, kField, kIndexAddr, kIndex, kLookup, kMapUpdate, kMakeMap, kExtract, kSlice, kCall, lenA, evA, evAs, evParts, toAV, toAV0, toAVs, T.get_set, T.get_nil, Nat.reduceAdd, Nat.reduceMul, Nat.reduceEqDiff, Nat.zero_add, Nat.add_zero, Nat.mul_one, Nat.zero_mul, AV.cells, List.all_cons, List.all_nil, AV.scalar, Bool.and_true, Bool.true_and, ↓reduceIte, if_true, und_all, Tryd.underlying3, Tryd.underlying4, Tryd.underlying5, Tryd.underlying9, Tryd.underlying23, Tryd.underlying24, Tryd.underlying31, Tryd.underlying38, Tryd.underlying39, Tryd.underlying40, Tryd.underlying41, Tryd.underlying42, Tryd.underlying45, Tryd.underlying46, Tryd.underlying48, Tryd.underlying50, Tryd.underlying55, Tryd.underlying57, Tryd.underlying67, siz3, agg3, zer3, byt3, siz4, agg4, zer4, byt4, siz5, agg5, zer5, byt5, siz9, agg9, zer9, byt9, siz23, agg23, zer23, byt23, siz24, agg24, zer24, byt24, siz31, agg31, zer31, byt31, siz38, agg38, zer38, byt38, siz39, agg39, zer39, byt39, siz40, agg40, zer40, byt40, siz41, agg41, zer41, byt41, siz42, agg42, zer42, byt42, siz45, agg45, zer45, byt45, siz46, agg46, zer46, byt46, siz48, agg48, zer48, byt48, siz50, agg50, zer50, byt50, siz55, agg55, zer55, byt55, siz57, agg57, zer57, byt57, siz67, agg67, zer67, byt67, AHeap.get_alloc, AHeap.get_set, AHeap.next_alloc, AHeap.next_set, AHeap.loadCells, AHeap.load1, AHeap.storeCells, List.getElem?_cons_zero, List.getElem?_cons_succ, List.length_cons, List.length_nil, List.drop_zero, List.take_succ_cons, List.take_zero, List.drop_succ_cons, List.drop_nil, List.take_nil, List.append_nil, List.cons_append, List.nil_append, binA, isConstO, keyOk, ents_some, Bool.or_true, Bool.or_false, Bool.true_or, Bool.false_or, wantedA, dstOk, Option.bind_some, List.append_nil, decide_true, decide_false, beq_self_eq_true, Bool.not_true, Bool.not_false, Bool.false_eq_true, if_false, List.zipIdx_cons, reid, toAV, Int.toNat_natCast, Int.natCast_one, Int.natCast_zero, g1, c7, c4, w1, w2, w3, w4, bin_quo nz, sc1, sc2, q9, q10, Nat.le_refl, and_self, r0, r4, r6, r7, r8, r18, r19, r20] <;> rfl), ?_, ?_⟩
          · simp only [layF, hgo, hl, g7, or_self, Bool.false_eq_true, if_false]
            refine ⟨sl, rfl, hpl.mono (by omega) (by simp only [AHeap.next_set, AHeap.next_bump]; omega) fun j h1 h2 => ?_⟩
            simp only [AHeap.get_alloc, AHeap.get_bump, AHeap.next_bump, AHeap.next_set, AHeap.next_alloc, AHeap.get_set]
            repeat (first | rfl | assumption | exact if_pos trivial | exact if_pos rfl | (refine (if_pos trivial).trans ?_) | (refine (if_pos rfl).trans ?_) | (refine (if_neg (by omega)).trans ?_))

          · skip
            try dsimp only
            repeat (first | exact Keep.refl _ | exact k1 | (with_reducible apply Keep.bump) | (with_reducible apply Keep.alloc) | ((with_reducible apply Keep.set); (first | exact Nat.le_refl _ | (have := Keep.next k1; omega)); ((try simp only [AHeap.next_alloc, AHeap.next_bump, AHeap.next_set]); have := Keep.next k1; omega)))

end Go.Proofs.YtkkhpibnbaepiaaDoor
