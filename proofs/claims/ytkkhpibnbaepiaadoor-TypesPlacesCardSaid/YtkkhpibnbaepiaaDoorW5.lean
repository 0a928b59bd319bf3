/-
  Law 6 on the abstract machine: New. Each theorem states its own conditions; there are no others.
-/
import Derived.Test.YtkkhpibnbaepiaaDoorW4
set_option maxRecDepth 100000
set_option linter.unusedSimpArgs false
set_option linter.unusedVariables false
set_option maxHeartbeats 0
namespace Go.Proofs.YtkkhpibnbaepiaaDoor
open Go.Am

/-- A struct's declaration that comes in. -/
structure Sd where
  name : List UInt8
  fs : List Fld
  q : Option (Nat × Nat)
def flatS (l : List Sd) : List AV := (l.map fun s => [.str s.name, .slice s.q s.fs.length]).flatten
theorem flatS_length : ∀ fs : List Sd, (flatS fs).length = fs.length * 2
  | [] => rfl
  | p :: ps => by
    have := flatS_length ps
    simp only [flatS, List.map_cons, List.flatten_cons, List.length_append, List.length_cons, List.length_nil] at this ⊢
    omega
theorem flatS_at : ∀ (fs : List Sd) (i : Nat) (f : Sd), fs[i]? = some f → List.take 2 (List.drop (i * 2) (flatS fs)) = [.str f.name, .slice f.q f.fs.length]
  | [], i, f, h => by simp at h
  | p :: ps, 0, f, h => by
    simp only [List.getElem?_cons_zero, Option.some.injEq] at h
    subst h
    simp [flatS]
  | p :: ps, i + 1, f, h => by
    have := flatS_at ps i f (by simpa using h)
    rw [show (i + 1) * 2 = i * 2 + 1 + 1 by omega]
    simpa [flatS] using this
structure ArgAt (h : AHeap) (p : Option (Nat × Nat)) (l : List Sd) : Prop where
  a : l ≠ [] → ∃ a rw_ es_, p = some (a, 0) ∧ h.get a = some (.cells rw_ es_ (flatS l)) ∧ a < h.next
  f : ∀ s ∈ l, s.fs ≠ [] → ∃ o rw_ es_, s.q = some (o, 0) ∧ h.get o = some (.cells rw_ es_ (flatF s.fs)) ∧ o < h.next
  len : ∀ s ∈ l, s.name.length ≤ 281474976710656 ∧ s.fs.length ≤ 9223372036854775807 ∧ ∀ f ∈ s.fs, f.1.length ≤ 281474976710656 ∧ f.2.length ≤ 281474976710656
  n : l.length ≤ 9223372036854775807
/-- How the table's structs come of the declarations. -/
inductive Built (N : List (List UInt8)) : List Sd → List Ent → Prop where
  | nil : Built N [] []
  | snoc {l : List Sd} {es : List Ent} {s : Sd} {obj : Nat} {ps : List Plc} {size align : Int} (h : Built N l es) (hn : findE s.name es = Option.none) (hf : s.fs ≠ []) (hg : gn s.name = true) (hl : layF N es s.fs = .good ps size align) :
      Built N (l ++ [s]) (es ++ [⟨s.name, obj, ps, size, align⟩])
theorem layF_err {N : List (List UInt8)} {es : List Ent} {fs : List Fld} {e : Int} (h : layF N es fs = .bad e) : e ≠ 0 := by
  unfold layF at h
  split at h
  · injection h with h; omega
  · split at h
    · injection h with h; omega
    · cases h
theorem layGo_len {N : List (List UInt8)} {es : List Ent} : ∀ (fs : List Fld) (s s' : LSt), LGood s → Fits es → layGo N es fs s = some s' → LGood s' ∧ (s'.long = false → s.long = false ∨ fs = []) ∧ (s'.long = false → s'.ps.length = s.ps.length + fs.length)
  | [], s, s', hg, hE, h => by
    simp only [layGo] at h
    injection h with h
    subst h
    exact ⟨hg, fun _ => .inr rfl, fun _ => rfl⟩
  | f :: fs, s, s', hg, hE, h => by
    simp only [layGo] at h
    cases hs : layStep N es s f with
    | none => rw [hs] at h; cases h
    | some s1 =>
      rw [hs] at h
      have hg1 := layStep_good hE hg hs
      obtain ⟨a, b, c⟩ := layGo_len fs s1 s' hg1 hE h
      have hl : s.long = true → s1.long = true := by
        intro hl
        unfold layStep at hs
        split at hs
        · cases hs
        · split at hs
          · split at hs
            · cases hs
            · rw [if_pos (.inl hl)] at hs
              injection hs with hs
              rw [← hs]
          · cases hs
      have hfin : s'.long = false → s1.long = false ∨ fs = [] := b
      have hkeep : ∀ (fs : List Fld) (s s' : LSt), layGo N es fs s = some s' → s.long = true → s'.long = true := by
        intro fs
        induction fs with
        | nil => intro s s' h hl; simp only [layGo] at h; injection h with h; rw [← h]; exact hl
        | cons f fs ih =>
          intro s s' h hl
          simp only [layGo] at h
          cases hs : layStep N es s f with
          | none => rw [hs] at h; cases h
          | some s1 =>
            rw [hs] at h
            refine ih s1 s' h ?_
            unfold layStep at hs
            split at hs
            · cases hs
            · split at hs
              · split at hs
                · cases hs
                · rw [if_pos (.inl hl)] at hs
                  injection hs with hs
                  rw [← hs]
              · cases hs
      refine ⟨a, fun e => .inl ?_, fun e => ?_⟩
      · cases h1 : s.long with
        | false => rfl
        | true => rw [hkeep fs s1 s' h (hl h1)] at e; cases e
      · rw [c e]
        have h1 : s1.long = false ∨ s1.long = true := by cases s1.long <;> simp
        have hs1 : s1.long = false := by
          rcases h1 with h1 | h1
          · exact h1
          · rw [hkeep fs s1 s' h h1] at e; cases e
        unfold layStep at hs
        split at hs
        · cases hs
        · split at hs
          · split at hs
            · cases hs
            · split at hs
              · injection hs with hs
                rw [← hs] at hs1
                cases hs1
              · injection hs with hs
                rw [← hs]
                simp only [List.length_append, List.length_cons, List.length_nil]
                omega
          · cases hs
theorem layF_good {N : List (List UInt8)} {es : List Ent} {fs : List Fld} {ps : List Plc} {size align : Int} (hE : Fits es) (hf : fs ≠ []) (h : layF N es fs = .good ps size align) :
    ps.length = fs.length ∧ 1 ≤ size ∧ size ≤ 65536 ∧ (align = 1 ∨ align = 4 ∨ align = 8) ∧ size % align = 0 ∧ (ps.length : Int) ≤ size := by
  unfold layF at h
  split at h
  · cases h
  · rename_i s hs
    split at h
    · cases h
    · rename_i hn
      injection h with h1 h2 h3
      obtain ⟨g, _, c⟩ := layGo_len fs lay0 s lay0_good hE hs
      have hl : s.long = false := by
        cases e : s.long with
        | false => rfl
        | true => exact (hn (.inl e)).elim
      have hc := c hl
      have hu : ¬ 65536 < upTo s.size s.align := fun e => hn (.inr e)
      obtain ⟨u1, u2, u3⟩ := upTo_ge g.lo g.al
      have := g.ln
      have hz : lay0.ps.length = 0 := rfl
      have hf1 : 1 ≤ fs.length := by cases fs with | nil => exact (hf rfl).elim | cons => simp
      subst h1 h2 h3
      exact ⟨by omega, by omega, by omega, g.al, u3, by omega⟩
theorem Built.fits {N : List (List UInt8)} {l : List Sd} {es : List Ent} (h : Built N l es) : Fits es := by
  induction h with
  | nil => intro e he; cases he
  | snoc h hn hf hg hl ih =>
    intro e he
    rw [List.mem_append] at he
    rcases he with he | he
    · exact ih e he
    · simp only [List.mem_cons, List.not_mem_nil, or_false] at he
      subst he
      obtain ⟨_, a, b, c, d, _⟩ := layF_good ih hf hl
      exact ⟨a, b, c, d⟩
theorem modify_same {N : List (List UInt8)} {j : Nat} {k : List UInt8} (h : N[j]? = some k) : (nmMap N).modify j (fun _ => (.str k, .bool true)) = nmMap N := by
  apply List.ext_getElem?
  intro i
  rw [List.getElem?_modify]
  by_cases e : j = i
  · subst e
    simp [nmMap, h]
  · simp [e]
theorem res7 : Tryd.f7.results.toList = [.tmp 2, .tmp 3, .tmp 4] := rfl
/-- What New answers. -/
def NewOut (l : List Sd) (out : Out) (h' : AHeap) : Prop :=
  (∃ i e, e ≠ 0 ∧ out = .ret (.tup [.ptr none, .int .i64 i, .int .i64 e])) ∨
  (∃ tb nm st N es, out = .ret (.tup [.ptr (some (tb, 0)), .int .i64 0, .int .i64 0]) ∧ TabAt tb nm st h' N es ∧ (∀ k, k ∈ N ↔ ∃ s ∈ l, s.name = k) ∧ Built N l es)
/-- In the first loop. -/
structure NewInv1 (h : AHeap) (p : Option (Nat × Nat)) (l : List Sd) (i : Nat) (x : St) : Prop where
  n : x.n = 81
  ds : x.ds = []
  rnd : x.rnd = false
  r0 : x.rg.get 0 = some (.slice p l.length)
  r5 : x.rg.get 5 = some (.ptr (some (h.next + 2, 0)))
  r18 : x.rg.get 18 = some (.slice p l.length)
  r19 : x.rg.get 19 = some (.int .i64 l.length)
  r20 : x.rg.get 20 = some (.int .i64 i)
  t : x.h.get (h.next + 2) = some (.cells true 0 [.map (some h.next), .map (some (h.next + 1))])
  nm : ∃ N, x.h.get h.next = some (.map (nmMap N)) ∧ ∀ k, k ∈ N ↔ ∃ s ∈ l.take i, s.name = k
  st : x.h.get (h.next + 1) = some (.map [])
  k : Keep h x.h
  nx : h.next + 3 ≤ x.h.next
/-- In the second. -/
structure NewInv2 (h : AHeap) (p : Option (Nat × Nat)) (l : List Sd) (N : List (List UInt8)) (i : Nat) (es : List Ent) (x : St) : Prop where
  n : x.n = 81
  ds : x.ds = []
  rnd : x.rnd = false
  r5 : x.rg.get 5 = some (.ptr (some (h.next + 2, 0)))
  r31 : x.rg.get 31 = some (.slice p l.length)
  r32 : x.rg.get 32 = some (.int .i64 l.length)
  r33 : x.rg.get 33 = some (.int .i64 i)
  t : TabAt (h.next + 2) h.next (h.next + 1) x.h N es
  k : Keep h x.h

theorem new_w (h : AHeap) (p : Option (Nat × Nat)) (l : List Sd) (hA : ArgAt h p l) (hF : Fresh h) : WCall env 7 [.slice p l.length] h (fun out h' => NewOut l out h' ∧ Keep h h') := by
  refine WCall.body pr7 fn7 rfl (Nat.le_of_ble_eq_true rfl) ?_
  simp only [argsA]
  repeat (first
    | ((first | ((with_reducible apply wpOps_valT); exact rfl; exact rfl) | ((with_reducible apply wpOps_storeN); exact rfl; exact rfl) | ((with_reducible apply dw_pureT); exact rfl; exact rfl; exact rfl) | ((with_reducible apply dw_readT); exact rfl; exact rfl; exact rfl)); (simp only [List.getElem?_toArray, List.toList_toArray, bin_eql, bin_neq, bin_lss, bin_leq, bin_gtr, bin_geq, bin_add, bin_sub, bin_mul, un_not, unA, AHeap.get_bump, AHeap.next_bump, opK0, kMove, kPick, kAlloc, kBox, kBuild, kBuildSlice, kLoad, kStore, kNilCheck, kBinOp, kUnOp, kFieldAddr, kField, kIndexAddr, kIndex, kLookup, kMapUpdate, kMakeMap, kExtract, kSlice, kCall, lenA, evA, evAs, evParts, toAV, toAV0, toAVs, T.get_set, T.get_nil, Nat.reduceAdd, Nat.reduceMul, Nat.reduceEqDiff, Nat.zero_add, Nat.add_zero, Nat.mul_one, Nat.zero_mul, AV.cells, List.all_cons, List.all_nil, AV.scalar, Bool.and_true, Bool.true_and, ↓reduceIte, if_true, und_all, Tryd.underlying3, Tryd.underlying4, Tryd.underlying5, Tryd.underlying9, Tryd.underlying23, Tryd.underlying24, Tryd.underlying31, Tryd.underlying38, Tryd.underlying39, Tryd.underlying40, Tryd.underlying41, Tryd.underlying42, Tryd.underlying45, Tryd.underlying46, Tryd.underlying48, Tryd.underlying50, Tryd.underlying55, Tryd.underlying57, Tryd.underlying67, siz3, agg3, zer3, byt3, siz4, agg4, zer4, byt4, siz5, agg5, zer5, byt5, siz9, agg9, zer9, byt9, siz23, agg23, zer23, byt23, siz24, agg24, zer24, byt24, siz31, agg31, zer31, byt31, siz38, agg38, zer38, byt38, siz39, agg39, zer39, byt39, siz40, agg40, zer40, byt40, siz41, agg41, zer41, byt41, siz42, agg42, zer42, byt42, siz45, agg45, zer45, byt45, siz46, agg46, zer46, byt46, siz48, agg48, zer48, byt48, siz50, agg50, zer50, byt50, siz55, agg55, zer55, byt55, siz57, agg57, zer57, byt57, siz67, agg67, zer67, byt67, AHeap.get_alloc, AHeap.get_set, AHeap.next_alloc, AHeap.next_set, AHeap.loadCells, AHeap.load1, AHeap.storeCells, List.getElem?_cons_zero, List.getElem?_cons_succ, List.length_cons, List.length_nil, List.drop_zero, List.take_succ_cons, List.take_zero, List.drop_succ_cons, List.drop_nil, List.take_nil, List.append_nil, List.cons_append, List.nil_append, binA, isConstO, keyOk, ents_some, Bool.or_true, Bool.or_false, Bool.true_or, Bool.false_or, wantedA, dstOk, Option.bind_some, List.append_nil, Tryd.underlying27, decide_true, decide_false, beq_self_eq_true, Bool.not_true, Bool.not_false, Bool.false_eq_true, if_false, List.zipIdx_cons, reid, toAV, Int.toNat_natCast, Int.natCast_one, Int.natCast_zero] <;> rfl))
    | ((with_reducible apply wpOps_skipT); exact rfl; exact rfl)
    | ((with_reducible apply wpOps_skipN); exact rfl; exact rfl)
    | ((with_reducible apply dw_skipT); exact rfl; exact rfl)
    | (with_reducible apply aw_seq)
    | (with_reducible apply aw_regionL)
    | (with_reducible apply aw_block)
    | (with_reducible apply aw_scope)
    | (with_reducible apply aw_nil)
    | (with_reducible apply aw_then)
    | (with_reducible apply aw_thenR)
    | (with_reducible apply aw_thenE)
    | (with_reducible apply aw_blockR)
    | (with_reducible apply aw_blockN)
    | (with_reducible apply aw_blockE)
    | (with_reducible apply aw_ret)
    | (with_reducible apply aw_exit)
    | (with_reducible apply aw_skip)
    | ((with_reducible apply aw_condT); exact rfl)
    | ((with_reducible apply aw_condF); exact rfl)
    | ((with_reducible apply aw_drawL); (simp only [List.zipIdx_cons, List.zipIdx_nil, Nat.zero_add, Nat.reduceAdd] <;> rfl); kernel_rfl; kernel_rfl)
    | (with_reducible apply dw_nil)
    | fail)

  refine aw_loop (fun k x => ∃ i, i ≤ l.length ∧ k = l.length - i ∧ NewInv1 h p l i x) l.length ?_ ?_
  · refine ⟨0, Nat.zero_le _, rfl, rfl, rfl, rfl, rfl, rfl, rfl, rfl, rfl, ?_, ⟨[], ?_, ?_⟩, ?_, ?_, ?_⟩
    · skip
      simp only [AHeap.get_alloc, AHeap.get_bump, AHeap.next_bump, AHeap.next_set, AHeap.next_alloc, AHeap.get_set]
      repeat (first | rfl | assumption | exact if_pos trivial | exact if_pos rfl | (refine (if_pos trivial).trans ?_) | (refine (if_pos rfl).trans ?_) | (refine (if_neg (by omega)).trans ?_))

    · skip
      simp only [AHeap.get_alloc, AHeap.get_bump, AHeap.next_bump, AHeap.next_set, AHeap.next_alloc, AHeap.get_set]
      repeat (first | rfl | assumption | exact if_pos trivial | exact if_pos rfl | (refine (if_pos trivial).trans ?_) | (refine (if_pos rfl).trans ?_) | (refine (if_neg (by omega)).trans ?_))

    · intro k; simp
    · skip
      simp only [AHeap.get_alloc, AHeap.get_bump, AHeap.next_bump, AHeap.next_set, AHeap.next_alloc, AHeap.get_set]
      repeat (first | rfl | assumption | exact if_pos trivial | exact if_pos rfl | (refine (if_pos trivial).trans ?_) | (refine (if_pos rfl).trans ?_) | (refine (if_neg (by omega)).trans ?_))

    · skip
      try dsimp only
      repeat (first | exact Keep.refl _ | (with_reducible apply Keep.bump) | (with_reducible apply Keep.alloc) | ((with_reducible apply Keep.set); (first | exact Nat.le_refl _ | (omega)); ((try simp only [AHeap.next_alloc, AHeap.next_bump, AHeap.next_set]); omega)))

    · simp only [AHeap.next_alloc]; omega
  · rintro k ⟨rg, n, H, dd, rnd⟩ ⟨i, hi, rfl, hn, hd, hr, r0, r5, r18, r19, r20, t, ⟨N, cn, hN⟩, cs, k1, nx⟩
    dsimp only at hn hd hr r0 r5 r18 r19 r20 t cn cs k1 nx
    subst hn hd hr
    by_cases hlt : i < l.length
    · have g1 : ((i : Int) < (l.length : Int)) = True := eq_true (by omega)
      have g2 : (0 ≤ (i : Int)) = True := eq_true (by omega)
      have hne : l ≠ [] := by rintro rfl; simp at hlt
      obtain ⟨a, rw_, es_, rfl, ha, la⟩ := hA.a hne
      have ha' := (k1.old a la).trans ha
      obtain ⟨s, hs⟩ : ∃ s, l[i]? = some s := ⟨l[i], List.getElem?_eq_getElem hlt⟩
      have g3 := flatS_at l i s hs
      have g4 : (i * 2 + 2 ≤ (flatS l).length) = True := eq_true (by rw [flatS_length]; omega)
      have hfind := find_names s.name N 0
      have htk : l.take (i + 1) = l.take i ++ [s] := by
        rw [List.take_add_one, hs]; rfl
      have hlen := (hA.len s (List.mem_of_getElem? hs)).1
      obtain ⟨sn, sfs, sq⟩ := s
      dsimp only at g3 hfind hlen
      obtain ⟨MM, hMM⟩ : ∃ M, M = nmMap N := ⟨_, rfl⟩
      rw [← hMM] at cn hfind
      have q1 : (h.next + 2 = H.next) = False := eq_false (by omega)
      have q2 : (h.next = H.next) = False := eq_false (by omega)
      have q3 : (h.next + 1 = H.next) = False := eq_false (by omega)
      have wi : IntKind.wrap .i64 ((i : Int) + 1) = ((i + 1 : Nat) : Int) := by
        rw [wr (by omega) (by have := hA.n; omega)]; simp
      rcases hfind with ⟨m1, m2⟩ | ⟨m1, j, m2, m3⟩
      · skip
        repeat (first
          | ((first | ((with_reducible apply wpOps_valT); (first | exact rfl | (apply wantedGT; exact rfl; exact rfl; exact rfl; (simp only [T.get_set, Nat.reduceEqDiff, ↓reduceIte, evA, r0, r5, r18, r19, r20] <;> rfl))); exact rfl) | ((with_reducible apply wpOps_storeN); (first | exact rfl | (apply wantedGT; exact rfl; exact rfl; exact rfl; (simp only [T.get_set, Nat.reduceEqDiff, ↓reduceIte, evA, r0, r5, r18, r19, r20] <;> rfl))); exact rfl) | ((with_reducible apply dw_pureT); (first | exact rfl | (apply wantedGT; exact rfl; exact rfl; exact rfl; (simp only [T.get_set, Nat.reduceEqDiff, ↓reduceIte, evA, r0, r5, r18, r19, r20] <;> rfl))); exact rfl; exact rfl) | ((with_reducible apply dw_readT); (first | exact rfl | (apply wantedGT; exact rfl; exact rfl; exact rfl; (simp only [T.get_set, Nat.reduceEqDiff, ↓reduceIte, evA, r0, r5, r18, r19, r20] <;> rfl))); exact rfl; exact rfl)); (simp only [List.getElem?_toArray, List.toList_toArray, bin_eql, bin_neq, bin_lss, bin_leq, bin_gtr, bin_geq, bin_add, bin_sub, bin_mul, un_not, unA, AHeap.get_bump, AHeap.next_bump, opK0, kMove, kPick, kAlloc, kBox, kBuild, kBuildSlice, kLoad, kStore, kNilCheck, kBinOp, kUnOp, kFieldAddr, kField, kIndexAddr, kIndex, kLookup, kMapUpdate, kMakeMap, kExtract, kSlice, kCall, lenA, evA, evAs, evParts, toAV, toAV0, toAVs, T.get_set, T.get_nil, Nat.reduceAdd, Nat.reduceMul, Nat.reduceEqDiff, Nat.zero_add, Nat.add_zero, Nat.mul_one, Nat.zero_mul, AV.cells, List.all_cons, List.all_nil, AV.scalar, Bool.and_true, Bool.true_and, ↓reduceIte, if_true, und_all, Tryd.underlying3, Tryd.underlying4, Tryd.underlying5, Tryd.underlying9, Tryd.underlying23, Tryd.underlying24, Tryd.underlying31, Tryd.underlying38, Tryd.underlying39, Tryd.underlying40, Tryd.underlying41, Tryd.underlying42, Tryd.underlying45, Tryd.underlying46, Tryd.underlying48, Tryd.underlying50, Tryd.underlying55, Tryd.underlying57, Tryd.underlying67, siz3, agg3, zer3, byt3, siz4, agg4, zer4, byt4, siz5, agg5, zer5, byt5, siz9, agg9, zer9, byt9, siz23, agg23, zer23, byt23, siz24, agg24, zer24, byt24, siz31, agg31, zer31, byt31, siz38, agg38, zer38, byt38, siz39, agg39, zer39, byt39, siz40, agg40, zer40, byt40, siz41, agg41, zer41, byt41, siz42, agg42, zer42, byt42, siz45, agg45, zer45, byt45, siz46, agg46, zer46, byt46, siz48, agg48, zer48, byt48, siz50, agg50, zer50, byt50, siz55, agg55, zer55, byt55, siz57, agg57, zer57, byt57, siz67, agg67, zer67, byt67, AHeap.get_alloc, AHeap.get_set, AHeap.next_alloc, AHeap.next_set, AHeap.loadCells, AHeap.load1, AHeap.storeCells, List.getElem?_cons_zero, List.getElem?_cons_succ, List.length_cons, List.length_nil, List.drop_zero, List.take_succ_cons, List.take_zero, List.drop_succ_cons, List.drop_nil, List.take_nil, List.append_nil, List.cons_append, List.nil_append, binA, isConstO, keyOk, ents_some, Bool.or_true, Bool.or_false, Bool.true_or, Bool.false_or, wantedA, dstOk, Option.bind_some, List.append_nil, Tryd.underlying27, decide_true, decide_false, beq_self_eq_true, Bool.not_true, Bool.not_false, Bool.false_eq_true, if_false, List.zipIdx_cons, reid, toAV, Int.toNat_natCast, Int.natCast_one, Int.natCast_zero, g1, g2, g3, g4, ha', and_self, t, cn, q1, q2, q3, m2, wi, r0, r5, r18, r19, r20] <;> rfl))
          | ((with_reducible apply wpOps_skipT); (first | exact rfl | (apply wantedGF; exact rfl; exact rfl; exact rfl; (simp only [T.get_set, Nat.reduceEqDiff, ↓reduceIte, evA, r0, r5, r18, r19, r20] <;> rfl)) | (apply wantedZ; exact rfl; exact rfl; exact rfl; (simp only [T.get_set, Nat.reduceEqDiff, ↓reduceIte, evA, r0, r5, r18, r19, r20] <;> rfl))); exact rfl)
          | ((with_reducible apply wpOps_skipN); (first | exact rfl | (apply wantedGF; exact rfl; exact rfl; exact rfl; (simp only [T.get_set, Nat.reduceEqDiff, ↓reduceIte, evA, r0, r5, r18, r19, r20] <;> rfl)) | (apply wantedZ; exact rfl; exact rfl; exact rfl; (simp only [T.get_set, Nat.reduceEqDiff, ↓reduceIte, evA, r0, r5, r18, r19, r20] <;> rfl))); exact rfl)
          | ((with_reducible apply dw_storeN); (first | exact rfl | (apply wantedGT; exact rfl; exact rfl; exact rfl; (simp only [T.get_set, Nat.reduceEqDiff, ↓reduceIte, evA, r0, r5, r18, r19, r20] <;> rfl))); exact rfl; exact rfl; (simp only [List.getElem?_toArray, List.toList_toArray, bin_eql, bin_neq, bin_lss, bin_leq, bin_gtr, bin_geq, bin_add, bin_sub, bin_mul, un_not, unA, AHeap.get_bump, AHeap.next_bump, opK0, kMove, kPick, kAlloc, kBox, kBuild, kBuildSlice, kLoad, kStore, kNilCheck, kBinOp, kUnOp, kFieldAddr, kField, kIndexAddr, kIndex, kLookup, kMapUpdate, kMakeMap, kExtract, kSlice, kCall, lenA, evA, evAs, evParts, toAV, toAV0, toAVs, T.get_set, T.get_nil, Nat.reduceAdd, Nat.reduceMul, Nat.reduceEqDiff, Nat.zero_add, Nat.add_zero, Nat.mul_one, Nat.zero_mul, AV.cells, List.all_cons, List.all_nil, AV.scalar, Bool.and_true, Bool.true_and, ↓reduceIte, if_true, und_all, Tryd.underlying3, Tryd.underlying4, Tryd.underlying5, Tryd.underlying9, Tryd.underlying23, Tryd.underlying24, Tryd.underlying31, Tryd.underlying38, Tryd.underlying39, Tryd.underlying40, Tryd.underlying41, Tryd.underlying42, Tryd.underlying45, Tryd.underlying46, Tryd.underlying48, Tryd.underlying50, Tryd.underlying55, Tryd.underlying57, Tryd.underlying67, siz3, agg3, zer3, byt3, siz4, agg4, zer4, byt4, siz5, agg5, zer5, byt5, siz9, agg9, zer9, byt9, siz23, agg23, zer23, byt23, siz24, agg24, zer24, byt24, siz31, agg31, zer31, byt31, siz38, agg38, zer38, byt38, siz39, agg39, zer39, byt39, siz40, agg40, zer40, byt40, siz41, agg41, zer41, byt41, siz42, agg42, zer42, byt42, siz45, agg45, zer45, byt45, siz46, agg46, zer46, byt46, siz48, agg48, zer48, byt48, siz50, agg50, zer50, byt50, siz55, agg55, zer55, byt55, siz57, agg57, zer57, byt57, siz67, agg67, zer67, byt67, AHeap.get_alloc, AHeap.get_set, AHeap.next_alloc, AHeap.next_set, AHeap.loadCells, AHeap.load1, AHeap.storeCells, List.getElem?_cons_zero, List.getElem?_cons_succ, List.length_cons, List.length_nil, List.drop_zero, List.take_succ_cons, List.take_zero, List.drop_succ_cons, List.drop_nil, List.take_nil, List.append_nil, List.cons_append, List.nil_append, binA, isConstO, keyOk, ents_some, Bool.or_true, Bool.or_false, Bool.true_or, Bool.false_or, wantedA, dstOk, Option.bind_some, List.append_nil, Tryd.underlying27, decide_true, decide_false, beq_self_eq_true, Bool.not_true, Bool.not_false, Bool.false_eq_true, if_false, List.zipIdx_cons, reid, toAV, Int.toNat_natCast, Int.natCast_one, Int.natCast_zero, g1, g2, g3, g4, ha', and_self, t, cn, q1, q2, q3, m2, wi, r0, r5, r18, r19, r20] <;> rfl); kernel_rfl; kernel_rfl)
          | ((with_reducible apply dw_skipT); (first | exact rfl | (apply wantedGF; exact rfl; exact rfl; exact rfl; (simp only [T.get_set, Nat.reduceEqDiff, ↓reduceIte, evA, r0, r5, r18, r19, r20] <;> rfl)) | (apply wantedZ; exact rfl; exact rfl; exact rfl; (simp only [T.get_set, Nat.reduceEqDiff, ↓reduceIte, evA, r0, r5, r18, r19, r20] <;> rfl))); exact rfl)
          | (with_reducible apply aw_seq)
          | (with_reducible apply aw_regionL)
          | (with_reducible apply aw_block)
          | (with_reducible apply aw_scope)
          | (with_reducible apply aw_nil)
          | (with_reducible apply aw_then)
          | (with_reducible apply aw_thenR)
          | (with_reducible apply aw_thenE)
          | (with_reducible apply aw_blockR)
          | (with_reducible apply aw_blockN)
          | (with_reducible apply aw_blockE)
          | (with_reducible apply aw_ret)
          | (with_reducible apply aw_exit)
          | (with_reducible apply aw_skip)
          | ((with_reducible apply aw_condT); (first | exact rfl | (simp only [T.get_set, Nat.reduceEqDiff, ↓reduceIte, evA, r0, r5, r18, r19, r20] <;> rfl)))
          | ((with_reducible apply aw_condF); (first | exact rfl | (simp only [T.get_set, Nat.reduceEqDiff, ↓reduceIte, evA, r0, r5, r18, r19, r20] <;> rfl)))
          | ((with_reducible apply aw_drawL); (simp only [List.zipIdx_cons, List.zipIdx_nil, Nat.zero_add, Nat.reduceAdd] <;> rfl); kernel_rfl; kernel_rfl)
          | (with_reducible apply dw_nil)
          | fail)

        have M1 : nmMap (N ++ [sn]) = MM ++ [(.str sn, .bool true)] := by rw [hMM]; simp [nmMap]
        refine ⟨l.length - (i + 1), by omega, i + 1, hlt, rfl, rfl, rfl, rfl, by (first | exact rfl | (simp only [T.get_set, Nat.reduceEqDiff, ↓reduceIte, evA, r0, r5, r18, r19, r20] <;> rfl)), by (first | exact rfl | (simp only [T.get_set, Nat.reduceEqDiff, ↓reduceIte, evA, r0, r5, r18, r19, r20] <;> rfl)), by (first | exact rfl | (simp only [T.get_set, Nat.reduceEqDiff, ↓reduceIte, evA, r0, r5, r18, r19, r20] <;> rfl)), by (first | exact rfl | (simp only [T.get_set, Nat.reduceEqDiff, ↓reduceIte, evA, r0, r5, r18, r19, r20] <;> rfl)), by (first | exact rfl | (simp only [T.get_set, Nat.reduceEqDiff, ↓reduceIte, evA, r0, r5, r18, r19, r20] <;> rfl)), ?_, ⟨N ++ [sn], ?_, ?_⟩, ?_, ?_, ?_⟩
        · skip
          simp only [AHeap.get_alloc, AHeap.get_bump, AHeap.next_bump, AHeap.next_set, AHeap.next_alloc, AHeap.get_set]
          repeat (first | rfl | assumption | exact if_pos trivial | exact if_pos rfl | (refine (if_pos trivial).trans ?_) | (refine (if_pos rfl).trans ?_) | (refine (if_neg (by omega)).trans ?_))

        · rw [M1]
          simp only [AHeap.get_alloc, AHeap.get_bump, AHeap.next_bump, AHeap.next_set, AHeap.next_alloc, AHeap.get_set]
          repeat (first | rfl | assumption | exact if_pos trivial | exact if_pos rfl | (refine (if_pos trivial).trans ?_) | (refine (if_pos rfl).trans ?_) | (refine (if_neg (by omega)).trans ?_))

        · intro k
          rw [htk]
          simp only [List.mem_append, List.mem_singleton]
          constructor
          · rintro (h | rfl)
            · obtain ⟨s, h1, h2⟩ := (hN k).1 h
              exact ⟨s, .inl h1, h2⟩
            · exact ⟨_, .inr rfl, rfl⟩
          · rintro ⟨s, h | rfl, rfl⟩
            · exact .inl ((hN _).2 ⟨s, h, rfl⟩)
            · exact .inr rfl
        · skip
          simp only [AHeap.get_alloc, AHeap.get_bump, AHeap.next_bump, AHeap.next_set, AHeap.next_alloc, AHeap.get_set]
          repeat (first | rfl | assumption | exact if_pos trivial | exact if_pos rfl | (refine (if_pos trivial).trans ?_) | (refine (if_pos rfl).trans ?_) | (refine (if_neg (by omega)).trans ?_))

        · skip
          try dsimp only
          repeat (first | exact Keep.refl _ | exact k1 | (with_reducible apply Keep.bump) | (with_reducible apply Keep.alloc) | ((with_reducible apply Keep.set); (first | exact Nat.le_refl _ | (have := Keep.next k1; omega)); ((try simp only [AHeap.next_alloc, AHeap.next_bump, AHeap.next_set]); have := Keep.next k1; omega)))

        · simp only [AHeap.next_set, AHeap.next_bump, AHeap.next_alloc]; omega
      · simp only [Nat.zero_add] at m2
        repeat (first
          | ((first | ((with_reducible apply wpOps_valT); (first | exact rfl | (apply wantedGT; exact rfl; exact rfl; exact rfl; (simp only [T.get_set, Nat.reduceEqDiff, ↓reduceIte, evA, r0, r5, r18, r19, r20] <;> rfl))); exact rfl) | ((with_reducible apply wpOps_storeN); (first | exact rfl | (apply wantedGT; exact rfl; exact rfl; exact rfl; (simp only [T.get_set, Nat.reduceEqDiff, ↓reduceIte, evA, r0, r5, r18, r19, r20] <;> rfl))); exact rfl) | ((with_reducible apply dw_pureT); (first | exact rfl | (apply wantedGT; exact rfl; exact rfl; exact rfl; (simp only [T.get_set, Nat.reduceEqDiff, ↓reduceIte, evA, r0, r5, r18, r19, r20] <;> rfl))); exact rfl; exact rfl) | ((with_reducible apply dw_readT); (first | exact rfl | (apply wantedGT; exact rfl; exact rfl; exact rfl; (simp only [T.get_set, Nat.reduceEqDiff, ↓reduceIte, evA, r0, r5, r18, r19, r20] <;> rfl))); exact rfl; exact rfl)); (simp only [List.getElem?_toArray, List.toList_toArray, bin_eql, bin_neq, bin_lss, bin_leq, bin_gtr, bin_geq, bin_add, bin_sub, bin_mul, un_not, unA, AHeap.get_bump, AHeap.next_bump, opK0, kMove, kPick, kAlloc, kBox, kBuild, kBuildSlice, kLoad, kStore, kNilCheck, kBinOp, kUnOp, kFieldAddr, kField, kIndexAddr, kIndex, kLookup, kMapUpdate, kMakeMap, kExtract, kSlice, kCall, lenA, evA, evAs, evParts, toAV, toAV0, toAVs, T.get_set, T.get_nil, Nat.reduceAdd, Nat.reduceMul, Nat.reduceEqDiff, Nat.zero_add, Nat.add_zero, Nat.mul_one, Nat.zero_mul, AV.cells, List.all_cons, List.all_nil, AV.scalar, Bool.and_true, Bool.true_and, ↓reduceIte, if_true, und_all, Tryd.underlying3, Tryd.underlying4, Tryd.underlying5, Tryd.underlying9, Tryd.underlying23, Tryd.underlying24, Tryd.underlying31, Tryd.underlying38, Tryd.underlying39, Tryd.underlying40, Tryd.underlying41, Tryd.underlying42, Tryd.underlying45, Tryd.underlying46, Tryd.underlying48, Tryd.underlying50, Tryd.underlying55, Tryd.underlying57, Tryd.underlying67, siz3, agg3, zer3, byt3, siz4, agg4, zer4, byt4, siz5, agg5, zer5, byt5, siz9, agg9, zer9, byt9, siz23, agg23, zer23, byt23, siz24, agg24, zer24, byt24, siz31, agg31, zer31, byt31, siz38, agg38, zer38, byt38, siz39, agg39, zer39, byt39, siz40, agg40, zer40, byt40, siz41, agg41, zer41, byt41, siz42, agg42, zer42, byt42, siz45, agg45, zer45, byt45, siz46, agg46, zer46, byt46, siz48, agg48, zer48, byt48, siz50, agg50, zer50, byt50, siz55, agg55, zer55, byt55, siz57, agg57, zer57, byt57, siz67, agg67, zer67, byt67, AHeap.get_alloc, AHeap.get_set, AHeap.next_alloc, AHeap.next_set, AHeap.loadCells, AHeap.load1, AHeap.storeCells, List.getElem?_cons_zero, List.getElem?_cons_succ, List.length_cons, List.length_nil, List.drop_zero, List.take_succ_cons, List.take_zero, List.drop_succ_cons, List.drop_nil, List.take_nil, List.append_nil, List.cons_append, List.nil_append, binA, isConstO, keyOk, ents_some, Bool.or_true, Bool.or_false, Bool.true_or, Bool.false_or, wantedA, dstOk, Option.bind_some, List.append_nil, Tryd.underlying27, decide_true, decide_false, beq_self_eq_true, Bool.not_true, Bool.not_false, Bool.false_eq_true, if_false, List.zipIdx_cons, reid, toAV, Int.toNat_natCast, Int.natCast_one, Int.natCast_zero, g1, g2, g3, g4, ha', and_self, t, cn, q1, q2, q3, m2, wi, r0, r5, r18, r19, r20] <;> rfl))
          | ((with_reducible apply wpOps_skipT); (first | exact rfl | (apply wantedGF; exact rfl; exact rfl; exact rfl; (simp only [T.get_set, Nat.reduceEqDiff, ↓reduceIte, evA, r0, r5, r18, r19, r20] <;> rfl)) | (apply wantedZ; exact rfl; exact rfl; exact rfl; (simp only [T.get_set, Nat.reduceEqDiff, ↓reduceIte, evA, r0, r5, r18, r19, r20] <;> rfl))); exact rfl)
          | ((with_reducible apply wpOps_skipN); (first | exact rfl | (apply wantedGF; exact rfl; exact rfl; exact rfl; (simp only [T.get_set, Nat.reduceEqDiff, ↓reduceIte, evA, r0, r5, r18, r19, r20] <;> rfl)) | (apply wantedZ; exact rfl; exact rfl; exact rfl; (simp only [T.get_set, Nat.reduceEqDiff, ↓reduceIte, evA, r0, r5, r18, r19, r20] <;> rfl))); exact rfl)
          | ((with_reducible apply dw_storeN); (first | exact rfl | (apply wantedGT; exact rfl; exact rfl; exact rfl; (simp only [T.get_set, Nat.reduceEqDiff, ↓reduceIte, evA, r0, r5, r18, r19, r20] <;> rfl))); exact rfl; exact rfl; (simp only [List.getElem?_toArray, List.toList_toArray, bin_eql, bin_neq, bin_lss, bin_leq, bin_gtr, bin_geq, bin_add, bin_sub, bin_mul, un_not, unA, AHeap.get_bump, AHeap.next_bump, opK0, kMove, kPick, kAlloc, kBox, kBuild, kBuildSlice, kLoad, kStore, kNilCheck, kBinOp, kUnOp, kFieldAddr, kField, kIndexAddr, kIndex, kLookup, kMapUpdate, kMakeMap, kExtract, kSlice, kCall, lenA, evA, evAs, evParts, toAV, toAV0, toAVs, T.get_set, T.get_nil, Nat.reduceAdd, Nat.reduceMul, Nat.reduceEqDiff, Nat.zero_add, Nat.add_zero, Nat.mul_one, Nat.zero_mul, AV.cells, List.all_cons, List.all_nil, AV.scalar, Bool.and_true, Bool.true_and, ↓reduceIte, if_true, und_all, Tryd.underlying3, Tryd.underlying4, Tryd.underlying5, Tryd.underlying9, Tryd.underlying23, Tryd.underlying24, Tryd.underlying31, Tryd.underlying38, Tryd.underlying39, Tryd.underlying40, Tryd.underlying41, Tryd.underlying42, Tryd.underlying45, Tryd.underlying46, Tryd.underlying48, Tryd.underlying50, Tryd.underlying55, Tryd.underlying57, Tryd.underlying67, siz3, agg3, zer3, byt3, siz4, agg4, zer4, byt4, siz5, agg5, zer5, byt5, siz9, agg9, zer9, byt9, siz23, agg23, zer23, byt23, siz24, agg24, zer24, byt24, siz31, agg31, zer31, byt31, siz38, agg38, zer38, byt38, siz39, agg39, zer39, byt39, siz40, agg40, zer40, byt40, siz41, agg41, zer41, byt41, siz42, agg42, zer42, byt42, siz45, agg45, zer45, byt45, siz46, agg46, zer46, byt46, siz48, agg48, zer48, byt48, siz50, agg50, zer50, byt50, siz55, agg55, zer55, byt55, siz57, agg57, zer57, byt57, siz67, agg67, zer67, byt67, AHeap.get_alloc, AHeap.get_set, AHeap.next_alloc, AHeap.next_set, AHeap.loadCells, AHeap.load1, AHeap.storeCells, List.getElem?_cons_zero, List.getElem?_cons_succ, List.length_cons, List.length_nil, List.drop_zero, List.take_succ_cons, List.take_zero, List.drop_succ_cons, List.drop_nil, List.take_nil, List.append_nil, List.cons_append, List.nil_append, binA, isConstO, keyOk, ents_some, Bool.or_true, Bool.or_false, Bool.true_or, Bool.false_or, wantedA, dstOk, Option.bind_some, List.append_nil, Tryd.underlying27, decide_true, decide_false, beq_self_eq_true, Bool.not_true, Bool.not_false, Bool.false_eq_true, if_false, List.zipIdx_cons, reid, toAV, Int.toNat_natCast, Int.natCast_one, Int.natCast_zero, g1, g2, g3, g4, ha', and_self, t, cn, q1, q2, q3, m2, wi, r0, r5, r18, r19, r20] <;> rfl); kernel_rfl; kernel_rfl)
          | ((with_reducible apply dw_skipT); (first | exact rfl | (apply wantedGF; exact rfl; exact rfl; exact rfl; (simp only [T.get_set, Nat.reduceEqDiff, ↓reduceIte, evA, r0, r5, r18, r19, r20] <;> rfl)) | (apply wantedZ; exact rfl; exact rfl; exact rfl; (simp only [T.get_set, Nat.reduceEqDiff, ↓reduceIte, evA, r0, r5, r18, r19, r20] <;> rfl))); exact rfl)
          | (with_reducible apply aw_seq)
          | (with_reducible apply aw_regionL)
          | (with_reducible apply aw_block)
          | (with_reducible apply aw_scope)
          | (with_reducible apply aw_nil)
          | (with_reducible apply aw_then)
          | (with_reducible apply aw_thenR)
          | (with_reducible apply aw_thenE)
          | (with_reducible apply aw_blockR)
          | (with_reducible apply aw_blockN)
          | (with_reducible apply aw_blockE)
          | (with_reducible apply aw_ret)
          | (with_reducible apply aw_exit)
          | (with_reducible apply aw_skip)
          | ((with_reducible apply aw_condT); (first | exact rfl | (simp only [T.get_set, Nat.reduceEqDiff, ↓reduceIte, evA, r0, r5, r18, r19, r20] <;> rfl)))
          | ((with_reducible apply aw_condF); (first | exact rfl | (simp only [T.get_set, Nat.reduceEqDiff, ↓reduceIte, evA, r0, r5, r18, r19, r20] <;> rfl)))
          | ((with_reducible apply aw_drawL); (simp only [List.zipIdx_cons, List.zipIdx_nil, Nat.zero_add, Nat.reduceAdd] <;> rfl); kernel_rfl; kernel_rfl)
          | (with_reducible apply dw_nil)
          | fail)

        have M2 : some (AObj.map (MM.modify j fun x => (.str sn, .bool true))) = some (AObj.map (nmMap N)) := by rw [hMM, modify_same m3]
        refine ⟨l.length - (i + 1), by omega, i + 1, hlt, rfl, rfl, rfl, rfl, by (first | exact rfl | (simp only [T.get_set, Nat.reduceEqDiff, ↓reduceIte, evA, r0, r5, r18, r19, r20] <;> rfl)), by (first | exact rfl | (simp only [T.get_set, Nat.reduceEqDiff, ↓reduceIte, evA, r0, r5, r18, r19, r20] <;> rfl)), by (first | exact rfl | (simp only [T.get_set, Nat.reduceEqDiff, ↓reduceIte, evA, r0, r5, r18, r19, r20] <;> rfl)), by (first | exact rfl | (simp only [T.get_set, Nat.reduceEqDiff, ↓reduceIte, evA, r0, r5, r18, r19, r20] <;> rfl)), by (first | exact rfl | (simp only [T.get_set, Nat.reduceEqDiff, ↓reduceIte, evA, r0, r5, r18, r19, r20] <;> rfl)), ?_, ⟨N, ?_, ?_⟩, ?_, ?_, ?_⟩
        · skip
          simp only [AHeap.get_alloc, AHeap.get_bump, AHeap.next_bump, AHeap.next_set, AHeap.next_alloc, AHeap.get_set]
          repeat (first | rfl | assumption | exact if_pos trivial | exact if_pos rfl | (refine (if_pos trivial).trans ?_) | (refine (if_pos rfl).trans ?_) | (refine (if_neg (by omega)).trans ?_))

        · skip
          simp only [AHeap.get_alloc, AHeap.get_bump, AHeap.next_bump, AHeap.next_set, AHeap.next_alloc, AHeap.get_set]
          repeat (first | rfl | assumption | exact if_pos trivial | exact if_pos rfl | (refine (if_pos trivial).trans ?_) | (refine (if_pos rfl).trans ?_) | (refine (if_neg (by omega)).trans ?_))

        · intro k
          rw [htk]
          simp only [List.mem_append, List.mem_singleton]
          constructor
          · intro h
            obtain ⟨s, h1, h2⟩ := (hN k).1 h
            exact ⟨s, .inl h1, h2⟩
          · rintro ⟨s, h | rfl, rfl⟩
            · exact (hN _).2 ⟨s, h, rfl⟩
            · exact m1
        · skip
          simp only [AHeap.get_alloc, AHeap.get_bump, AHeap.next_bump, AHeap.next_set, AHeap.next_alloc, AHeap.get_set]
          repeat (first | rfl | assumption | exact if_pos trivial | exact if_pos rfl | (refine (if_pos trivial).trans ?_) | (refine (if_pos rfl).trans ?_) | (refine (if_neg (by omega)).trans ?_))

        · skip
          try dsimp only
          repeat (first | exact Keep.refl _ | exact k1 | (with_reducible apply Keep.bump) | (with_reducible apply Keep.alloc) | ((with_reducible apply Keep.set); (first | exact Nat.le_refl _ | (have := Keep.next k1; omega)); ((try simp only [AHeap.next_alloc, AHeap.next_bump, AHeap.next_set]); have := Keep.next k1; omega)))

        · simp only [AHeap.next_set, AHeap.next_bump, AHeap.next_alloc]; omega
    · have g1 : ((i : Int) < (l.length : Int)) = False := eq_false (by omega)
      repeat (first
        | ((first | ((with_reducible apply wpOps_valT); (first | exact rfl | (apply wantedGT; exact rfl; exact rfl; exact rfl; (simp only [T.get_set, Nat.reduceEqDiff, ↓reduceIte, evA, r0, r5, r18, r19, r20] <;> rfl))); exact rfl) | ((with_reducible apply wpOps_storeN); (first | exact rfl | (apply wantedGT; exact rfl; exact rfl; exact rfl; (simp only [T.get_set, Nat.reduceEqDiff, ↓reduceIte, evA, r0, r5, r18, r19, r20] <;> rfl))); exact rfl) | ((with_reducible apply dw_pureT); (first | exact rfl | (apply wantedGT; exact rfl; exact rfl; exact rfl; (simp only [T.get_set, Nat.reduceEqDiff, ↓reduceIte, evA, r0, r5, r18, r19, r20] <;> rfl))); exact rfl; exact rfl) | ((with_reducible apply dw_readT); (first | exact rfl | (apply wantedGT; exact rfl; exact rfl; exact rfl; (simp only [T.get_set, Nat.reduceEqDiff, ↓reduceIte, evA, r0, r5, r18, r19, r20] <;> rfl))); exact rfl; exact rfl)); (simp only [List.getElem?_toArray, List.toList_toArray, bin_eql, bin_neq, bin_lss, bin_leq, bin_gtr, bin_geq, bin_add, bin_sub, bin_mul, un_not, unA, AHeap.get_bump, AHeap.next_bump, opK0, kMove, kPick, kAlloc, kBox, kBuild, kBuildSlice, kLoad, kStore, kNilCheck, kBinOp, kUnOp, kFieldAddr, kField, kIndexAddr, kIndex, kLookup, kMapUpdate, kMakeMap, kExtract, kSlice, kCall, lenA, evA, evAs, evParts, toAV, toAV0, toAVs, T.get_set, T.get_nil, Nat.reduceAdd, Nat.reduceMul, Nat.reduceEqDiff, Nat.zero_add, Nat.add_zero, Nat.mul_one, Nat.zero_mul, AV.cells, List.all_cons, List.all_nil, AV.scalar, Bool.and_true, Bool.true_and, ↓reduceIte, if_true, und_all, Tryd.underlying3, Tryd.underlying4, Tryd.underlying5, Tryd.underlying9, Tryd.underlying23, Tryd.underlying24, Tryd.underlying31, Tryd.underlying38, Tryd.underlying39, Tryd.underlying40, Tryd.underlying41, Tryd.underlying42, Tryd.underlying45, Tryd.underlying46, Tryd.underlying48, Tryd.underlying50, Tryd.underlying55, Tryd.underlying57, Tryd.underlying67, siz3, agg3, zer3, byt3, siz4, agg4, zer4, byt4, siz5, agg5, zer5, byt5, siz9, agg9, zer9, byt9, siz23, agg23, zer23, byt23, siz24, agg24, zer24, byt24, siz31, agg31, zer31, byt31, siz38, agg38, zer38, byt38, siz39, agg39, zer39, byt39, siz40, agg40, zer40, byt40, siz41, agg41, zer41, byt41, siz42, agg42, zer42, byt42, siz45, agg45, zer45, byt45, siz46, agg46, zer46, byt46, siz48, agg48, zer48, byt48, siz50, agg50, zer50, byt50, siz55, agg55, zer55, byt55, siz57, agg57, zer57, byt57, siz67, agg67, zer67, byt67, AHeap.get_alloc, AHeap.get_set, AHeap.next_alloc, AHeap.next_set, AHeap.loadCells, AHeap.load1, AHeap.storeCells, List.getElem?_cons_zero, List.getElem?_cons_succ, List.length_cons, List.length_nil, List.drop_zero, List.take_succ_cons, List.take_zero, List.drop_succ_cons, List.drop_nil, List.take_nil, List.append_nil, List.cons_append, List.nil_append, binA, isConstO, keyOk, ents_some, Bool.or_true, Bool.or_false, Bool.true_or, Bool.false_or, wantedA, dstOk, Option.bind_some, List.append_nil, Tryd.underlying27, decide_true, decide_false, beq_self_eq_true, Bool.not_true, Bool.not_false, Bool.false_eq_true, if_false, List.zipIdx_cons, reid, toAV, Int.toNat_natCast, Int.natCast_one, Int.natCast_zero, g1, r0, r5, r18, r19, r20] <;> rfl))
        | ((with_reducible apply wpOps_skipT); (first | exact rfl | (apply wantedGF; exact rfl; exact rfl; exact rfl; (simp only [T.get_set, Nat.reduceEqDiff, ↓reduceIte, evA, r0, r5, r18, r19, r20] <;> rfl)) | (apply wantedZ; exact rfl; exact rfl; exact rfl; (simp only [T.get_set, Nat.reduceEqDiff, ↓reduceIte, evA, r0, r5, r18, r19, r20] <;> rfl))); exact rfl)
        | ((with_reducible apply wpOps_skipN); (first | exact rfl | (apply wantedGF; exact rfl; exact rfl; exact rfl; (simp only [T.get_set, Nat.reduceEqDiff, ↓reduceIte, evA, r0, r5, r18, r19, r20] <;> rfl)) | (apply wantedZ; exact rfl; exact rfl; exact rfl; (simp only [T.get_set, Nat.reduceEqDiff, ↓reduceIte, evA, r0, r5, r18, r19, r20] <;> rfl))); exact rfl)
        | ((with_reducible apply dw_skipT); (first | exact rfl | (apply wantedGF; exact rfl; exact rfl; exact rfl; (simp only [T.get_set, Nat.reduceEqDiff, ↓reduceIte, evA, r0, r5, r18, r19, r20] <;> rfl)) | (apply wantedZ; exact rfl; exact rfl; exact rfl; (simp only [T.get_set, Nat.reduceEqDiff, ↓reduceIte, evA, r0, r5, r18, r19, r20] <;> rfl))); exact rfl)
        | (with_reducible apply aw_seq)
        | (with_reducible apply aw_regionL)
        | (with_reducible apply aw_block)
        | (with_reducible apply aw_scope)
        | (with_reducible apply aw_nil)
        | (with_reducible apply aw_then)
        | (with_reducible apply aw_thenR)
        | (with_reducible apply aw_thenE)
        | (with_reducible apply aw_blockR)
        | (with_reducible apply aw_blockN)
        | (with_reducible apply aw_blockE)
        | (with_reducible apply aw_ret)
        | (with_reducible apply aw_exit)
        | (with_reducible apply aw_skip)
        | ((with_reducible apply aw_condT); (first | exact rfl | (simp only [T.get_set, Nat.reduceEqDiff, ↓reduceIte, evA, r0, r5, r18, r19, r20] <;> rfl)))
        | ((with_reducible apply aw_condF); (first | exact rfl | (simp only [T.get_set, Nat.reduceEqDiff, ↓reduceIte, evA, r0, r5, r18, r19, r20] <;> rfl)))
        | ((with_reducible apply aw_drawL); (simp only [List.zipIdx_cons, List.zipIdx_nil, Nat.zero_add, Nat.reduceAdd] <;> rfl); kernel_rfl; kernel_rfl)
        | (with_reducible apply dw_nil)
        | fail)

      rw [List.take_of_length_le (by omega)] at hN
      refine aw_loop (fun k x => ∃ i es, i ≤ l.length ∧ k = l.length - i ∧ Built N (l.take i) es ∧ NewInv2 h p l N i es x) l.length ?_ ?_
      · refine ⟨0, [], Nat.zero_le _, rfl, .nil, rfl, rfl, rfl, by (first | exact rfl | (simp only [T.get_set, Nat.reduceEqDiff, ↓reduceIte, evA, r0, r5, r18, r19, r20] <;> rfl)), by (first | exact rfl | (simp only [T.get_set, Nat.reduceEqDiff, ↓reduceIte, evA, r0, r5, r18, r19, r20] <;> rfl)), by (first | exact rfl | (simp only [T.get_set, Nat.reduceEqDiff, ↓reduceIte, evA, r0, r5, r18, r19, r20] <;> rfl)), by (first | exact rfl | (simp only [T.get_set, Nat.reduceEqDiff, ↓reduceIte, evA, r0, r5, r18, r19, r20] <;> rfl)), ?_, k1⟩
        exact ⟨t, cn, cs, (fun e he => by cases he), by dsimp only; omega, by dsimp only; omega, by dsimp only; omega, (fun e he => by cases he), by omega⟩
      clear k1 nx t cn cs r0 r5 r18 r19 r20 hi hlt g1 rg H i
      rintro k ⟨rg, n, H, dd, rnd⟩ ⟨i, es, hi, rfl, hB, hn, hd, hr, r5, r31, r32, r33, hT, k1⟩
      dsimp only at hn hd hr r5 r31 r32 r33 hT k1
      subst hn hd hr
      by_cases hlt : i < l.length
      · have g1 : ((i : Int) < (l.length : Int)) = True := eq_true (by omega)
        have g2 : (0 ≤ (i : Int)) = True := eq_true (by omega)
        have hne : l ≠ [] := by rintro rfl; simp at hlt
        obtain ⟨a, rw_, es_, rfl, ha, la⟩ := hA.a hne
        have ha' := (k1.old a la).trans ha
        obtain ⟨s, hs⟩ : ∃ s, l[i]? = some s := ⟨l[i], List.getElem?_eq_getElem hlt⟩
        have hsm := List.mem_of_getElem? hs
        have g3 := flatS_at l i s hs
        have g4 : (i * 2 + 2 ≤ (flatS l).length) = True := eq_true (by rw [flatS_length]; omega)
        have htk : l.take (i + 1) = l.take i ++ [s] := by
          rw [List.take_add_one, hs]; rfl
        have hfind := find_ents s.name es 0
        have c1 := hT.t
        have c2 := hT.n
        have c3 := hT.s
        have lt1 := hT.lt
        have lt2 := hT.ln
        have lt3 := hT.ls
        have FH := k1.fresh hF
        obtain ⟨SS, hSS⟩ : ∃ M, M = stMap es := ⟨_, rfl⟩
        rw [← hSS] at c3 hfind
        have q1 : (h.next + 2 = H.next) = False := eq_false (by omega)
        have q2 : (h.next = H.next) = False := eq_false (by omega)
        have q3 : (h.next + 1 = H.next) = False := eq_false (by omega)
        have q4 : (h.next + 2 = H.next + 1 + 10) = False := eq_false (by omega)
        have q5 : (H.next = H.next + 1 + 10) = False := eq_false (by omega)
        have z1 : H.get (H.next + 1 + 10) = Option.none := FH _ (by omega)
        have z2 : (H.next + 1 + 10 = H.next) = False := eq_false (by omega)
        have wi : IntKind.wrap .i64 ((i : Int) + 1) = ((i + 1 : Nat) : Int) := by
          rw [wr (by omega) (by have := hA.n; omega)]; simp
        obtain ⟨sn, sfs, sq⟩ := s
        dsimp only at g3 hfind
        rcases hfind with ⟨m0, m2⟩ | ⟨e, m1, j, m2⟩
        · by_cases hsf : sfs = []
          · subst hsf
            repeat (first
              | ((first | ((with_reducible apply wpOps_valT); (first | exact rfl | (apply wantedGT; exact rfl; exact rfl; exact rfl; (simp only [T.get_set, Nat.reduceEqDiff, ↓reduceIte, evA, r5, r31, r32, r33] <;> rfl))); exact rfl) | ((with_reducible apply wpOps_storeN); (first | exact rfl | (apply wantedGT; exact rfl; exact rfl; exact rfl; (simp only [T.get_set, Nat.reduceEqDiff, ↓reduceIte, evA, r5, r31, r32, r33] <;> rfl))); exact rfl) | ((with_reducible apply dw_pureT); (first | exact rfl | (apply wantedGT; exact rfl; exact rfl; exact rfl; (simp only [T.get_set, Nat.reduceEqDiff, ↓reduceIte, evA, r5, r31, r32, r33] <;> rfl))); exact rfl; exact rfl) | ((with_reducible apply dw_readT); (first | exact rfl | (apply wantedGT; exact rfl; exact rfl; exact rfl; (simp only [T.get_set, Nat.reduceEqDiff, ↓reduceIte, evA, r5, r31, r32, r33] <;> rfl))); exact rfl; exact rfl)); (simp only [List.getElem?_toArray, List.toList_toArray, bin_eql, bin_neq, bin_lss, bin_leq, bin_gtr, bin_geq, bin_add, bin_sub, bin_mul, un_not, unA, AHeap.get_bump, AHeap.next_bump, opK0, kMove, kPick, kAlloc, kBox, kBuild, kBuildSlice, kLoad, kStore, kNilCheck, kBinOp, kUnOp, kFieldAddr, kField, kIndexAddr, kIndex, kLookup, kMapUpdate, kMakeMap, kExtract, kSlice, kCall, lenA, evA, evAs, evParts, toAV, toAV0, toAVs, T.get_set, T.get_nil, Nat.reduceAdd, Nat.reduceMul, Nat.reduceEqDiff, Nat.zero_add, Nat.add_zero, Nat.mul_one, Nat.zero_mul, AV.cells, List.all_cons, List.all_nil, AV.scalar, Bool.and_true, Bool.true_and, ↓reduceIte, if_true, und_all, Tryd.underlying3, Tryd.underlying4, Tryd.underlying5, Tryd.underlying9, Tryd.underlying23, Tryd.underlying24, Tryd.underlying31, Tryd.underlying38, Tryd.underlying39, Tryd.underlying40, Tryd.underlying41, Tryd.underlying42, Tryd.underlying45, Tryd.underlying46, Tryd.underlying48, Tryd.underlying50, Tryd.underlying55, Tryd.underlying57, Tryd.underlying67, siz3, agg3, zer3, byt3, siz4, agg4, zer4, byt4, siz5, agg5, zer5, byt5, siz9, agg9, zer9, byt9, siz23, agg23, zer23, byt23, siz24, agg24, zer24, byt24, siz31, agg31, zer31, byt31, siz38, agg38, zer38, byt38, siz39, agg39, zer39, byt39, siz40, agg40, zer40, byt40, siz41, agg41, zer41, byt41, siz42, agg42, zer42, byt42, siz45, agg45, zer45, byt45, siz46, agg46, zer46, byt46, siz48, agg48, zer48, byt48, siz50, agg50, zer50, byt50, siz55, agg55, zer55, byt55, siz57, agg57, zer57, byt57, siz67, agg67, zer67, byt67, AHeap.get_alloc, AHeap.get_set, AHeap.next_alloc, AHeap.next_set, AHeap.loadCells, AHeap.load1, AHeap.storeCells, List.getElem?_cons_zero, List.getElem?_cons_succ, List.length_cons, List.length_nil, List.drop_zero, List.take_succ_cons, List.take_zero, List.drop_succ_cons, List.drop_nil, List.take_nil, List.append_nil, List.cons_append, List.nil_append, binA, isConstO, keyOk, ents_some, Bool.or_true, Bool.or_false, Bool.true_or, Bool.false_or, wantedA, dstOk, Option.bind_some, List.append_nil, Tryd.underlying27, decide_true, decide_false, beq_self_eq_true, Bool.not_true, Bool.not_false, Bool.false_eq_true, if_false, List.zipIdx_cons, reid, toAV, Int.toNat_natCast, Int.natCast_one, Int.natCast_zero, g1, g2, g3, g4, ha', and_self, c1, c2, c3, q1, q2, q3, q4, q5, z1, z2, wi, m2, Int.natCast_zero, r5, r31, r32, r33] <;> rfl))
              | ((with_reducible apply wpOps_skipT); (first | exact rfl | (apply wantedGF; exact rfl; exact rfl; exact rfl; (simp only [T.get_set, Nat.reduceEqDiff, ↓reduceIte, evA, r5, r31, r32, r33] <;> rfl)) | (apply wantedZ; exact rfl; exact rfl; exact rfl; (simp only [T.get_set, Nat.reduceEqDiff, ↓reduceIte, evA, r5, r31, r32, r33] <;> rfl))); exact rfl)
              | ((with_reducible apply wpOps_skipN); (first | exact rfl | (apply wantedGF; exact rfl; exact rfl; exact rfl; (simp only [T.get_set, Nat.reduceEqDiff, ↓reduceIte, evA, r5, r31, r32, r33] <;> rfl)) | (apply wantedZ; exact rfl; exact rfl; exact rfl; (simp only [T.get_set, Nat.reduceEqDiff, ↓reduceIte, evA, r5, r31, r32, r33] <;> rfl))); exact rfl)
              | ((with_reducible apply dw_allocT); (first | exact rfl | (apply wantedGT; exact rfl; exact rfl; exact rfl; (simp only [T.get_set, Nat.reduceEqDiff, ↓reduceIte, evA, r5, r31, r32, r33] <;> rfl))); exact rfl; exact rfl; (simp only [List.getElem?_toArray, List.toList_toArray, bin_eql, bin_neq, bin_lss, bin_leq, bin_gtr, bin_geq, bin_add, bin_sub, bin_mul, un_not, unA, AHeap.get_bump, AHeap.next_bump, opK0, kMove, kPick, kAlloc, kBox, kBuild, kBuildSlice, kLoad, kStore, kNilCheck, kBinOp, kUnOp, kFieldAddr, kField, kIndexAddr, kIndex, kLookup, kMapUpdate, kMakeMap, kExtract, kSlice, kCall, lenA, evA, evAs, evParts, toAV, toAV0, toAVs, T.get_set, T.get_nil, Nat.reduceAdd, Nat.reduceMul, Nat.reduceEqDiff, Nat.zero_add, Nat.add_zero, Nat.mul_one, Nat.zero_mul, AV.cells, List.all_cons, List.all_nil, AV.scalar, Bool.and_true, Bool.true_and, ↓reduceIte, if_true, und_all, Tryd.underlying3, Tryd.underlying4, Tryd.underlying5, Tryd.underlying9, Tryd.underlying23, Tryd.underlying24, Tryd.underlying31, Tryd.underlying38, Tryd.underlying39, Tryd.underlying40, Tryd.underlying41, Tryd.underlying42, Tryd.underlying45, Tryd.underlying46, Tryd.underlying48, Tryd.underlying50, Tryd.underlying55, Tryd.underlying57, Tryd.underlying67, siz3, agg3, zer3, byt3, siz4, agg4, zer4, byt4, siz5, agg5, zer5, byt5, siz9, agg9, zer9, byt9, siz23, agg23, zer23, byt23, siz24, agg24, zer24, byt24, siz31, agg31, zer31, byt31, siz38, agg38, zer38, byt38, siz39, agg39, zer39, byt39, siz40, agg40, zer40, byt40, siz41, agg41, zer41, byt41, siz42, agg42, zer42, byt42, siz45, agg45, zer45, byt45, siz46, agg46, zer46, byt46, siz48, agg48, zer48, byt48, siz50, agg50, zer50, byt50, siz55, agg55, zer55, byt55, siz57, agg57, zer57, byt57, siz67, agg67, zer67, byt67, AHeap.get_alloc, AHeap.get_set, AHeap.next_alloc, AHeap.next_set, AHeap.loadCells, AHeap.load1, AHeap.storeCells, List.getElem?_cons_zero, List.getElem?_cons_succ, List.length_cons, List.length_nil, List.drop_zero, List.take_succ_cons, List.take_zero, List.drop_succ_cons, List.drop_nil, List.take_nil, List.append_nil, List.cons_append, List.nil_append, binA, isConstO, keyOk, ents_some, Bool.or_true, Bool.or_false, Bool.true_or, Bool.false_or, wantedA, dstOk, Option.bind_some, List.append_nil, Tryd.underlying27, decide_true, decide_false, beq_self_eq_true, Bool.not_true, Bool.not_false, Bool.false_eq_true, if_false, List.zipIdx_cons, reid, toAV, Int.toNat_natCast, Int.natCast_one, Int.natCast_zero, g1, g2, g3, g4, ha', and_self, c1, c2, c3, q1, q2, q3, q4, q5, z1, z2, wi, m2, Int.natCast_zero, r5, r31, r32, r33] <;> rfl); (simp only [List.getElem?_toArray, List.toList_toArray, bin_eql, bin_neq, bin_lss, bin_leq, bin_gtr, bin_geq, bin_add, bin_sub, bin_mul, un_not, unA, AHeap.get_bump, AHeap.next_bump, opK0, kMove, kPick, kAlloc, kBox, kBuild, kBuildSlice, kLoad, kStore, kNilCheck, kBinOp, kUnOp, kFieldAddr, kField, kIndexAddr, kIndex, kLookup, kMapUpdate, kMakeMap, kExtract, kSlice, kCall, lenA, evA, evAs, evParts, toAV, toAV0, toAVs, T.get_set, T.get_nil, Nat.reduceAdd, Nat.reduceMul, Nat.reduceEqDiff, Nat.zero_add, Nat.add_zero, Nat.mul_one, Nat.zero_mul, AV.cells, List.all_cons, List.all_nil, AV.scalar, Bool.and_true, Bool.true_and, ↓reduceIte, if_true, und_all, Tryd.underlying3, Tryd.underlying4, Tryd.underlying5, Tryd.underlying9, Tryd.underlying23, Tryd.underlying24, Tryd.underlying31, Tryd.underlying38, Tryd.underlying39, Tryd.underlying40, Tryd.underlying41, Tryd.underlying42, Tryd.underlying45, Tryd.underlying46, Tryd.underlying48, Tryd.underlying50, Tryd.underlying55, Tryd.underlying57, Tryd.underlying67, siz3, agg3, zer3, byt3, siz4, agg4, zer4, byt4, siz5, agg5, zer5, byt5, siz9, agg9, zer9, byt9, siz23, agg23, zer23, byt23, siz24, agg24, zer24, byt24, siz31, agg31, zer31, byt31, siz38, agg38, zer38, byt38, siz39, agg39, zer39, byt39, siz40, agg40, zer40, byt40, siz41, agg41, zer41, byt41, siz42, agg42, zer42, byt42, siz45, agg45, zer45, byt45, siz46, agg46, zer46, byt46, siz48, agg48, zer48, byt48, siz50, agg50, zer50, byt50, siz55, agg55, zer55, byt55, siz57, agg57, zer57, byt57, siz67, agg67, zer67, byt67, AHeap.get_alloc, AHeap.get_set, AHeap.next_alloc, AHeap.next_set, AHeap.loadCells, AHeap.load1, AHeap.storeCells, List.getElem?_cons_zero, List.getElem?_cons_succ, List.length_cons, List.length_nil, List.drop_zero, List.take_succ_cons, List.take_zero, List.drop_succ_cons, List.drop_nil, List.take_nil, List.append_nil, List.cons_append, List.nil_append, binA, isConstO, keyOk, ents_some, Bool.or_true, Bool.or_false, Bool.true_or, Bool.false_or, wantedA, dstOk, Option.bind_some, List.append_nil, Tryd.underlying27, decide_true, decide_false, beq_self_eq_true, Bool.not_true, Bool.not_false, Bool.false_eq_true, if_false, List.zipIdx_cons, reid, toAV, Int.toNat_natCast, Int.natCast_one, Int.natCast_zero, g1, g2, g3, g4, ha', and_self, c1, c2, c3, q1, q2, q3, q4, q5, z1, z2, wi, m2, Int.natCast_zero, r5, r31, r32, r33] <;> rfl); (simp only [List.getElem?_toArray, List.toList_toArray, bin_eql, bin_neq, bin_lss, bin_leq, bin_gtr, bin_geq, bin_add, bin_sub, bin_mul, un_not, unA, AHeap.get_bump, AHeap.next_bump, opK0, kMove, kPick, kAlloc, kBox, kBuild, kBuildSlice, kLoad, kStore, kNilCheck, kBinOp, kUnOp, kFieldAddr, kField, kIndexAddr, kIndex, kLookup, kMapUpdate, kMakeMap, kExtract, kSlice, kCall, lenA, evA, evAs, evParts, toAV, toAV0, toAVs, T.get_set, T.get_nil, Nat.reduceAdd, Nat.reduceMul, Nat.reduceEqDiff, Nat.zero_add, Nat.add_zero, Nat.mul_one, Nat.zero_mul, AV.cells, List.all_cons, List.all_nil, AV.scalar, Bool.and_true, Bool.true_and, ↓reduceIte, if_true, und_all, Tryd.underlying3, Tryd.underlying4, Tryd.underlying5, Tryd.underlying9, Tryd.underlying23, Tryd.underlying24, Tryd.underlying31, Tryd.underlying38, Tryd.underlying39, Tryd.underlying40, Tryd.underlying41, Tryd.underlying42, Tryd.underlying45, Tryd.underlying46, Tryd.underlying48, Tryd.underlying50, Tryd.underlying55, Tryd.underlying57, Tryd.underlying67, siz3, agg3, zer3, byt3, siz4, agg4, zer4, byt4, siz5, agg5, zer5, byt5, siz9, agg9, zer9, byt9, siz23, agg23, zer23, byt23, siz24, agg24, zer24, byt24, siz31, agg31, zer31, byt31, siz38, agg38, zer38, byt38, siz39, agg39, zer39, byt39, siz40, agg40, zer40, byt40, siz41, agg41, zer41, byt41, siz42, agg42, zer42, byt42, siz45, agg45, zer45, byt45, siz46, agg46, zer46, byt46, siz48, agg48, zer48, byt48, siz50, agg50, zer50, byt50, siz55, agg55, zer55, byt55, siz57, agg57, zer57, byt57, siz67, agg67, zer67, byt67, AHeap.get_alloc, AHeap.get_set, AHeap.next_alloc, AHeap.next_set, AHeap.loadCells, AHeap.load1, AHeap.storeCells, List.getElem?_cons_zero, List.getElem?_cons_succ, List.length_cons, List.length_nil, List.drop_zero, List.take_succ_cons, List.take_zero, List.drop_succ_cons, List.drop_nil, List.take_nil, List.append_nil, List.cons_append, List.nil_append, binA, isConstO, keyOk, ents_some, Bool.or_true, Bool.or_false, Bool.true_or, Bool.false_or, wantedA, dstOk, Option.bind_some, List.append_nil, Tryd.underlying27, decide_true, decide_false, beq_self_eq_true, Bool.not_true, Bool.not_false, Bool.false_eq_true, if_false, List.zipIdx_cons, reid, toAV, Int.toNat_natCast, Int.natCast_one, Int.natCast_zero, g1, g2, g3, g4, ha', and_self, c1, c2, c3, q1, q2, q3, q4, q5, z1, z2, wi, m2, Int.natCast_zero, r5, r31, r32, r33] <;> rfl); exact rfl)
              | ((with_reducible apply dw_storeN); (first | exact rfl | (apply wantedGT; exact rfl; exact rfl; exact rfl; (simp only [T.get_set, Nat.reduceEqDiff, ↓reduceIte, evA, r5, r31, r32, r33] <;> rfl))); exact rfl; exact rfl; (simp only [List.getElem?_toArray, List.toList_toArray, bin_eql, bin_neq, bin_lss, bin_leq, bin_gtr, bin_geq, bin_add, bin_sub, bin_mul, un_not, unA, AHeap.get_bump, AHeap.next_bump, opK0, kMove, kPick, kAlloc, kBox, kBuild, kBuildSlice, kLoad, kStore, kNilCheck, kBinOp, kUnOp, kFieldAddr, kField, kIndexAddr, kIndex, kLookup, kMapUpdate, kMakeMap, kExtract, kSlice, kCall, lenA, evA, evAs, evParts, toAV, toAV0, toAVs, T.get_set, T.get_nil, Nat.reduceAdd, Nat.reduceMul, Nat.reduceEqDiff, Nat.zero_add, Nat.add_zero, Nat.mul_one, Nat.zero_mul, AV.cells, List.all_cons, List.all_nil, AV.scalar, Bool.and_true, Bool.true_and, ↓reduceIte, if_true, und_all, Tryd.underlying3, Tryd.underlying4, Tryd.underlying5, Tryd.underlying9, Tryd.underlying23, Tryd.underlying24, Tryd.underlying31, Tryd.underlying38, Tryd.underlying39, Tryd.underlying40, Tryd.underlying41, Tryd.underlying42, Tryd.underlying45, Tryd.underlying46, Tryd.underlying48, Tryd.underlying50, Tryd.underlying55, Tryd.underlying57, Tryd.underlying67, siz3, agg3, zer3, byt3, siz4, agg4, zer4, byt4, siz5, agg5, zer5, byt5, siz9, agg9, zer9, byt9, siz23, agg23, zer23, byt23, siz24, agg24, zer24, byt24, siz31, agg31, zer31, byt31, siz38, agg38, zer38, byt38, siz39, agg39, zer39, byt39, siz40, agg40, zer40, byt40, siz41, agg41, zer41, byt41, siz42, agg42, zer42, byt42, siz45, agg45, zer45, byt45, siz46, agg46, zer46, byt46, siz48, agg48, zer48, byt48, siz50, agg50, zer50, byt50, siz55, agg55, zer55, byt55, siz57, agg57, zer57, byt57, siz67, agg67, zer67, byt67, AHeap.get_alloc, AHeap.get_set, AHeap.next_alloc, AHeap.next_set, AHeap.loadCells, AHeap.load1, AHeap.storeCells, List.getElem?_cons_zero, List.getElem?_cons_succ, List.length_cons, List.length_nil, List.drop_zero, List.take_succ_cons, List.take_zero, List.drop_succ_cons, List.drop_nil, List.take_nil, List.append_nil, List.cons_append, List.nil_append, binA, isConstO, keyOk, ents_some, Bool.or_true, Bool.or_false, Bool.true_or, Bool.false_or, wantedA, dstOk, Option.bind_some, List.append_nil, Tryd.underlying27, decide_true, decide_false, beq_self_eq_true, Bool.not_true, Bool.not_false, Bool.false_eq_true, if_false, List.zipIdx_cons, reid, toAV, Int.toNat_natCast, Int.natCast_one, Int.natCast_zero, g1, g2, g3, g4, ha', and_self, c1, c2, c3, q1, q2, q3, q4, q5, z1, z2, wi, m2, Int.natCast_zero, r5, r31, r32, r33] <;> rfl); kernel_rfl; kernel_rfl)
              | ((with_reducible apply dw_skipT); (first | exact rfl | (apply wantedGF; exact rfl; exact rfl; exact rfl; (simp only [T.get_set, Nat.reduceEqDiff, ↓reduceIte, evA, r5, r31, r32, r33] <;> rfl)) | (apply wantedZ; exact rfl; exact rfl; exact rfl; (simp only [T.get_set, Nat.reduceEqDiff, ↓reduceIte, evA, r5, r31, r32, r33] <;> rfl))); exact rfl)
              | (with_reducible apply aw_seq)
              | (with_reducible apply aw_regionL)
              | (with_reducible apply aw_block)
              | (with_reducible apply aw_scope)
              | (with_reducible apply aw_nil)
              | (with_reducible apply aw_then)
              | (with_reducible apply aw_thenR)
              | (with_reducible apply aw_thenE)
              | (with_reducible apply aw_blockR)
              | (with_reducible apply aw_blockN)
              | (with_reducible apply aw_blockE)
              | (with_reducible apply aw_ret)
              | (with_reducible apply aw_exit)
              | (with_reducible apply aw_skip)
              | ((with_reducible apply aw_condT); (first | exact rfl | (simp only [T.get_set, Nat.reduceEqDiff, ↓reduceIte, evA, r5, r31, r32, r33] <;> rfl)))
              | ((with_reducible apply aw_condF); (first | exact rfl | (simp only [T.get_set, Nat.reduceEqDiff, ↓reduceIte, evA, r5, r31, r32, r33] <;> rfl)))
              | ((with_reducible apply aw_drawL); (simp only [List.zipIdx_cons, List.zipIdx_nil, Nat.zero_add, Nat.reduceAdd] <;> rfl); kernel_rfl; kernel_rfl)
              | (with_reducible apply dw_nil)
              | fail)

            refine ⟨rfl, _, (by simp only [res7, resultsA, resultA, List.getElem?_toArray, List.toList_toArray, bin_eql, bin_neq, bin_lss, bin_leq, bin_gtr, bin_geq, bin_add, bin_sub, bin_mul, un_not, unA, AHeap.get_bump, AHeap.next_bump, opK0, kMove, kPick, kAlloc, kBox, kBuild, kBuildSlice, kLoad, kStore, kNilCheck, kBinOp, kUnOp, kFieldAddr, kField, kIndexAddr, kIndex, kLookup, kMapUpdate, kMakeMap, kExtract, kSlice, kCall, lenA, evA, evAs, evParts, toAV, toAV0, toAVs, T.get_set, T.get_nil, Nat.reduceAdd, Nat.reduceMul, Nat.reduceEqDiff, Nat.zero_add, Nat.add_zero, Nat.mul_one, Nat.zero_mul, AV.cells, List.all_cons, List.all_nil, AV.scalar, Bool.and_true, Bool.true_and, ↓reduceIte, if_true, und_all, Tryd.underlying3, Tryd.underlying4, Tryd.underlying5, Tryd.underlying9, Tryd.underlying23, Tryd.underlying24, Tryd.underlying31, Tryd.underlying38, Tryd.underlying39, Tryd.underlying40, Tryd.underlying41, Tryd.underlying42, Tryd.underlying45, Tryd.underlying46, Tryd.underlying48, Tryd.underlying50, Tryd.underlying55, Tryd.underlying57, Tryd.underlying67, siz3, agg3, zer3, byt3, siz4, agg4, zer4, byt4, siz5, agg5, zer5, byt5, siz9, agg9, zer9, byt9, siz23, agg23, zer23, byt23, siz24, agg24, zer24, byt24, siz31, agg31, zer31, byt31, siz38, agg38, zer38, byt38, siz39, agg39, zer39, byt39, siz40, agg40, zer40, byt40, siz41, agg41, zer41, byt41, siz42, agg42, zer42, byt42, siz45, agg45, zer45, byt45, siz46, agg46, zer46, byt46, siz48, agg48, zer48, byt48, siz50, agg50, zer50, byt50, siz55, agg55, zer55, byt55, siz57, agg57, zer57, byt57, siz67, agg67, zer67, byt67, AHeap.get_alloc, AHeap.get_set, AHeap.next_alloc, AHeap.next_set, AHeap.loadCells, AHeap.load1, AHeap.storeCells, List.getElem?_cons_zero, List.getElem?_cons_succ, List.length_cons, List.length_nil, List.drop_zero, List.take_succ_cons, List.take_zero, List.drop_succ_cons, List.drop_nil, List.take_nil, List.append_nil, List.cons_append, List.nil_append, binA, isConstO, keyOk, ents_some, Bool.or_true, Bool.or_false, Bool.true_or, Bool.false_or, wantedA, dstOk, Option.bind_some, List.append_nil, Tryd.underlying27, decide_true, decide_false, beq_self_eq_true, Bool.not_true, Bool.not_false, Bool.false_eq_true, if_false, List.zipIdx_cons, reid, toAV, Int.toNat_natCast, Int.natCast_one, Int.natCast_zero, r5, r31, r32, r33] <;> rfl), .inl ⟨i, _, (show (5 : Int) ≠ 0 by decide), rfl⟩, ?_⟩
            try dsimp only
            repeat (first | exact Keep.refl _ | exact k1 | (with_reducible apply Keep.bump) | (with_reducible apply Keep.alloc) | ((with_reducible apply Keep.set); (first | exact Nat.le_refl _ | (have := Keep.next k1; omega)); ((try simp only [AHeap.next_alloc, AHeap.next_bump, AHeap.next_set]); have := Keep.next k1; omega)))

          · have g7 : ((sfs.length : Int) == 0) = false := by
              rw [beq_eq_false_iff_ne]
              cases sfs with
              | nil => exact (hsf rfl).elim
              | cons => simp only [List.length_cons]; omega
            repeat (first
              | ((first | ((with_reducible apply wpOps_valT); (first | exact rfl | (apply wantedGT; exact rfl; exact rfl; exact rfl; (simp only [T.get_set, Nat.reduceEqDiff, ↓reduceIte, evA, r5, r31, r32, r33] <;> rfl))); exact rfl) | ((with_reducible apply wpOps_storeN); (first | exact rfl | (apply wantedGT; exact rfl; exact rfl; exact rfl; (simp only [T.get_set, Nat.reduceEqDiff, ↓reduceIte, evA, r5, r31, r32, r33] <;> rfl))); exact rfl) | ((with_reducible apply dw_pureT); (first | exact rfl | (apply wantedGT; exact rfl; exact rfl; exact rfl; (simp only [T.get_set, Nat.reduceEqDiff, ↓reduceIte, evA, r5, r31, r32, r33] <;> rfl))); exact rfl; exact rfl) | ((with_reducible apply dw_readT); (first | exact rfl | (apply wantedGT; exact rfl; exact rfl; exact rfl; (simp only [T.get_set, Nat.reduceEqDiff, ↓reduceIte, evA, r5, r31, r32, r33] <;> rfl))); exact rfl; exact rfl)); (simp only [List.getElem?_toArray, List.toList_toArray, bin_eql, bin_neq, bin_lss, bin_leq, bin_gtr, bin_geq, bin_add, bin_sub, bin_mul, un_not, unA, AHeap.get_bump, AHeap.next_bump, opK0, kMove, kPick, kAlloc, kBox, kBuild, kBuildSlice, kLoad, kStore, kNilCheck, kBinOp, kUnOp, kFieldAddr, kField, kIndexAddr, kIndex, kLookup, kMapUpdate, kMakeMap, kExtract, kSlice, kCall, lenA, evA, evAs, evParts, toAV, toAV0, toAVs, T.get_set, T.get_nil, Nat.reduceAdd, Nat.reduceMul, Nat.reduceEqDiff, Nat.zero_add, Nat.add_zero, Nat.mul_one, Nat.zero_mul, AV.cells, List.all_cons, List.all_nil, AV.scalar, Bool.and_true, Bool.true_and, ↓reduceIte, if_true, und_all, Tryd.underlying3, Tryd.underlying4, Tryd.underlying5, Tryd.underlying9, Tryd.underlying23, Tryd.underlying24, Tryd.underlying31, Tryd.underlying38, Tryd.underlying39, Tryd.underlying40, Tryd.underlying41, Tryd.underlying42, Tryd.underlying45, Tryd.underlying46, Tryd.underlying48, Tryd.underlying50, Tryd.underlying55, Tryd.underlying57, Tryd.underlying67, siz3, agg3, zer3, byt3, siz4, agg4, zer4, byt4, siz5, agg5, zer5, byt5, siz9, agg9, zer9, byt9, siz23, agg23, zer23, byt23, siz24, agg24, zer24, byt24, siz31, agg31, zer31, byt31, siz38, agg38, zer38, byt38, siz39, agg39, zer39, byt39, siz40, agg40, zer40, byt40, siz41, agg41, zer41, byt41, siz42, agg42, zer42, byt42, siz45, agg45, zer45, byt45, siz46, agg46, zer46, byt46, siz48, agg48, zer48, byt48, siz50, agg50, zer50, byt50, siz55, agg55, zer55, byt55, siz57, agg57, zer57, byt57, siz67, agg67, zer67, byt67, AHeap.get_alloc, AHeap.get_set, AHeap.next_alloc, AHeap.next_set, AHeap.loadCells, AHeap.load1, AHeap.storeCells, List.getElem?_cons_zero, List.getElem?_cons_succ, List.length_cons, List.length_nil, List.drop_zero, List.take_succ_cons, List.take_zero, List.drop_succ_cons, List.drop_nil, List.take_nil, List.append_nil, List.cons_append, List.nil_append, binA, isConstO, keyOk, ents_some, Bool.or_true, Bool.or_false, Bool.true_or, Bool.false_or, wantedA, dstOk, Option.bind_some, List.append_nil, Tryd.underlying27, decide_true, decide_false, beq_self_eq_true, Bool.not_true, Bool.not_false, Bool.false_eq_true, if_false, List.zipIdx_cons, reid, toAV, Int.toNat_natCast, Int.natCast_one, Int.natCast_zero, g1, g2, g3, g4, ha', and_self, c1, c2, c3, q1, q2, q3, q4, q5, z1, z2, wi, m2, g7, r5, r31, r32, r33] <;> rfl))
              | ((with_reducible apply wpOps_skipT); (first | exact rfl | (apply wantedGF; exact rfl; exact rfl; exact rfl; (simp only [T.get_set, Nat.reduceEqDiff, ↓reduceIte, evA, r5, r31, r32, r33] <;> rfl)) | (apply wantedZ; exact rfl; exact rfl; exact rfl; (simp only [T.get_set, Nat.reduceEqDiff, ↓reduceIte, evA, r5, r31, r32, r33] <;> rfl))); exact rfl)
              | ((with_reducible apply wpOps_skipN); (first | exact rfl | (apply wantedGF; exact rfl; exact rfl; exact rfl; (simp only [T.get_set, Nat.reduceEqDiff, ↓reduceIte, evA, r5, r31, r32, r33] <;> rfl)) | (apply wantedZ; exact rfl; exact rfl; exact rfl; (simp only [T.get_set, Nat.reduceEqDiff, ↓reduceIte, evA, r5, r31, r32, r33] <;> rfl))); exact rfl)
              | ((with_reducible apply dw_allocT); (first | exact rfl | (apply wantedGT; exact rfl; exact rfl; exact rfl; (simp only [T.get_set, Nat.reduceEqDiff, ↓reduceIte, evA, r5, r31, r32, r33] <;> rfl))); exact rfl; exact rfl; (simp only [List.getElem?_toArray, List.toList_toArray, bin_eql, bin_neq, bin_lss, bin_leq, bin_gtr, bin_geq, bin_add, bin_sub, bin_mul, un_not, unA, AHeap.get_bump, AHeap.next_bump, opK0, kMove, kPick, kAlloc, kBox, kBuild, kBuildSlice, kLoad, kStore, kNilCheck, kBinOp, kUnOp, kFieldAddr, kField, kIndexAddr, kIndex, kLookup, kMapUpdate, kMakeMap, kExtract, kSlice, kCall, lenA, evA, evAs, evParts, toAV, toAV0, toAVs, T.get_set, T.get_nil, Nat.reduceAdd, Nat.reduceMul, Nat.reduceEqDiff, Nat.zero_add, Nat.add_zero, Nat.mul_one, Nat.zero_mul, AV.cells, List.all_cons, List.all_nil, AV.scalar, Bool.and_true, Bool.true_and, ↓reduceIte, if_true, und_all, Tryd.underlying3, Tryd.underlying4, Tryd.underlying5, Tryd.underlying9, Tryd.underlying23, Tryd.underlying24, Tryd.underlying31, Tryd.underlying38, Tryd.underlying39, Tryd.underlying40, Tryd.underlying41, Tryd.underlying42, Tryd.underlying45, Tryd.underlying46, Tryd.underlying48, Tryd.underlying50, Tryd.underlying55, Tryd.underlying57, Tryd.underlying67, siz3, agg3, zer3, byt3, siz4, agg4, zer4, byt4, siz5, agg5, zer5, byt5, siz9, agg9, zer9, byt9, siz23, agg23, zer23, byt23, siz24, agg24, zer24, byt24, siz31, agg31, zer31, byt31, siz38, agg38, zer38, byt38, siz39, agg39, zer39, byt39, siz40, agg40, zer40, byt40, siz41, agg41, zer41, byt41, siz42, agg42, zer42, byt42, siz45, agg45, zer45, byt45, siz46, agg46, zer46, byt46, siz48, agg48, zer48, byt48, siz50, agg50, zer50, byt50, siz55, agg55, zer55, byt55, siz57, agg57, zer57, byt57, siz67, agg67, zer67, byt67, AHeap.get_alloc, AHeap.get_set, AHeap.next_alloc, AHeap.next_set, AHeap.loadCells, AHeap.load1, AHeap.storeCells, List.getElem?_cons_zero, List.getElem?_cons_succ, List.length_cons, List.length_nil, List.drop_zero, List.take_succ_cons, List.take_zero, List.drop_succ_cons, List.drop_nil, List.take_nil, List.append_nil, List.cons_append, List.nil_append, binA, isConstO, keyOk, ents_some, Bool.or_true, Bool.or_false, Bool.true_or, Bool.false_or, wantedA, dstOk, Option.bind_some, List.append_nil, Tryd.underlying27, decide_true, decide_false, beq_self_eq_true, Bool.not_true, Bool.not_false, Bool.false_eq_true, if_false, List.zipIdx_cons, reid, toAV, Int.toNat_natCast, Int.natCast_one, Int.natCast_zero, g1, g2, g3, g4, ha', and_self, c1, c2, c3, q1, q2, q3, q4, q5, z1, z2, wi, m2, g7, r5, r31, r32, r33] <;> rfl); (simp only [List.getElem?_toArray, List.toList_toArray, bin_eql, bin_neq, bin_lss, bin_leq, bin_gtr, bin_geq, bin_add, bin_sub, bin_mul, un_not, unA, AHeap.get_bump, AHeap.next_bump, opK0, kMove, kPick, kAlloc, kBox, kBuild, kBuildSlice, kLoad, kStore, kNilCheck, kBinOp, kUnOp, kFieldAddr, kField, kIndexAddr, kIndex, kLookup, kMapUpdate, kMakeMap, kExtract, kSlice, kCall, lenA, evA, evAs, evParts, toAV, toAV0, toAVs, T.get_set, T.get_nil, Nat.reduceAdd, Nat.reduceMul, Nat.reduceEqDiff, Nat.zero_add, Nat.add_zero, Nat.mul_one, Nat.zero_mul, AV.cells, List.all_cons, List.all_nil, AV.scalar, Bool.and_true, Bool.true_and, ↓reduceIte, if_true, und_all, Tryd.underlying3, Tryd.underlying4, Tryd.underlying5, Tryd.underlying9, Tryd.underlying23, Tryd.underlying24, Tryd.underlying31, Tryd.underlying38, Tryd.underlying39, Tryd.underlying40, Tryd.underlying41, Tryd.underlying42, Tryd.underlying45, Tryd.underlying46, Tryd.underlying48, Tryd.underlying50, Tryd.underlying55, Tryd.underlying57, Tryd.underlying67, siz3, agg3, zer3, byt3, siz4, agg4, zer4, byt4, siz5, agg5, zer5, byt5, siz9, agg9, zer9, byt9, siz23, agg23, zer23, byt23, siz24, agg24, zer24, byt24, siz31, agg31, zer31, byt31, siz38, agg38, zer38, byt38, siz39, agg39, zer39, byt39, siz40, agg40, zer40, byt40, siz41, agg41, zer41, byt41, siz42, agg42, zer42, byt42, siz45, agg45, zer45, byt45, siz46, agg46, zer46, byt46, siz48, agg48, zer48, byt48, siz50, agg50, zer50, byt50, siz55, agg55, zer55, byt55, siz57, agg57, zer57, byt57, siz67, agg67, zer67, byt67, AHeap.get_alloc, AHeap.get_set, AHeap.next_alloc, AHeap.next_set, AHeap.loadCells, AHeap.load1, AHeap.storeCells, List.getElem?_cons_zero, List.getElem?_cons_succ, List.length_cons, List.length_nil, List.drop_zero, List.take_succ_cons, List.take_zero, List.drop_succ_cons, List.drop_nil, List.take_nil, List.append_nil, List.cons_append, List.nil_append, binA, isConstO, keyOk, ents_some, Bool.or_true, Bool.or_false, Bool.true_or, Bool.false_or, wantedA, dstOk, Option.bind_some, List.append_nil, Tryd.underlying27, decide_true, decide_false, beq_self_eq_true, Bool.not_true, Bool.not_false, Bool.false_eq_true, if_false, List.zipIdx_cons, reid, toAV, Int.toNat_natCast, Int.natCast_one, Int.natCast_zero, g1, g2, g3, g4, ha', and_self, c1, c2, c3, q1, q2, q3, q4, q5, z1, z2, wi, m2, g7, r5, r31, r32, r33] <;> rfl); (simp only [List.getElem?_toArray, List.toList_toArray, bin_eql, bin_neq, bin_lss, bin_leq, bin_gtr, bin_geq, bin_add, bin_sub, bin_mul, un_not, unA, AHeap.get_bump, AHeap.next_bump, opK0, kMove, kPick, kAlloc, kBox, kBuild, kBuildSlice, kLoad, kStore, kNilCheck, kBinOp, kUnOp, kFieldAddr, kField, kIndexAddr, kIndex, kLookup, kMapUpdate, kMakeMap, kExtract, kSlice, kCall, lenA, evA, evAs, evParts, toAV, toAV0, toAVs, T.get_set, T.get_nil, Nat.reduceAdd, Nat.reduceMul, Nat.reduceEqDiff, Nat.zero_add, Nat.add_zero, Nat.mul_one, Nat.zero_mul, AV.cells, List.all_cons, List.all_nil, AV.scalar, Bool.and_true, Bool.true_and, ↓reduceIte, if_true, und_all, Tryd.underlying3, Tryd.underlying4, Tryd.underlying5, Tryd.underlying9, Tryd.underlying23, Tryd.underlying24, Tryd.underlying31, Tryd.underlying38, Tryd.underlying39, Tryd.underlying40, Tryd.underlying41, Tryd.underlying42, Tryd.underlying45, Tryd.underlying46, Tryd.underlying48, Tryd.underlying50, Tryd.underlying55, Tryd.underlying57, Tryd.underlying67, siz3, agg3, zer3, byt3, siz4, agg4, zer4, byt4, siz5, agg5, zer5, byt5, siz9, agg9, zer9, byt9, siz23, agg23, zer23, byt23, siz24, agg24, zer24, byt24, siz31, agg31, zer31, byt31, siz38, agg38, zer38, byt38, siz39, agg39, zer39, byt39, siz40, agg40, zer40, byt40, siz41, agg41, zer41, byt41, siz42, agg42, zer42, byt42, siz45, agg45, zer45, byt45, siz46, agg46, zer46, byt46, siz48, agg48, zer48, byt48, siz50, agg50, zer50, byt50, siz55, agg55, zer55, byt55, siz57, agg57, zer57, byt57, siz67, agg67, zer67, byt67, AHeap.get_alloc, AHeap.get_set, AHeap.next_alloc, AHeap.next_set, AHeap.loadCells, AHeap.load1, AHeap.storeCells, List.getElem?_cons_zero, List.getElem?_cons_succ, List.length_cons, List.length_nil, List.drop_zero, List.take_succ_cons, List.take_zero, List.drop_succ_cons, List.drop_nil, List.take_nil, List.append_nil, List.cons_append, List.nil_append, binA, isConstO, keyOk, ents_some, Bool.or_true, Bool.or_false, Bool.true_or, Bool.false_or, wantedA, dstOk, Option.bind_some, List.append_nil, Tryd.underlying27, decide_true, decide_false, beq_self_eq_true, Bool.not_true, Bool.not_false, Bool.false_eq_true, if_false, List.zipIdx_cons, reid, toAV, Int.toNat_natCast, Int.natCast_one, Int.natCast_zero, g1, g2, g3, g4, ha', and_self, c1, c2, c3, q1, q2, q3, q4, q5, z1, z2, wi, m2, g7, r5, r31, r32, r33] <;> rfl); exact rfl)
              | ((with_reducible apply dw_storeN); (first | exact rfl | (apply wantedGT; exact rfl; exact rfl; exact rfl; (simp only [T.get_set, Nat.reduceEqDiff, ↓reduceIte, evA, r5, r31, r32, r33] <;> rfl))); exact rfl; exact rfl; (simp only [List.getElem?_toArray, List.toList_toArray, bin_eql, bin_neq, bin_lss, bin_leq, bin_gtr, bin_geq, bin_add, bin_sub, bin_mul, un_not, unA, AHeap.get_bump, AHeap.next_bump, opK0, kMove, kPick, kAlloc, kBox, kBuild, kBuildSlice, kLoad, kStore, kNilCheck, kBinOp, kUnOp, kFieldAddr, kField, kIndexAddr, kIndex, kLookup, kMapUpdate, kMakeMap, kExtract, kSlice, kCall, lenA, evA, evAs, evParts, toAV, toAV0, toAVs, T.get_set, T.get_nil, Nat.reduceAdd, Nat.reduceMul, Nat.reduceEqDiff, Nat.zero_add, Nat.add_zero, Nat.mul_one, Nat.zero_mul, AV.cells, List.all_cons, List.all_nil, AV.scalar, Bool.and_true, Bool.true_and, ↓reduceIte, if_true, und_all, Tryd.underlying3, Tryd.underlying4, Tryd.underlying5, Tryd.underlying9, Tryd.underlying23, Tryd.underlying24, Tryd.underlying31, Tryd.underlying38, Tryd.underlying39, Tryd.underlying40, Tryd.underlying41, Tryd.underlying42, Tryd.underlying45, Tryd.underlying46, Tryd.underlying48, Tryd.underlying50, Tryd.underlying55, Tryd.underlying57, Tryd.underlying67, siz3, agg3, zer3, byt3, siz4, agg4, zer4, byt4, siz5, agg5, zer5, byt5, siz9, agg9, zer9, byt9, siz23, agg23, zer23, byt23, siz24, agg24, zer24, byt24, siz31, agg31, zer31, byt31, siz38, agg38, zer38, byt38, siz39, agg39, zer39, byt39, siz40, agg40, zer40, byt40, siz41, agg41, zer41, byt41, siz42, agg42, zer42, byt42, siz45, agg45, zer45, byt45, siz46, agg46, zer46, byt46, siz48, agg48, zer48, byt48, siz50, agg50, zer50, byt50, siz55, agg55, zer55, byt55, siz57, agg57, zer57, byt57, siz67, agg67, zer67, byt67, AHeap.get_alloc, AHeap.get_set, AHeap.next_alloc, AHeap.next_set, AHeap.loadCells, AHeap.load1, AHeap.storeCells, List.getElem?_cons_zero, List.getElem?_cons_succ, List.length_cons, List.length_nil, List.drop_zero, List.take_succ_cons, List.take_zero, List.drop_succ_cons, List.drop_nil, List.take_nil, List.append_nil, List.cons_append, List.nil_append, binA, isConstO, keyOk, ents_some, Bool.or_true, Bool.or_false, Bool.true_or, Bool.false_or, wantedA, dstOk, Option.bind_some, List.append_nil, Tryd.underlying27, decide_true, decide_false, beq_self_eq_true, Bool.not_true, Bool.not_false, Bool.false_eq_true, if_false, List.zipIdx_cons, reid, toAV, Int.toNat_natCast, Int.natCast_one, Int.natCast_zero, g1, g2, g3, g4, ha', and_self, c1, c2, c3, q1, q2, q3, q4, q5, z1, z2, wi, m2, g7, r5, r31, r32, r33] <;> rfl); kernel_rfl; kernel_rfl)
              | ((with_reducible apply dw_skipT); (first | exact rfl | (apply wantedGF; exact rfl; exact rfl; exact rfl; (simp only [T.get_set, Nat.reduceEqDiff, ↓reduceIte, evA, r5, r31, r32, r33] <;> rfl)) | (apply wantedZ; exact rfl; exact rfl; exact rfl; (simp only [T.get_set, Nat.reduceEqDiff, ↓reduceIte, evA, r5, r31, r32, r33] <;> rfl))); exact rfl)
              | (with_reducible apply aw_seq)
              | (with_reducible apply aw_regionL)
              | (with_reducible apply aw_block)
              | (with_reducible apply aw_scope)
              | (with_reducible apply aw_nil)
              | (with_reducible apply aw_then)
              | (with_reducible apply aw_thenR)
              | (with_reducible apply aw_thenE)
              | (with_reducible apply aw_blockR)
              | (with_reducible apply aw_blockN)
              | (with_reducible apply aw_blockE)
              | (with_reducible apply aw_ret)
              | (with_reducible apply aw_exit)
              | (with_reducible apply aw_skip)
              | ((with_reducible apply aw_condT); (first | exact rfl | (simp only [T.get_set, Nat.reduceEqDiff, ↓reduceIte, evA, r5, r31, r32, r33] <;> rfl)))
              | ((with_reducible apply aw_condF); (first | exact rfl | (simp only [T.get_set, Nat.reduceEqDiff, ↓reduceIte, evA, r5, r31, r32, r33] <;> rfl)))
              | ((with_reducible apply aw_drawL); (simp only [List.zipIdx_cons, List.zipIdx_nil, Nat.zero_add, Nat.reduceAdd] <;> rfl); kernel_rfl; kernel_rfl)
              | (with_reducible apply dw_nil)
              | fail)

            (with_reducible apply wpOps_callT); (first | exact rfl | (apply wantedGT; exact rfl; exact rfl; exact rfl; (simp only [T.get_set, Nat.reduceEqDiff, ↓reduceIte, evA, r5, r31, r32, r33] <;> rfl))); exact rfl; (simp only [List.getElem?_toArray, List.toList_toArray, bin_eql, bin_neq, bin_lss, bin_leq, bin_gtr, bin_geq, bin_add, bin_sub, bin_mul, un_not, unA, AHeap.get_bump, AHeap.next_bump, opK0, kMove, kPick, kAlloc, kBox, kBuild, kBuildSlice, kLoad, kStore, kNilCheck, kBinOp, kUnOp, kFieldAddr, kField, kIndexAddr, kIndex, kLookup, kMapUpdate, kMakeMap, kExtract, kSlice, kCall, lenA, evA, evAs, evParts, toAV, toAV0, toAVs, T.get_set, T.get_nil, Nat.reduceAdd, Nat.reduceMul, Nat.reduceEqDiff, Nat.zero_add, Nat.add_zero, Nat.mul_one, Nat.zero_mul, AV.cells, List.all_cons, List.all_nil, AV.scalar, Bool.and_true, Bool.true_and, ↓reduceIte, if_true, und_all, Tryd.underlying3, Tryd.underlying4, Tryd.underlying5, Tryd.underlying9, Tryd.underlying23, Tryd.underlying24, Tryd.underlying31, Tryd.underlying38, Tryd.underlying39, Tryd.underlying40, Tryd.underlying41, Tryd.underlying42, Tryd.underlying45, Tryd.underlying46, Tryd.underlying48, Tryd.underlying50, Tryd.underlying55, Tryd.underlying57, Tryd.underlying67, siz3, agg3, zer3, byt3, siz4, agg4, zer4, byt4, siz5, agg5, zer5, byt5, siz9, agg9, zer9, byt9, siz23, agg23, zer23, byt23, siz24, agg24, zer24, byt24, siz31, agg31, zer31, byt31, siz38, agg38, zer38, byt38, siz39, agg39, zer39, byt39, siz40, agg40, zer40, byt40, siz41, agg41, zer41, byt41, siz42, agg42, zer42, byt42, siz45, agg45, zer45, byt45, siz46, agg46, zer46, byt46, siz48, agg48, zer48, byt48, siz50, agg50, zer50, byt50, siz55, agg55, zer55, byt55, siz57, agg57, zer57, byt57, siz67, agg67, zer67, byt67, AHeap.get_alloc, AHeap.get_set, AHeap.next_alloc, AHeap.next_set, AHeap.loadCells, AHeap.load1, AHeap.storeCells, List.getElem?_cons_zero, List.getElem?_cons_succ, List.length_cons, List.length_nil, List.drop_zero, List.take_succ_cons, List.take_zero, List.drop_succ_cons, List.drop_nil, List.take_nil, List.append_nil, List.cons_append, List.nil_append, binA, isConstO, keyOk, ents_some, Bool.or_true, Bool.or_false, Bool.true_or, Bool.false_or, wantedA, dstOk, Option.bind_some, List.append_nil, Tryd.underlying27, decide_true, decide_false, beq_self_eq_true, Bool.not_true, Bool.not_false, Bool.false_eq_true, if_false, List.zipIdx_cons, reid, toAV, Int.toNat_natCast, Int.natCast_one, Int.natCast_zero, g1, g2, g3, g4, ha', and_self, c1, c2, c3, q1, q2, q3, q4, q5, z1, z2, wi, m2, g7, r5, r31, r32, r33] <;> rfl)

            obtain ⟨o, ow, oe, rfl, ho, lo⟩ := hA.f _ hsm hsf
            dsimp only at ho
            have hlen := hA.len _ hsm
            dsimp only at hlen
            refine (goodName_w _ sn (by omega)).mono fun out h2 hq => ?_
            obtain ⟨rfl, rfl⟩ := hq
            dsimp only
            cases hgn : gn sn with
            | false =>
              repeat (first
                | ((first | ((with_reducible apply wpOps_valT); (first | exact rfl | (apply wantedGT; exact rfl; exact rfl; exact rfl; (simp only [T.get_set, Nat.reduceEqDiff, ↓reduceIte, evA, r5, r31, r32, r33] <;> rfl))); exact rfl) | ((with_reducible apply wpOps_storeN); (first | exact rfl | (apply wantedGT; exact rfl; exact rfl; exact rfl; (simp only [T.get_set, Nat.reduceEqDiff, ↓reduceIte, evA, r5, r31, r32, r33] <;> rfl))); exact rfl) | ((with_reducible apply dw_pureT); (first | exact rfl | (apply wantedGT; exact rfl; exact rfl; exact rfl; (simp only [T.get_set, Nat.reduceEqDiff, ↓reduceIte, evA, r5, r31, r32, r33] <;> rfl))); exact rfl; exact rfl) | ((with_reducible apply dw_readT); (first | exact rfl | (apply wantedGT; exact rfl; exact rfl; exact rfl; (simp only [T.get_set, Nat.reduceEqDiff, ↓reduceIte, evA, r5, r31, r32, r33] <;> rfl))); exact rfl; exact rfl)); (simp only [List.getElem?_toArray, List.toList_toArray, bin_eql, bin_neq, bin_lss, bin_leq, bin_gtr, bin_geq, bin_add, bin_sub, bin_mul, un_not, unA, AHeap.get_bump, AHeap.next_bump, opK0, kMove, kPick, kAlloc, kBox, kBuild, kBuildSlice, kLoad, kStore, kNilCheck, kBinOp, kUnOp, kFieldAddr, kField, kIndexAddr, kIndex, kLookup, kMapUpdate, kMakeMap, kExtract, kSlice, kCall, lenA, evA, evAs, evParts, toAV, toAV0, toAVs, T.get_set, T.get_nil, Nat.reduceAdd, Nat.reduceMul, Nat.reduceEqDiff, Nat.zero_add, Nat.add_zero, Nat.mul_one, Nat.zero_mul, AV.cells, List.all_cons, List.all_nil, AV.scalar, Bool.and_true, Bool.true_and, ↓reduceIte, if_true, und_all, Tryd.underlying3, Tryd.underlying4, Tryd.underlying5, Tryd.underlying9, Tryd.underlying23, Tryd.underlying24, Tryd.underlying31, Tryd.underlying38, Tryd.underlying39, Tryd.underlying40, Tryd.underlying41, Tryd.underlying42, Tryd.underlying45, Tryd.underlying46, Tryd.underlying48, Tryd.underlying50, Tryd.underlying55, Tryd.underlying57, Tryd.underlying67, siz3, agg3, zer3, byt3, siz4, agg4, zer4, byt4, siz5, agg5, zer5, byt5, siz9, agg9, zer9, byt9, siz23, agg23, zer23, byt23, siz24, agg24, zer24, byt24, siz31, agg31, zer31, byt31, siz38, agg38, zer38, byt38, siz39, agg39, zer39, byt39, siz40, agg40, zer40, byt40, siz41, agg41, zer41, byt41, siz42, agg42, zer42, byt42, siz45, agg45, zer45, byt45, siz46, agg46, zer46, byt46, siz48, agg48, zer48, byt48, siz50, agg50, zer50, byt50, siz55, agg55, zer55, byt55, siz57, agg57, zer57, byt57, siz67, agg67, zer67, byt67, AHeap.get_alloc, AHeap.get_set, AHeap.next_alloc, AHeap.next_set, AHeap.loadCells, AHeap.load1, AHeap.storeCells, List.getElem?_cons_zero, List.getElem?_cons_succ, List.length_cons, List.length_nil, List.drop_zero, List.take_succ_cons, List.take_zero, List.drop_succ_cons, List.drop_nil, List.take_nil, List.append_nil, List.cons_append, List.nil_append, binA, isConstO, keyOk, ents_some, Bool.or_true, Bool.or_false, Bool.true_or, Bool.false_or, wantedA, dstOk, Option.bind_some, List.append_nil, Tryd.underlying27, decide_true, decide_false, beq_self_eq_true, Bool.not_true, Bool.not_false, Bool.false_eq_true, if_false, List.zipIdx_cons, reid, toAV, Int.toNat_natCast, Int.natCast_one, Int.natCast_zero, g1, g2, g3, g4, ha', and_self, c1, c2, c3, q1, q2, q3, q4, q5, z1, z2, wi, m2, g7, r5, r31, r32, r33] <;> rfl))
                | ((with_reducible apply wpOps_skipT); (first | exact rfl | (apply wantedGF; exact rfl; exact rfl; exact rfl; (simp only [T.get_set, Nat.reduceEqDiff, ↓reduceIte, evA, r5, r31, r32, r33] <;> rfl)) | (apply wantedZ; exact rfl; exact rfl; exact rfl; (simp only [T.get_set, Nat.reduceEqDiff, ↓reduceIte, evA, r5, r31, r32, r33] <;> rfl))); exact rfl)
                | ((with_reducible apply wpOps_skipN); (first | exact rfl | (apply wantedGF; exact rfl; exact rfl; exact rfl; (simp only [T.get_set, Nat.reduceEqDiff, ↓reduceIte, evA, r5, r31, r32, r33] <;> rfl)) | (apply wantedZ; exact rfl; exact rfl; exact rfl; (simp only [T.get_set, Nat.reduceEqDiff, ↓reduceIte, evA, r5, r31, r32, r33] <;> rfl))); exact rfl)
                | ((with_reducible apply dw_skipT); (first | exact rfl | (apply wantedGF; exact rfl; exact rfl; exact rfl; (simp only [T.get_set, Nat.reduceEqDiff, ↓reduceIte, evA, r5, r31, r32, r33] <;> rfl)) | (apply wantedZ; exact rfl; exact rfl; exact rfl; (simp only [T.get_set, Nat.reduceEqDiff, ↓reduceIte, evA, r5, r31, r32, r33] <;> rfl))); exact rfl)
                | (with_reducible apply aw_seq)
                | (with_reducible apply aw_regionL)
                | (with_reducible apply aw_block)
                | (with_reducible apply aw_scope)
                | (with_reducible apply aw_nil)
                | (with_reducible apply aw_then)
                | (with_reducible apply aw_thenR)
                | (with_reducible apply aw_thenE)
                | (with_reducible apply aw_blockR)
                | (with_reducible apply aw_blockN)
                | (with_reducible apply aw_blockE)
                | (with_reducible apply aw_ret)
                | (with_reducible apply aw_exit)
                | (with_reducible apply aw_skip)
                | ((with_reducible apply aw_condT); (first | exact rfl | (simp only [T.get_set, Nat.reduceEqDiff, ↓reduceIte, evA, r5, r31, r32, r33] <;> rfl)))
                | ((with_reducible apply aw_condF); (first | exact rfl | (simp only [T.get_set, Nat.reduceEqDiff, ↓reduceIte, evA, r5, r31, r32, r33] <;> rfl)))
                | ((with_reducible apply aw_drawL); (simp only [List.zipIdx_cons, List.zipIdx_nil, Nat.zero_add, Nat.reduceAdd] <;> rfl); kernel_rfl; kernel_rfl)
                | (with_reducible apply dw_nil)
                | fail)

              refine ⟨rfl, _, (by simp only [res7, resultsA, resultA, List.getElem?_toArray, List.toList_toArray, bin_eql, bin_neq, bin_lss, bin_leq, bin_gtr, bin_geq, bin_add, bin_sub, bin_mul, un_not, unA, AHeap.get_bump, AHeap.next_bump, opK0, kMove, kPick, kAlloc, kBox, kBuild, kBuildSlice, kLoad, kStore, kNilCheck, kBinOp, kUnOp, kFieldAddr, kField, kIndexAddr, kIndex, kLookup, kMapUpdate, kMakeMap, kExtract, kSlice, kCall, lenA, evA, evAs, evParts, toAV, toAV0, toAVs, T.get_set, T.get_nil, Nat.reduceAdd, Nat.reduceMul, Nat.reduceEqDiff, Nat.zero_add, Nat.add_zero, Nat.mul_one, Nat.zero_mul, AV.cells, List.all_cons, List.all_nil, AV.scalar, Bool.and_true, Bool.true_and, ↓reduceIte, if_true, und_all, Tryd.underlying3, Tryd.underlying4, Tryd.underlying5, Tryd.underlying9, Tryd.underlying23, Tryd.underlying24, Tryd.underlying31, Tryd.underlying38, Tryd.underlying39, Tryd.underlying40, Tryd.underlying41, Tryd.underlying42, Tryd.underlying45, Tryd.underlying46, Tryd.underlying48, Tryd.underlying50, Tryd.underlying55, Tryd.underlying57, Tryd.underlying67, siz3, agg3, zer3, byt3, siz4, agg4, zer4, byt4, siz5, agg5, zer5, byt5, siz9, agg9, zer9, byt9, siz23, agg23, zer23, byt23, siz24, agg24, zer24, byt24, siz31, agg31, zer31, byt31, siz38, agg38, zer38, byt38, siz39, agg39, zer39, byt39, siz40, agg40, zer40, byt40, siz41, agg41, zer41, byt41, siz42, agg42, zer42, byt42, siz45, agg45, zer45, byt45, siz46, agg46, zer46, byt46, siz48, agg48, zer48, byt48, siz50, agg50, zer50, byt50, siz55, agg55, zer55, byt55, siz57, agg57, zer57, byt57, siz67, agg67, zer67, byt67, AHeap.get_alloc, AHeap.get_set, AHeap.next_alloc, AHeap.next_set, AHeap.loadCells, AHeap.load1, AHeap.storeCells, List.getElem?_cons_zero, List.getElem?_cons_succ, List.length_cons, List.length_nil, List.drop_zero, List.take_succ_cons, List.take_zero, List.drop_succ_cons, List.drop_nil, List.take_nil, List.append_nil, List.cons_append, List.nil_append, binA, isConstO, keyOk, ents_some, Bool.or_true, Bool.or_false, Bool.true_or, Bool.false_or, wantedA, dstOk, Option.bind_some, List.append_nil, Tryd.underlying27, decide_true, decide_false, beq_self_eq_true, Bool.not_true, Bool.not_false, Bool.false_eq_true, if_false, List.zipIdx_cons, reid, toAV, Int.toNat_natCast, Int.natCast_one, Int.natCast_zero, r5, r31, r32, r33] <;> rfl), .inl ⟨i, _, (show (5 : Int) ≠ 0 by decide), rfl⟩, ?_⟩
              try dsimp only
              repeat (first | exact Keep.refl _ | exact k1 | (with_reducible apply Keep.bump) | (with_reducible apply Keep.alloc) | ((with_reducible apply Keep.set); (first | exact Nat.le_refl _ | (have := Keep.next k1; omega)); ((try simp only [AHeap.next_alloc, AHeap.next_bump, AHeap.next_set]); have := Keep.next k1; omega)))

            | true =>
              repeat (first
                | ((first | ((with_reducible apply wpOps_valT); (first | exact rfl | (apply wantedGT; exact rfl; exact rfl; exact rfl; (simp only [T.get_set, Nat.reduceEqDiff, ↓reduceIte, evA, r5, r31, r32, r33] <;> rfl))); exact rfl) | ((with_reducible apply wpOps_storeN); (first | exact rfl | (apply wantedGT; exact rfl; exact rfl; exact rfl; (simp only [T.get_set, Nat.reduceEqDiff, ↓reduceIte, evA, r5, r31, r32, r33] <;> rfl))); exact rfl) | ((with_reducible apply dw_pureT); (first | exact rfl | (apply wantedGT; exact rfl; exact rfl; exact rfl; (simp only [T.get_set, Nat.reduceEqDiff, ↓reduceIte, evA, r5, r31, r32, r33] <;> rfl))); exact rfl; exact rfl) | ((with_reducible apply dw_readT); (first | exact rfl | (apply wantedGT; exact rfl; exact rfl; exact rfl; (simp only [T.get_set, Nat.reduceEqDiff, ↓reduceIte, evA, r5, r31, r32, r33] <;> rfl))); exact rfl; exact rfl)); (simp only [List.getElem?_toArray, List.toList_toArray, bin_eql, bin_neq, bin_lss, bin_leq, bin_gtr, bin_geq, bin_add, bin_sub, bin_mul, un_not, unA, AHeap.get_bump, AHeap.next_bump, opK0, kMove, kPick, kAlloc, kBox, kBuild, kBuildSlice, kLoad, kStore, kNilCheck, kBinOp, kUnOp, kFieldAddr, kField, kIndexAddr, kIndex, kLookup, kMapUpdate, kMakeMap, kExtract, kSlice, kCall, lenA, evA, evAs, evParts, toAV, toAV0, toAVs, T.get_set, T.get_nil, Nat.reduceAdd, Nat.reduceMul, Nat.reduceEqDiff, Nat.zero_add, Nat.add_zero, Nat.mul_one, Nat.zero_mul, AV.cells, List.all_cons, List.all_nil, AV.scalar, Bool.and_true, Bool.true_and, ↓reduceIte, if_true, und_all, Tryd.underlying3, Tryd.underlying4, Tryd.underlying5, Tryd.underlying9, Tryd.underlying23, Tryd.underlying24, Tryd.underlying31, Tryd.underlying38, Tryd.underlying39, Tryd.underlying40, Tryd.underlying41, Tryd.underlying42, Tryd.underlying45, Tryd.underlying46, Tryd.underlying48, Tryd.underlying50, Tryd.underlying55, Tryd.underlying57, Tryd.underlying67, siz3, agg3, zer3, byt3, siz4, agg4, zer4, byt4, siz5, agg5, zer5, byt5, siz9, agg9, zer9, byt9, siz23, agg23, zer23, byt23, siz24, agg24, zer24, byt24, siz31, agg31, zer31, byt31, siz38, agg38, zer38, byt38, siz39, agg39, zer39, byt39, siz40, agg40, zer40, byt40, siz41, agg41, zer41, byt41, siz42, agg42, zer42, byt42, siz45, agg45, zer45, byt45, siz46, agg46, zer46, byt46, siz48, agg48, zer48, byt48, siz50, agg50, zer50, byt50, siz55, agg55, zer55, byt55, siz57, agg57, zer57, byt57, siz67, agg67, zer67, byt67, AHeap.get_alloc, AHeap.get_set, AHeap.next_alloc, AHeap.next_set, AHeap.loadCells, AHeap.load1, AHeap.storeCells, List.getElem?_cons_zero, List.getElem?_cons_succ, List.length_cons, List.length_nil, List.drop_zero, List.take_succ_cons, List.take_zero, List.drop_succ_cons, List.drop_nil, List.take_nil, List.append_nil, List.cons_append, List.nil_append, binA, isConstO, keyOk, ents_some, Bool.or_true, Bool.or_false, Bool.true_or, Bool.false_or, wantedA, dstOk, Option.bind_some, List.append_nil, Tryd.underlying27, decide_true, decide_false, beq_self_eq_true, Bool.not_true, Bool.not_false, Bool.false_eq_true, if_false, List.zipIdx_cons, reid, toAV, Int.toNat_natCast, Int.natCast_one, Int.natCast_zero, g1, g2, g3, g4, ha', and_self, c1, c2, c3, q1, q2, q3, q4, q5, z1, z2, wi, m2, g7, r5, r31, r32, r33] <;> rfl))
                | ((with_reducible apply wpOps_skipT); (first | exact rfl | (apply wantedGF; exact rfl; exact rfl; exact rfl; (simp only [T.get_set, Nat.reduceEqDiff, ↓reduceIte, evA, r5, r31, r32, r33] <;> rfl)) | (apply wantedZ; exact rfl; exact rfl; exact rfl; (simp only [T.get_set, Nat.reduceEqDiff, ↓reduceIte, evA, r5, r31, r32, r33] <;> rfl))); exact rfl)
                | ((with_reducible apply wpOps_skipN); (first | exact rfl | (apply wantedGF; exact rfl; exact rfl; exact rfl; (simp only [T.get_set, Nat.reduceEqDiff, ↓reduceIte, evA, r5, r31, r32, r33] <;> rfl)) | (apply wantedZ; exact rfl; exact rfl; exact rfl; (simp only [T.get_set, Nat.reduceEqDiff, ↓reduceIte, evA, r5, r31, r32, r33] <;> rfl))); exact rfl)
                | ((with_reducible apply dw_skipT); (first | exact rfl | (apply wantedGF; exact rfl; exact rfl; exact rfl; (simp only [T.get_set, Nat.reduceEqDiff, ↓reduceIte, evA, r5, r31, r32, r33] <;> rfl)) | (apply wantedZ; exact rfl; exact rfl; exact rfl; (simp only [T.get_set, Nat.reduceEqDiff, ↓reduceIte, evA, r5, r31, r32, r33] <;> rfl))); exact rfl)
                | (with_reducible apply aw_seq)
                | (with_reducible apply aw_regionL)
                | (with_reducible apply aw_block)
                | (with_reducible apply aw_scope)
                | (with_reducible apply aw_nil)
                | (with_reducible apply aw_then)
                | (with_reducible apply aw_thenR)
                | (with_reducible apply aw_thenE)
                | (with_reducible apply aw_blockR)
                | (with_reducible apply aw_blockN)
                | (with_reducible apply aw_blockE)
                | (with_reducible apply aw_ret)
                | (with_reducible apply aw_exit)
                | (with_reducible apply aw_skip)
                | ((with_reducible apply aw_condT); (first | exact rfl | (simp only [T.get_set, Nat.reduceEqDiff, ↓reduceIte, evA, r5, r31, r32, r33] <;> rfl)))
                | ((with_reducible apply aw_condF); (first | exact rfl | (simp only [T.get_set, Nat.reduceEqDiff, ↓reduceIte, evA, r5, r31, r32, r33] <;> rfl)))
                | ((with_reducible apply aw_drawL); (simp only [List.zipIdx_cons, List.zipIdx_nil, Nat.zero_add, Nat.reduceAdd] <;> rfl); kernel_rfl; kernel_rfl)
                | (with_reducible apply dw_nil)
                | fail)

              (with_reducible apply wpOps_callT); (first | exact rfl | (apply wantedGT; exact rfl; exact rfl; exact rfl; (simp only [T.get_set, Nat.reduceEqDiff, ↓reduceIte, evA, r5, r31, r32, r33] <;> rfl))); exact rfl; (simp only [List.getElem?_toArray, List.toList_toArray, bin_eql, bin_neq, bin_lss, bin_leq, bin_gtr, bin_geq, bin_add, bin_sub, bin_mul, un_not, unA, AHeap.get_bump, AHeap.next_bump, opK0, kMove, kPick, kAlloc, kBox, kBuild, kBuildSlice, kLoad, kStore, kNilCheck, kBinOp, kUnOp, kFieldAddr, kField, kIndexAddr, kIndex, kLookup, kMapUpdate, kMakeMap, kExtract, kSlice, kCall, lenA, evA, evAs, evParts, toAV, toAV0, toAVs, T.get_set, T.get_nil, Nat.reduceAdd, Nat.reduceMul, Nat.reduceEqDiff, Nat.zero_add, Nat.add_zero, Nat.mul_one, Nat.zero_mul, AV.cells, List.all_cons, List.all_nil, AV.scalar, Bool.and_true, Bool.true_and, ↓reduceIte, if_true, und_all, Tryd.underlying3, Tryd.underlying4, Tryd.underlying5, Tryd.underlying9, Tryd.underlying23, Tryd.underlying24, Tryd.underlying31, Tryd.underlying38, Tryd.underlying39, Tryd.underlying40, Tryd.underlying41, Tryd.underlying42, Tryd.underlying45, Tryd.underlying46, Tryd.underlying48, Tryd.underlying50, Tryd.underlying55, Tryd.underlying57, Tryd.underlying67, siz3, agg3, zer3, byt3, siz4, agg4, zer4, byt4, siz5, agg5, zer5, byt5, siz9, agg9, zer9, byt9, siz23, agg23, zer23, byt23, siz24, agg24, zer24, byt24, siz31, agg31, zer31, byt31, siz38, agg38, zer38, byt38, siz39, agg39, zer39, byt39, siz40, agg40, zer40, byt40, siz41, agg41, zer41, byt41, siz42, agg42, zer42, byt42, siz45, agg45, zer45, byt45, siz46, agg46, zer46, byt46, siz48, agg48, zer48, byt48, siz50, agg50, zer50, byt50, siz55, agg55, zer55, byt55, siz57, agg57, zer57, byt57, siz67, agg67, zer67, byt67, AHeap.get_alloc, AHeap.get_set, AHeap.next_alloc, AHeap.next_set, AHeap.loadCells, AHeap.load1, AHeap.storeCells, List.getElem?_cons_zero, List.getElem?_cons_succ, List.length_cons, List.length_nil, List.drop_zero, List.take_succ_cons, List.take_zero, List.drop_succ_cons, List.drop_nil, List.take_nil, List.append_nil, List.cons_append, List.nil_append, binA, isConstO, keyOk, ents_some, Bool.or_true, Bool.or_false, Bool.true_or, Bool.false_or, wantedA, dstOk, Option.bind_some, List.append_nil, Tryd.underlying27, decide_true, decide_false, beq_self_eq_true, Bool.not_true, Bool.not_false, Bool.false_eq_true, if_false, List.zipIdx_cons, reid, toAV, Int.toNat_natCast, Int.natCast_one, Int.natCast_zero, g1, g2, g3, g4, ha', and_self, c1, c2, c3, q1, q2, q3, q4, q5, z1, z2, wi, m2, g7, r5, r31, r32, r33] <;> rfl)

              refine WCall_heap (fun X => Keep H X ∧ X.get H.next = some (.cells true 0 [.str sn, .slice (some (o, 0)) sfs.length]) ∧ H.next < X.next) ⟨?_, ?_, ?_⟩ ?_
              · skip
                try dsimp only
                repeat (first | exact Keep.refl _ | (with_reducible apply Keep.bump) | (with_reducible apply Keep.alloc) | ((with_reducible apply Keep.set); (first | exact Nat.le_refl _ | (omega)); ((try simp only [AHeap.next_alloc, AHeap.next_bump, AHeap.next_set]); omega)))

              · skip
                simp only [AHeap.get_alloc, AHeap.get_bump, AHeap.next_bump, AHeap.next_set, AHeap.next_alloc, AHeap.get_set]
                repeat (first | rfl | assumption | exact if_pos trivial | exact if_pos rfl | (refine (if_pos trivial).trans ?_) | (refine (if_pos rfl).trans ?_) | (refine (if_neg (by omega)).trans ?_))

              · simp only [AHeap.next_set, AHeap.next_bump, AHeap.next_alloc]; omega
              rintro X ⟨k2, c9, nX⟩
              have hX := hT.keep k2
              have kX := k1.trans k2
              refine (lay_w X _ _ _ o N es sn sfs ow oe hX (kX.fresh hF) hB.fits ((kX.old o lo).trans ho) (Nat.lt_of_lt_of_le lo kX.next) hlen.2.2 hlen.2.1).mono fun out X' hq => ?_
              obtain ⟨hout, k3⟩ := hq
              have hX' := hX.keep k3
              have kX' := kX.trans k3
              replace c9 := (k3.old _ nX).trans c9
              replace nX := Nat.lt_of_lt_of_le nX k3.next
              clear hX kX c1 c2 c3 q1 q2 q3 q4 q5 z1 z2
              cases hlay : layF N es sfs with
              | bad e =>
                rw [hlay] at hout
                simp only [LayOut] at hout
                subst hout
                have he : (e == 0) = false := by simpa using layF_err hlay
                dsimp only
                repeat (first
                  | ((first | ((with_reducible apply wpOps_valT); (first | exact rfl | (apply wantedGT; exact rfl; exact rfl; exact rfl; (simp only [T.get_set, Nat.reduceEqDiff, ↓reduceIte, evA, r5, r31, r32, r33] <;> rfl))); exact rfl) | ((with_reducible apply wpOps_storeN); (first | exact rfl | (apply wantedGT; exact rfl; exact rfl; exact rfl; (simp only [T.get_set, Nat.reduceEqDiff, ↓reduceIte, evA, r5, r31, r32, r33] <;> rfl))); exact rfl) | ((with_reducible apply dw_pureT); (first | exact rfl | (apply wantedGT; exact rfl; exact rfl; exact rfl; (simp only [T.get_set, Nat.reduceEqDiff, ↓reduceIte, evA, r5, r31, r32, r33] <;> rfl))); exact rfl; exact rfl) | ((with_reducible apply dw_readT); (first | exact rfl | (apply wantedGT; exact rfl; exact rfl; exact rfl; (simp only [T.get_set, Nat.reduceEqDiff, ↓reduceIte, evA, r5, r31, r32, r33] <;> rfl))); exact rfl; exact rfl)); (simp only [List.getElem?_toArray, List.toList_toArray, bin_eql, bin_neq, bin_lss, bin_leq, bin_gtr, bin_geq, bin_add, bin_sub, bin_mul, un_not, unA, AHeap.get_bump, AHeap.next_bump, opK0, kMove, kPick, kAlloc, kBox, kBuild, kBuildSlice, kLoad, kStore, kNilCheck, kBinOp, kUnOp, kFieldAddr, kField, kIndexAddr, kIndex, kLookup, kMapUpdate, kMakeMap, kExtract, kSlice, kCall, lenA, evA, evAs, evParts, toAV, toAV0, toAVs, T.get_set, T.get_nil, Nat.reduceAdd, Nat.reduceMul, Nat.reduceEqDiff, Nat.zero_add, Nat.add_zero, Nat.mul_one, Nat.zero_mul, AV.cells, List.all_cons, List.all_nil, AV.scalar, Bool.and_true, Bool.true_and, ↓reduceIte, if_true, und_all, Tryd.underlying3, Tryd.underlying4, Tryd.underlying5, Tryd.underlying9, Tryd.underlying23, Tryd.underlying24, Tryd.underlying31, Tryd.underlying38, Tryd.underlying39, Tryd.underlying40, Tryd.underlying41, Tryd.underlying42, Tryd.underlying45, Tryd.underlying46, Tryd.underlying48, Tryd.underlying50, Tryd.underlying55, Tryd.underlying57, Tryd.underlying67, siz3, agg3, zer3, byt3, siz4, agg4, zer4, byt4, siz5, agg5, zer5, byt5, siz9, agg9, zer9, byt9, siz23, agg23, zer23, byt23, siz24, agg24, zer24, byt24, siz31, agg31, zer31, byt31, siz38, agg38, zer38, byt38, siz39, agg39, zer39, byt39, siz40, agg40, zer40, byt40, siz41, agg41, zer41, byt41, siz42, agg42, zer42, byt42, siz45, agg45, zer45, byt45, siz46, agg46, zer46, byt46, siz48, agg48, zer48, byt48, siz50, agg50, zer50, byt50, siz55, agg55, zer55, byt55, siz57, agg57, zer57, byt57, siz67, agg67, zer67, byt67, AHeap.get_alloc, AHeap.get_set, AHeap.next_alloc, AHeap.next_set, AHeap.loadCells, AHeap.load1, AHeap.storeCells, List.getElem?_cons_zero, List.getElem?_cons_succ, List.length_cons, List.length_nil, List.drop_zero, List.take_succ_cons, List.take_zero, List.drop_succ_cons, List.drop_nil, List.take_nil, List.append_nil, List.cons_append, List.nil_append, binA, isConstO, keyOk, ents_some, Bool.or_true, Bool.or_false, Bool.true_or, Bool.false_or, wantedA, dstOk, Option.bind_some, List.append_nil, Tryd.underlying27, decide_true, decide_false, beq_self_eq_true, Bool.not_true, Bool.not_false, Bool.false_eq_true, if_false, List.zipIdx_cons, reid, toAV, Int.toNat_natCast, Int.natCast_one, Int.natCast_zero, c9, wi, bne, he, r5, r31, r32, r33] <;> rfl))
                  | ((with_reducible apply wpOps_skipT); (first | exact rfl | (apply wantedGF; exact rfl; exact rfl; exact rfl; (simp only [T.get_set, Nat.reduceEqDiff, ↓reduceIte, evA, r5, r31, r32, r33] <;> rfl)) | (apply wantedZ; exact rfl; exact rfl; exact rfl; (simp only [T.get_set, Nat.reduceEqDiff, ↓reduceIte, evA, r5, r31, r32, r33] <;> rfl))); exact rfl)
                  | ((with_reducible apply wpOps_skipN); (first | exact rfl | (apply wantedGF; exact rfl; exact rfl; exact rfl; (simp only [T.get_set, Nat.reduceEqDiff, ↓reduceIte, evA, r5, r31, r32, r33] <;> rfl)) | (apply wantedZ; exact rfl; exact rfl; exact rfl; (simp only [T.get_set, Nat.reduceEqDiff, ↓reduceIte, evA, r5, r31, r32, r33] <;> rfl))); exact rfl)
                  | ((with_reducible apply dw_skipT); (first | exact rfl | (apply wantedGF; exact rfl; exact rfl; exact rfl; (simp only [T.get_set, Nat.reduceEqDiff, ↓reduceIte, evA, r5, r31, r32, r33] <;> rfl)) | (apply wantedZ; exact rfl; exact rfl; exact rfl; (simp only [T.get_set, Nat.reduceEqDiff, ↓reduceIte, evA, r5, r31, r32, r33] <;> rfl))); exact rfl)
                  | (with_reducible apply aw_seq)
                  | (with_reducible apply aw_regionL)
                  | (with_reducible apply aw_block)
                  | (with_reducible apply aw_scope)
                  | (with_reducible apply aw_nil)
                  | (with_reducible apply aw_then)
                  | (with_reducible apply aw_thenR)
                  | (with_reducible apply aw_thenE)
                  | (with_reducible apply aw_blockR)
                  | (with_reducible apply aw_blockN)
                  | (with_reducible apply aw_blockE)
                  | (with_reducible apply aw_ret)
                  | (with_reducible apply aw_exit)
                  | (with_reducible apply aw_skip)
                  | ((with_reducible apply aw_condT); (first | exact rfl | (simp only [T.get_set, Nat.reduceEqDiff, ↓reduceIte, evA, r5, r31, r32, r33] <;> rfl)))
                  | ((with_reducible apply aw_condF); (first | exact rfl | (simp only [T.get_set, Nat.reduceEqDiff, ↓reduceIte, evA, r5, r31, r32, r33] <;> rfl)))
                  | ((with_reducible apply aw_drawL); (simp only [List.zipIdx_cons, List.zipIdx_nil, Nat.zero_add, Nat.reduceAdd] <;> rfl); kernel_rfl; kernel_rfl)
                  | (with_reducible apply dw_nil)
                  | fail)

                refine ⟨rfl, _, (by simp only [res7, resultsA, resultA, List.getElem?_toArray, List.toList_toArray, bin_eql, bin_neq, bin_lss, bin_leq, bin_gtr, bin_geq, bin_add, bin_sub, bin_mul, un_not, unA, AHeap.get_bump, AHeap.next_bump, opK0, kMove, kPick, kAlloc, kBox, kBuild, kBuildSlice, kLoad, kStore, kNilCheck, kBinOp, kUnOp, kFieldAddr, kField, kIndexAddr, kIndex, kLookup, kMapUpdate, kMakeMap, kExtract, kSlice, kCall, lenA, evA, evAs, evParts, toAV, toAV0, toAVs, T.get_set, T.get_nil, Nat.reduceAdd, Nat.reduceMul, Nat.reduceEqDiff, Nat.zero_add, Nat.add_zero, Nat.mul_one, Nat.zero_mul, AV.cells, List.all_cons, List.all_nil, AV.scalar, Bool.and_true, Bool.true_and, ↓reduceIte, if_true, und_all, Tryd.underlying3, Tryd.underlying4, Tryd.underlying5, Tryd.underlying9, Tryd.underlying23, Tryd.underlying24, Tryd.underlying31, Tryd.underlying38, Tryd.underlying39, Tryd.underlying40, Tryd.underlying41, Tryd.underlying42, Tryd.underlying45, Tryd.underlying46, Tryd.underlying48, Tryd.underlying50, Tryd.underlying55, Tryd.underlying57, Tryd.underlying67, siz3, agg3, zer3, byt3, siz4, agg4, zer4, byt4, siz5, agg5, zer5, byt5, siz9, agg9, zer9, byt9, siz23, agg23, zer23, byt23, siz24, agg24, zer24, byt24, siz31, agg31, zer31, byt31, siz38, agg38, zer38, byt38, siz39, agg39, zer39, byt39, siz40, agg40, zer40, byt40, siz41, agg41, zer41, byt41, siz42, agg42, zer42, byt42, siz45, agg45, zer45, byt45, siz46, agg46, zer46, byt46, siz48, agg48, zer48, byt48, siz50, agg50, zer50, byt50, siz55, agg55, zer55, byt55, siz57, agg57, zer57, byt57, siz67, agg67, zer67, byt67, AHeap.get_alloc, AHeap.get_set, AHeap.next_alloc, AHeap.next_set, AHeap.loadCells, AHeap.load1, AHeap.storeCells, List.getElem?_cons_zero, List.getElem?_cons_succ, List.length_cons, List.length_nil, List.drop_zero, List.take_succ_cons, List.take_zero, List.drop_succ_cons, List.drop_nil, List.take_nil, List.append_nil, List.cons_append, List.nil_append, binA, isConstO, keyOk, ents_some, Bool.or_true, Bool.or_false, Bool.true_or, Bool.false_or, wantedA, dstOk, Option.bind_some, List.append_nil, Tryd.underlying27, decide_true, decide_false, beq_self_eq_true, Bool.not_true, Bool.not_false, Bool.false_eq_true, if_false, List.zipIdx_cons, reid, toAV, Int.toNat_natCast, Int.natCast_one, Int.natCast_zero, r5, r31, r32, r33] <;> rfl), .inl ⟨i, _, (layF_err hlay), rfl⟩, ?_⟩
                try dsimp only
                repeat (first | exact Keep.refl _ | exact kX' | (with_reducible apply Keep.bump) | (with_reducible apply Keep.alloc) | ((with_reducible apply Keep.set); (first | exact Nat.le_refl _ | (have := Keep.next kX'; omega)); ((try simp only [AHeap.next_alloc, AHeap.next_bump, AHeap.next_set]); have := Keep.next kX'; omega)))

              | good ps size align =>
                rw [hlay] at hout
                simp only [LayOut] at hout
                obtain ⟨sl, rfl, hpl⟩ := hout
                have hgood := layF_good hB.fits hsf hlay
                have hps : ps ≠ [] := by
                  rintro rfl
                  cases sfs with
                  | nil => exact hsf rfl
                  | cons => simp at hgood
                rcases hpl with ⟨e, _⟩ | ⟨po, rfl, p1, p2, p3⟩
                · exact (hps e).elim
                dsimp only
                have c1 := hX'.t
                have c2 := hX'.n
                have c3 := hX'.s
                have c4 := hX'.o
                have l4 := hX'.lo
                have lt1 := hX'.lt
                have lt2 := hX'.ln
                have lt3 := hX'.ls
                rw [← hSS] at c3
                have q1 : (h.next + 2 = X'.next) = False := eq_false (by omega)
                have q2 : (h.next = X'.next) = False := eq_false (by omega)
                have q3 : (h.next + 1 = X'.next) = False := eq_false (by omega)
                have q4 : (H.next = X'.next) = False := eq_false (by omega)
                repeat (first
                  | ((first | ((with_reducible apply wpOps_valT); (first | exact rfl | (apply wantedGT; exact rfl; exact rfl; exact rfl; (simp only [T.get_set, Nat.reduceEqDiff, ↓reduceIte, evA, r5, r31, r32, r33] <;> rfl))); exact rfl) | ((with_reducible apply wpOps_storeN); (first | exact rfl | (apply wantedGT; exact rfl; exact rfl; exact rfl; (simp only [T.get_set, Nat.reduceEqDiff, ↓reduceIte, evA, r5, r31, r32, r33] <;> rfl))); exact rfl) | ((with_reducible apply dw_pureT); (first | exact rfl | (apply wantedGT; exact rfl; exact rfl; exact rfl; (simp only [T.get_set, Nat.reduceEqDiff, ↓reduceIte, evA, r5, r31, r32, r33] <;> rfl))); exact rfl; exact rfl) | ((with_reducible apply dw_readT); (first | exact rfl | (apply wantedGT; exact rfl; exact rfl; exact rfl; (simp only [T.get_set, Nat.reduceEqDiff, ↓reduceIte, evA, r5, r31, r32, r33] <;> rfl))); exact rfl; exact rfl)); (simp only [List.getElem?_toArray, List.toList_toArray, bin_eql, bin_neq, bin_lss, bin_leq, bin_gtr, bin_geq, bin_add, bin_sub, bin_mul, un_not, unA, AHeap.get_bump, AHeap.next_bump, opK0, kMove, kPick, kAlloc, kBox, kBuild, kBuildSlice, kLoad, kStore, kNilCheck, kBinOp, kUnOp, kFieldAddr, kField, kIndexAddr, kIndex, kLookup, kMapUpdate, kMakeMap, kExtract, kSlice, kCall, lenA, evA, evAs, evParts, toAV, toAV0, toAVs, T.get_set, T.get_nil, Nat.reduceAdd, Nat.reduceMul, Nat.reduceEqDiff, Nat.zero_add, Nat.add_zero, Nat.mul_one, Nat.zero_mul, AV.cells, List.all_cons, List.all_nil, AV.scalar, Bool.and_true, Bool.true_and, ↓reduceIte, if_true, und_all, Tryd.underlying3, Tryd.underlying4, Tryd.underlying5, Tryd.underlying9, Tryd.underlying23, Tryd.underlying24, Tryd.underlying31, Tryd.underlying38, Tryd.underlying39, Tryd.underlying40, Tryd.underlying41, Tryd.underlying42, Tryd.underlying45, Tryd.underlying46, Tryd.underlying48, Tryd.underlying50, Tryd.underlying55, Tryd.underlying57, Tryd.underlying67, siz3, agg3, zer3, byt3, siz4, agg4, zer4, byt4, siz5, agg5, zer5, byt5, siz9, agg9, zer9, byt9, siz23, agg23, zer23, byt23, siz24, agg24, zer24, byt24, siz31, agg31, zer31, byt31, siz38, agg38, zer38, byt38, siz39, agg39, zer39, byt39, siz40, agg40, zer40, byt40, siz41, agg41, zer41, byt41, siz42, agg42, zer42, byt42, siz45, agg45, zer45, byt45, siz46, agg46, zer46, byt46, siz48, agg48, zer48, byt48, siz50, agg50, zer50, byt50, siz55, agg55, zer55, byt55, siz57, agg57, zer57, byt57, siz67, agg67, zer67, byt67, AHeap.get_alloc, AHeap.get_set, AHeap.next_alloc, AHeap.next_set, AHeap.loadCells, AHeap.load1, AHeap.storeCells, List.getElem?_cons_zero, List.getElem?_cons_succ, List.length_cons, List.length_nil, List.drop_zero, List.take_succ_cons, List.take_zero, List.drop_succ_cons, List.drop_nil, List.take_nil, List.append_nil, List.cons_append, List.nil_append, binA, isConstO, keyOk, ents_some, Bool.or_true, Bool.or_false, Bool.true_or, Bool.false_or, wantedA, dstOk, Option.bind_some, List.append_nil, Tryd.underlying27, decide_true, decide_false, beq_self_eq_true, Bool.not_true, Bool.not_false, Bool.false_eq_true, if_false, List.zipIdx_cons, reid, toAV, Int.toNat_natCast, Int.natCast_one, Int.natCast_zero, c9, wi, c1, c2, c3, q1, q2, q3, q4, m2, r5, r31, r32, r33] <;> rfl))
                  | ((with_reducible apply wpOps_skipT); (first | exact rfl | (apply wantedGF; exact rfl; exact rfl; exact rfl; (simp only [T.get_set, Nat.reduceEqDiff, ↓reduceIte, evA, r5, r31, r32, r33] <;> rfl)) | (apply wantedZ; exact rfl; exact rfl; exact rfl; (simp only [T.get_set, Nat.reduceEqDiff, ↓reduceIte, evA, r5, r31, r32, r33] <;> rfl))); exact rfl)
                  | ((with_reducible apply wpOps_skipN); (first | exact rfl | (apply wantedGF; exact rfl; exact rfl; exact rfl; (simp only [T.get_set, Nat.reduceEqDiff, ↓reduceIte, evA, r5, r31, r32, r33] <;> rfl)) | (apply wantedZ; exact rfl; exact rfl; exact rfl; (simp only [T.get_set, Nat.reduceEqDiff, ↓reduceIte, evA, r5, r31, r32, r33] <;> rfl))); exact rfl)
                  | ((with_reducible apply dw_storeN); (first | exact rfl | (apply wantedGT; exact rfl; exact rfl; exact rfl; (simp only [T.get_set, Nat.reduceEqDiff, ↓reduceIte, evA, r5, r31, r32, r33] <;> rfl))); exact rfl; exact rfl; (simp only [List.getElem?_toArray, List.toList_toArray, bin_eql, bin_neq, bin_lss, bin_leq, bin_gtr, bin_geq, bin_add, bin_sub, bin_mul, un_not, unA, AHeap.get_bump, AHeap.next_bump, opK0, kMove, kPick, kAlloc, kBox, kBuild, kBuildSlice, kLoad, kStore, kNilCheck, kBinOp, kUnOp, kFieldAddr, kField, kIndexAddr, kIndex, kLookup, kMapUpdate, kMakeMap, kExtract, kSlice, kCall, lenA, evA, evAs, evParts, toAV, toAV0, toAVs, T.get_set, T.get_nil, Nat.reduceAdd, Nat.reduceMul, Nat.reduceEqDiff, Nat.zero_add, Nat.add_zero, Nat.mul_one, Nat.zero_mul, AV.cells, List.all_cons, List.all_nil, AV.scalar, Bool.and_true, Bool.true_and, ↓reduceIte, if_true, und_all, Tryd.underlying3, Tryd.underlying4, Tryd.underlying5, Tryd.underlying9, Tryd.underlying23, Tryd.underlying24, Tryd.underlying31, Tryd.underlying38, Tryd.underlying39, Tryd.underlying40, Tryd.underlying41, Tryd.underlying42, Tryd.underlying45, Tryd.underlying46, Tryd.underlying48, Tryd.underlying50, Tryd.underlying55, Tryd.underlying57, Tryd.underlying67, siz3, agg3, zer3, byt3, siz4, agg4, zer4, byt4, siz5, agg5, zer5, byt5, siz9, agg9, zer9, byt9, siz23, agg23, zer23, byt23, siz24, agg24, zer24, byt24, siz31, agg31, zer31, byt31, siz38, agg38, zer38, byt38, siz39, agg39, zer39, byt39, siz40, agg40, zer40, byt40, siz41, agg41, zer41, byt41, siz42, agg42, zer42, byt42, siz45, agg45, zer45, byt45, siz46, agg46, zer46, byt46, siz48, agg48, zer48, byt48, siz50, agg50, zer50, byt50, siz55, agg55, zer55, byt55, siz57, agg57, zer57, byt57, siz67, agg67, zer67, byt67, AHeap.get_alloc, AHeap.get_set, AHeap.next_alloc, AHeap.next_set, AHeap.loadCells, AHeap.load1, AHeap.storeCells, List.getElem?_cons_zero, List.getElem?_cons_succ, List.length_cons, List.length_nil, List.drop_zero, List.take_succ_cons, List.take_zero, List.drop_succ_cons, List.drop_nil, List.take_nil, List.append_nil, List.cons_append, List.nil_append, binA, isConstO, keyOk, ents_some, Bool.or_true, Bool.or_false, Bool.true_or, Bool.false_or, wantedA, dstOk, Option.bind_some, List.append_nil, Tryd.underlying27, decide_true, decide_false, beq_self_eq_true, Bool.not_true, Bool.not_false, Bool.false_eq_true, if_false, List.zipIdx_cons, reid, toAV, Int.toNat_natCast, Int.natCast_one, Int.natCast_zero, c9, wi, c1, c2, c3, q1, q2, q3, q4, m2, r5, r31, r32, r33] <;> rfl); kernel_rfl; kernel_rfl)
                  | ((with_reducible apply dw_skipT); (first | exact rfl | (apply wantedGF; exact rfl; exact rfl; exact rfl; (simp only [T.get_set, Nat.reduceEqDiff, ↓reduceIte, evA, r5, r31, r32, r33] <;> rfl)) | (apply wantedZ; exact rfl; exact rfl; exact rfl; (simp only [T.get_set, Nat.reduceEqDiff, ↓reduceIte, evA, r5, r31, r32, r33] <;> rfl))); exact rfl)
                  | (with_reducible apply aw_seq)
                  | (with_reducible apply aw_regionL)
                  | (with_reducible apply aw_block)
                  | (with_reducible apply aw_scope)
                  | (with_reducible apply aw_nil)
                  | (with_reducible apply aw_then)
                  | (with_reducible apply aw_thenR)
                  | (with_reducible apply aw_thenE)
                  | (with_reducible apply aw_blockR)
                  | (with_reducible apply aw_blockN)
                  | (with_reducible apply aw_blockE)
                  | (with_reducible apply aw_ret)
                  | (with_reducible apply aw_exit)
                  | (with_reducible apply aw_skip)
                  | ((with_reducible apply aw_condT); (first | exact rfl | (simp only [T.get_set, Nat.reduceEqDiff, ↓reduceIte, evA, r5, r31, r32, r33] <;> rfl)))
                  | ((with_reducible apply aw_condF); (first | exact rfl | (simp only [T.get_set, Nat.reduceEqDiff, ↓reduceIte, evA, r5, r31, r32, r33] <;> rfl)))
                  | ((with_reducible apply aw_drawL); (simp only [List.zipIdx_cons, List.zipIdx_nil, Nat.zero_add, Nat.reduceAdd] <;> rfl); kernel_rfl; kernel_rfl)
                  | (with_reducible apply dw_nil)
                  | fail)

                have M1 : stMap (es ++ [⟨sn, po, ps, size, align⟩]) = SS ++ [(.str sn, .agg [.slice (some (po, 0)) ps.length, .int .i64 size, .int .i64 align])] := by rw [hSS]; simp [stMap, Ent.val]
                have hob : ∀ e ∈ es, e.obj ≠ h.next + 1 := fun e he e' => by
                  have := c4 e he
                  rw [e', c3] at this
                  cases this
                have hpo : po ≠ h.next + 1 := fun e' => by
                  rw [e', c3] at p1
                  cases p1
                have htb := hX'.t
                have hnm := hX'.n
                refine ⟨l.length - (i + 1), by omega, i + 1, es ++ [⟨sn, po, ps, size, align⟩], hlt, rfl, ?_, rfl, rfl, rfl, by (first | exact rfl | (simp only [T.get_set, Nat.reduceEqDiff, ↓reduceIte, evA, r5, r31, r32, r33] <;> rfl)), by (first | exact rfl | (simp only [T.get_set, Nat.reduceEqDiff, ↓reduceIte, evA, r5, r31, r32, r33] <;> rfl)), by (first | exact rfl | (simp only [T.get_set, Nat.reduceEqDiff, ↓reduceIte, evA, r5, r31, r32, r33] <;> rfl)), by (first | exact rfl | (simp only [T.get_set, Nat.reduceEqDiff, ↓reduceIte, evA, r5, r31, r32, r33] <;> rfl)), ?_, ?_⟩
                · rw [htk]; exact .snoc hB m0 hsf hgn hlay
                · refine ⟨?_, ?_, ?_, ?_, ?_, ?_, ?_, ?_, by omega⟩
                  · skip
                    simp only [AHeap.get_alloc, AHeap.get_bump, AHeap.next_bump, AHeap.next_set, AHeap.next_alloc, AHeap.get_set]
                    repeat (first | rfl | assumption | exact if_pos trivial | exact if_pos rfl | (refine (if_pos trivial).trans ?_) | (refine (if_pos rfl).trans ?_) | (refine (if_neg (by omega)).trans ?_))

                  · skip
                    simp only [AHeap.get_alloc, AHeap.get_bump, AHeap.next_bump, AHeap.next_set, AHeap.next_alloc, AHeap.get_set]
                    repeat (first | rfl | assumption | exact if_pos trivial | exact if_pos rfl | (refine (if_pos trivial).trans ?_) | (refine (if_pos rfl).trans ?_) | (refine (if_neg (by omega)).trans ?_))

                  · rw [M1]
                    simp only [AHeap.get_alloc, AHeap.get_bump, AHeap.next_bump, AHeap.next_set, AHeap.next_alloc, AHeap.get_set]
                    repeat (first | rfl | assumption | exact if_pos trivial | exact if_pos rfl | (refine (if_pos trivial).trans ?_) | (refine (if_pos rfl).trans ?_) | (refine (if_neg (by omega)).trans ?_))

                  · intro e he
                    rw [List.mem_append] at he
                    rcases he with he | he
                    · have d1 := c4 e he
                      have d2 := hob e he
                      have d3 := l4 e he
                      simp only [AHeap.get_alloc, AHeap.get_bump, AHeap.next_bump, AHeap.next_set, AHeap.next_alloc, AHeap.get_set]
                      repeat (first | rfl | assumption | exact if_pos trivial | exact if_pos rfl | (refine (if_pos trivial).trans ?_) | (refine (if_pos rfl).trans ?_) | (refine (if_neg (by omega)).trans ?_))

                    · simp only [List.mem_cons, List.not_mem_nil, or_false] at he
                      subst he
                      dsimp only
                      simp only [AHeap.get_alloc, AHeap.get_bump, AHeap.next_bump, AHeap.next_set, AHeap.next_alloc, AHeap.get_set]
                      repeat (first | rfl | assumption | exact if_pos trivial | exact if_pos rfl | (refine (if_pos trivial).trans ?_) | (refine (if_pos rfl).trans ?_) | (refine (if_neg (by omega)).trans ?_))

                  · simp only [AHeap.next_set, AHeap.next_bump, AHeap.next_alloc]; omega
                  · simp only [AHeap.next_set, AHeap.next_bump, AHeap.next_alloc]; omega
                  · simp only [AHeap.next_set, AHeap.next_bump, AHeap.next_alloc]; omega
                  · intro e he
                    simp only [AHeap.next_set, AHeap.next_bump, AHeap.next_alloc]
                    rw [List.mem_append] at he
                    rcases he with he | he
                    · have d3 := l4 e he
                      omega
                    · simp only [List.mem_cons, List.not_mem_nil, or_false] at he
                      subst he
                      dsimp only
                      omega
                · skip
                  try dsimp only
                  repeat (first | exact Keep.refl _ | exact kX' | (with_reducible apply Keep.bump) | (with_reducible apply Keep.alloc) | ((with_reducible apply Keep.set); (first | exact Nat.le_refl _ | (have := Keep.next kX'; omega)); ((try simp only [AHeap.next_alloc, AHeap.next_bump, AHeap.next_set]); have := Keep.next kX'; omega)))

        · simp only [Ent.val] at m2
          repeat (first
            | ((first | ((with_reducible apply wpOps_valT); (first | exact rfl | (apply wantedGT; exact rfl; exact rfl; exact rfl; (simp only [T.get_set, Nat.reduceEqDiff, ↓reduceIte, evA, r5, r31, r32, r33] <;> rfl))); exact rfl) | ((with_reducible apply wpOps_storeN); (first | exact rfl | (apply wantedGT; exact rfl; exact rfl; exact rfl; (simp only [T.get_set, Nat.reduceEqDiff, ↓reduceIte, evA, r5, r31, r32, r33] <;> rfl))); exact rfl) | ((with_reducible apply dw_pureT); (first | exact rfl | (apply wantedGT; exact rfl; exact rfl; exact rfl; (simp only [T.get_set, Nat.reduceEqDiff, ↓reduceIte, evA, r5, r31, r32, r33] <;> rfl))); exact rfl; exact rfl) | ((with_reducible apply dw_readT); (first | exact rfl | (apply wantedGT; exact rfl; exact rfl; exact rfl; (simp only [T.get_set, Nat.reduceEqDiff, ↓reduceIte, evA, r5, r31, r32, r33] <;> rfl))); exact rfl; exact rfl)); (simp only [List.getElem?_toArray, List.toList_toArray, bin_eql, bin_neq, bin_lss, bin_leq, bin_gtr, bin_geq, bin_add, bin_sub, bin_mul, un_not, unA, AHeap.get_bump, AHeap.next_bump, opK0, kMove, kPick, kAlloc, kBox, kBuild, kBuildSlice, kLoad, kStore, kNilCheck, kBinOp, kUnOp, kFieldAddr, kField, kIndexAddr, kIndex, kLookup, kMapUpdate, kMakeMap, kExtract, kSlice, kCall, lenA, evA, evAs, evParts, toAV, toAV0, toAVs, T.get_set, T.get_nil, Nat.reduceAdd, Nat.reduceMul, Nat.reduceEqDiff, Nat.zero_add, Nat.add_zero, Nat.mul_one, Nat.zero_mul, AV.cells, List.all_cons, List.all_nil, AV.scalar, Bool.and_true, Bool.true_and, ↓reduceIte, if_true, und_all, Tryd.underlying3, Tryd.underlying4, Tryd.underlying5, Tryd.underlying9, Tryd.underlying23, Tryd.underlying24, Tryd.underlying31, Tryd.underlying38, Tryd.underlying39, Tryd.underlying40, Tryd.underlying41, Tryd.underlying42, Tryd.underlying45, Tryd.underlying46, Tryd.underlying48, Tryd.underlying50, Tryd.underlying55, Tryd.underlying57, Tryd.underlying67, siz3, agg3, zer3, byt3, siz4, agg4, zer4, byt4, siz5, agg5, zer5, byt5, siz9, agg9, zer9, byt9, siz23, agg23, zer23, byt23, siz24, agg24, zer24, byt24, siz31, agg31, zer31, byt31, siz38, agg38, zer38, byt38, siz39, agg39, zer39, byt39, siz40, agg40, zer40, byt40, siz41, agg41, zer41, byt41, siz42, agg42, zer42, byt42, siz45, agg45, zer45, byt45, siz46, agg46, zer46, byt46, siz48, agg48, zer48, byt48, siz50, agg50, zer50, byt50, siz55, agg55, zer55, byt55, siz57, agg57, zer57, byt57, siz67, agg67, zer67, byt67, AHeap.get_alloc, AHeap.get_set, AHeap.next_alloc, AHeap.next_set, AHeap.loadCells, AHeap.load1, AHeap.storeCells, List.getElem?_cons_zero, List.getElem?_cons_succ, List.length_cons, List.length_nil, List.drop_zero, List.take_succ_cons, List.take_zero, List.drop_succ_cons, List.drop_nil, List.take_nil, List.append_nil, List.cons_append, List.nil_append, binA, isConstO, keyOk, ents_some, Bool.or_true, Bool.or_false, Bool.true_or, Bool.false_or, wantedA, dstOk, Option.bind_some, List.append_nil, Tryd.underlying27, decide_true, decide_false, beq_self_eq_true, Bool.not_true, Bool.not_false, Bool.false_eq_true, if_false, List.zipIdx_cons, reid, toAV, Int.toNat_natCast, Int.natCast_one, Int.natCast_zero, g1, g2, g3, g4, ha', and_self, c1, c2, c3, q1, q2, q3, q4, q5, z1, z2, wi, m2, r5, r31, r32, r33] <;> rfl))
            | ((with_reducible apply wpOps_skipT); (first | exact rfl | (apply wantedGF; exact rfl; exact rfl; exact rfl; (simp only [T.get_set, Nat.reduceEqDiff, ↓reduceIte, evA, r5, r31, r32, r33] <;> rfl)) | (apply wantedZ; exact rfl; exact rfl; exact rfl; (simp only [T.get_set, Nat.reduceEqDiff, ↓reduceIte, evA, r5, r31, r32, r33] <;> rfl))); exact rfl)
            | ((with_reducible apply wpOps_skipN); (first | exact rfl | (apply wantedGF; exact rfl; exact rfl; exact rfl; (simp only [T.get_set, Nat.reduceEqDiff, ↓reduceIte, evA, r5, r31, r32, r33] <;> rfl)) | (apply wantedZ; exact rfl; exact rfl; exact rfl; (simp only [T.get_set, Nat.reduceEqDiff, ↓reduceIte, evA, r5, r31, r32, r33] <;> rfl))); exact rfl)
            | ((with_reducible apply dw_allocT); (first | exact rfl | (apply wantedGT; exact rfl; exact rfl; exact rfl; (simp only [T.get_set, Nat.reduceEqDiff, ↓reduceIte, evA, r5, r31, r32, r33] <;> rfl))); exact rfl; exact rfl; (simp only [List.getElem?_toArray, List.toList_toArray, bin_eql, bin_neq, bin_lss, bin_leq, bin_gtr, bin_geq, bin_add, bin_sub, bin_mul, un_not, unA, AHeap.get_bump, AHeap.next_bump, opK0, kMove, kPick, kAlloc, kBox, kBuild, kBuildSlice, kLoad, kStore, kNilCheck, kBinOp, kUnOp, kFieldAddr, kField, kIndexAddr, kIndex, kLookup, kMapUpdate, kMakeMap, kExtract, kSlice, kCall, lenA, evA, evAs, evParts, toAV, toAV0, toAVs, T.get_set, T.get_nil, Nat.reduceAdd, Nat.reduceMul, Nat.reduceEqDiff, Nat.zero_add, Nat.add_zero, Nat.mul_one, Nat.zero_mul, AV.cells, List.all_cons, List.all_nil, AV.scalar, Bool.and_true, Bool.true_and, ↓reduceIte, if_true, und_all, Tryd.underlying3, Tryd.underlying4, Tryd.underlying5, Tryd.underlying9, Tryd.underlying23, Tryd.underlying24, Tryd.underlying31, Tryd.underlying38, Tryd.underlying39, Tryd.underlying40, Tryd.underlying41, Tryd.underlying42, Tryd.underlying45, Tryd.underlying46, Tryd.underlying48, Tryd.underlying50, Tryd.underlying55, Tryd.underlying57, Tryd.underlying67, siz3, agg3, zer3, byt3, siz4, agg4, zer4, byt4, siz5, agg5, zer5, byt5, siz9, agg9, zer9, byt9, siz23, agg23, zer23, byt23, siz24, agg24, zer24, byt24, siz31, agg31, zer31, byt31, siz38, agg38, zer38, byt38, siz39, agg39, zer39, byt39, siz40, agg40, zer40, byt40, siz41, agg41, zer41, byt41, siz42, agg42, zer42, byt42, siz45, agg45, zer45, byt45, siz46, agg46, zer46, byt46, siz48, agg48, zer48, byt48, siz50, agg50, zer50, byt50, siz55, agg55, zer55, byt55, siz57, agg57, zer57, byt57, siz67, agg67, zer67, byt67, AHeap.get_alloc, AHeap.get_set, AHeap.next_alloc, AHeap.next_set, AHeap.loadCells, AHeap.load1, AHeap.storeCells, List.getElem?_cons_zero, List.getElem?_cons_succ, List.length_cons, List.length_nil, List.drop_zero, List.take_succ_cons, List.take_zero, List.drop_succ_cons, List.drop_nil, List.take_nil, List.append_nil, List.cons_append, List.nil_append, binA, isConstO, keyOk, ents_some, Bool.or_true, Bool.or_false, Bool.true_or, Bool.false_or, wantedA, dstOk, Option.bind_some, List.append_nil, Tryd.underlying27, decide_true, decide_false, beq_self_eq_true, Bool.not_true, Bool.not_false, Bool.false_eq_true, if_false, List.zipIdx_cons, reid, toAV, Int.toNat_natCast, Int.natCast_one, Int.natCast_zero, g1, g2, g3, g4, ha', and_self, c1, c2, c3, q1, q2, q3, q4, q5, z1, z2, wi, m2, r5, r31, r32, r33] <;> rfl); (simp only [List.getElem?_toArray, List.toList_toArray, bin_eql, bin_neq, bin_lss, bin_leq, bin_gtr, bin_geq, bin_add, bin_sub, bin_mul, un_not, unA, AHeap.get_bump, AHeap.next_bump, opK0, kMove, kPick, kAlloc, kBox, kBuild, kBuildSlice, kLoad, kStore, kNilCheck, kBinOp, kUnOp, kFieldAddr, kField, kIndexAddr, kIndex, kLookup, kMapUpdate, kMakeMap, kExtract, kSlice, kCall, lenA, evA, evAs, evParts, toAV, toAV0, toAVs, T.get_set, T.get_nil, Nat.reduceAdd, Nat.reduceMul, Nat.reduceEqDiff, Nat.zero_add, Nat.add_zero, Nat.mul_one, Nat.zero_mul, AV.cells, List.all_cons, List.all_nil, AV.scalar, Bool.and_true, Bool.true_and, ↓reduceIte, if_true, und_all, Tryd.underlying3, Tryd.underlying4, Tryd.underlying5, Tryd.underlying9, Tryd.underlying23, Tryd.underlying24, Tryd.underlying31, Tryd.underlying38, Tryd.underlying39, Tryd.underlying40, Tryd.underlying41, Tryd.underlying42, Tryd.underlying45, Tryd.underlying46, Tryd.underlying48, Tryd.underlying50, Tryd.underlying55, Tryd.underlying57, Tryd.underlying67, siz3, agg3, zer3, byt3, siz4, agg4, zer4, byt4, siz5, agg5, zer5, byt5, siz9, agg9, zer9, byt9, siz23, agg23, zer23, byt23, siz24, agg24, zer24, byt24, siz31, agg31, zer31, byt31, siz38, agg38, zer38, byt38, siz39, agg39, zer39, byt39, siz40, agg40, zer40, byt40, siz41, agg41, zer41, byt41, siz42, agg42, zer42, byt42, siz45, agg45, zer45, byt45, siz46, agg46, zer46, byt46, siz48, agg48, zer48, byt48, siz50, agg50, zer50, byt50, siz55, agg55, zer55, byt55, siz57, agg57, zer57, byt57, siz67, agg67, zer67, byt67, AHeap.get_alloc, AHeap.get_set, AHeap.next_alloc, AHeap.next_set, AHeap.loadCells, AHeap.load1, AHeap.storeCells, List.getElem?_cons_zero, List.getElem?_cons_succ, List.length_cons, List.length_nil, List.drop_zero, List.take_succ_cons, List.take_zero, List.drop_succ_cons, List.drop_nil, List.take_nil, List.append_nil, List.cons_append, List.nil_append, binA, isConstO, keyOk, ents_some, Bool.or_true, Bool.or_false, Bool.true_or, Bool.false_or, wantedA, dstOk, Option.bind_some, List.append_nil, Tryd.underlying27, decide_true, decide_false, beq_self_eq_true, Bool.not_true, Bool.not_false, Bool.false_eq_true, if_false, List.zipIdx_cons, reid, toAV, Int.toNat_natCast, Int.natCast_one, Int.natCast_zero, g1, g2, g3, g4, ha', and_self, c1, c2, c3, q1, q2, q3, q4, q5, z1, z2, wi, m2, r5, r31, r32, r33] <;> rfl); (simp only [List.getElem?_toArray, List.toList_toArray, bin_eql, bin_neq, bin_lss, bin_leq, bin_gtr, bin_geq, bin_add, bin_sub, bin_mul, un_not, unA, AHeap.get_bump, AHeap.next_bump, opK0, kMove, kPick, kAlloc, kBox, kBuild, kBuildSlice, kLoad, kStore, kNilCheck, kBinOp, kUnOp, kFieldAddr, kField, kIndexAddr, kIndex, kLookup, kMapUpdate, kMakeMap, kExtract, kSlice, kCall, lenA, evA, evAs, evParts, toAV, toAV0, toAVs, T.get_set, T.get_nil, Nat.reduceAdd, Nat.reduceMul, Nat.reduceEqDiff, Nat.zero_add, Nat.add_zero, Nat.mul_one, Nat.zero_mul, AV.cells, List.all_cons, List.all_nil, AV.scalar, Bool.and_true, Bool.true_and, ↓reduceIte, if_true, und_all, Tryd.underlying3, Tryd.underlying4, Tryd.underlying5, Tryd.underlying9, Tryd.underlying23, Tryd.underlying24, Tryd.underlying31, Tryd.underlying38, Tryd.underlying39, Tryd.underlying40, Tryd.underlying41, Tryd.underlying42, Tryd.underlying45, Tryd.underlying46, Tryd.underlying48, Tryd.underlying50, Tryd.underlying55, Tryd.underlying57, Tryd.underlying67, siz3, agg3, zer3, byt3, siz4, agg4, zer4, byt4, siz5, agg5, zer5, byt5, siz9, agg9, zer9, byt9, siz23, agg23, zer23, byt23, siz24, agg24, zer24, byt24, siz31, agg31, zer31, byt31, siz38, agg38, zer38, byt38, siz39, agg39, zer39, byt39, siz40, agg40, zer40, byt40, siz41, agg41, zer41, byt41, siz42, agg42, zer42, byt42, siz45, agg45, zer45, byt45, siz46, agg46, zer46, byt46, siz48, agg48, zer48, byt48, siz50, agg50, zer50, byt50, siz55, agg55, zer55, byt55, siz57, agg57, zer57, byt57, siz67, agg67, zer67, byt67, AHeap.get_alloc, AHeap.get_set, AHeap.next_alloc, AHeap.next_set, AHeap.loadCells, AHeap.load1, AHeap.storeCells, List.getElem?_cons_zero, List.getElem?_cons_succ, List.length_cons, List.length_nil, List.drop_zero, List.take_succ_cons, List.take_zero, List.drop_succ_cons, List.drop_nil, List.take_nil, List.append_nil, List.cons_append, List.nil_append, binA, isConstO, keyOk, ents_some, Bool.or_true, Bool.or_false, Bool.true_or, Bool.false_or, wantedA, dstOk, Option.bind_some, List.append_nil, Tryd.underlying27, decide_true, decide_false, beq_self_eq_true, Bool.not_true, Bool.not_false, Bool.false_eq_true, if_false, List.zipIdx_cons, reid, toAV, Int.toNat_natCast, Int.natCast_one, Int.natCast_zero, g1, g2, g3, g4, ha', and_self, c1, c2, c3, q1, q2, q3, q4, q5, z1, z2, wi, m2, r5, r31, r32, r33] <;> rfl); exact rfl)
            | ((with_reducible apply dw_storeN); (first | exact rfl | (apply wantedGT; exact rfl; exact rfl; exact rfl; (simp only [T.get_set, Nat.reduceEqDiff, ↓reduceIte, evA, r5, r31, r32, r33] <;> rfl))); exact rfl; exact rfl; (simp only [List.getElem?_toArray, List.toList_toArray, bin_eql, bin_neq, bin_lss, bin_leq, bin_gtr, bin_geq, bin_add, bin_sub, bin_mul, un_not, unA, AHeap.get_bump, AHeap.next_bump, opK0, kMove, kPick, kAlloc, kBox, kBuild, kBuildSlice, kLoad, kStore, kNilCheck, kBinOp, kUnOp, kFieldAddr, kField, kIndexAddr, kIndex, kLookup, kMapUpdate, kMakeMap, kExtract, kSlice, kCall, lenA, evA, evAs, evParts, toAV, toAV0, toAVs, T.get_set, T.get_nil, Nat.reduceAdd, Nat.reduceMul, Nat.reduceEqDiff, Nat.zero_add, Nat.add_zero, Nat.mul_one, Nat.zero_mul, AV.cells, List.all_cons, List.all_nil, AV.scalar, Bool.and_true, Bool.true_and, ↓reduceIte, if_true, und_all, Tryd.underlying3, Tryd.underlying4, Tryd.underlying5, Tryd.underlying9, Tryd.underlying23, Tryd.underlying24, Tryd.underlying31, Tryd.underlying38, Tryd.underlying39, Tryd.underlying40, Tryd.underlying41, Tryd.underlying42, Tryd.underlying45, Tryd.underlying46, Tryd.underlying48, Tryd.underlying50, Tryd.underlying55, Tryd.underlying57, Tryd.underlying67, siz3, agg3, zer3, byt3, siz4, agg4, zer4, byt4, siz5, agg5, zer5, byt5, siz9, agg9, zer9, byt9, siz23, agg23, zer23, byt23, siz24, agg24, zer24, byt24, siz31, agg31, zer31, byt31, siz38, agg38, zer38, byt38, siz39, agg39, zer39, byt39, siz40, agg40, zer40, byt40, siz41, agg41, zer41, byt41, siz42, agg42, zer42, byt42, siz45, agg45, zer45, byt45, siz46, agg46, zer46, byt46, siz48, agg48, zer48, byt48, siz50, agg50, zer50, byt50, siz55, agg55, zer55, byt55, siz57, agg57, zer57, byt57, siz67, agg67, zer67, byt67, AHeap.get_alloc, AHeap.get_set, AHeap.next_alloc, AHeap.next_set, AHeap.loadCells, AHeap.load1, AHeap.storeCells, List.getElem?_cons_zero, List.getElem?_cons_succ, List.length_cons, List.length_nil, List.drop_zero, List.take_succ_cons, List.take_zero, List.drop_succ_cons, List.drop_nil, List.take_nil, List.append_nil, List.cons_append, List.nil_append, binA, isConstO, keyOk, ents_some, Bool.or_true, Bool.or_false, Bool.true_or, Bool.false_or, wantedA, dstOk, Option.bind_some, List.append_nil, Tryd.underlying27, decide_true, decide_false, beq_self_eq_true, Bool.not_true, Bool.not_false, Bool.false_eq_true, if_false, List.zipIdx_cons, reid, toAV, Int.toNat_natCast, Int.natCast_one, Int.natCast_zero, g1, g2, g3, g4, ha', and_self, c1, c2, c3, q1, q2, q3, q4, q5, z1, z2, wi, m2, r5, r31, r32, r33] <;> rfl); kernel_rfl; kernel_rfl)
            | ((with_reducible apply dw_skipT); (first | exact rfl | (apply wantedGF; exact rfl; exact rfl; exact rfl; (simp only [T.get_set, Nat.reduceEqDiff, ↓reduceIte, evA, r5, r31, r32, r33] <;> rfl)) | (apply wantedZ; exact rfl; exact rfl; exact rfl; (simp only [T.get_set, Nat.reduceEqDiff, ↓reduceIte, evA, r5, r31, r32, r33] <;> rfl))); exact rfl)
            | (with_reducible apply aw_seq)
            | (with_reducible apply aw_regionL)
            | (with_reducible apply aw_block)
            | (with_reducible apply aw_scope)
            | (with_reducible apply aw_nil)
            | (with_reducible apply aw_then)
            | (with_reducible apply aw_thenR)
            | (with_reducible apply aw_thenE)
            | (with_reducible apply aw_blockR)
            | (with_reducible apply aw_blockN)
            | (with_reducible apply aw_blockE)
            | (with_reducible apply aw_ret)
            | (with_reducible apply aw_exit)
            | (with_reducible apply aw_skip)
            | ((with_reducible apply aw_condT); (first | exact rfl | (simp only [T.get_set, Nat.reduceEqDiff, ↓reduceIte, evA, r5, r31, r32, r33] <;> rfl)))
            | ((with_reducible apply aw_condF); (first | exact rfl | (simp only [T.get_set, Nat.reduceEqDiff, ↓reduceIte, evA, r5, r31, r32, r33] <;> rfl)))
            | ((with_reducible apply aw_drawL); (simp only [List.zipIdx_cons, List.zipIdx_nil, Nat.zero_add, Nat.reduceAdd] <;> rfl); kernel_rfl; kernel_rfl)
            | (with_reducible apply dw_nil)
            | fail)

          refine ⟨rfl, _, (by simp only [res7, resultsA, resultA, List.getElem?_toArray, List.toList_toArray, bin_eql, bin_neq, bin_lss, bin_leq, bin_gtr, bin_geq, bin_add, bin_sub, bin_mul, un_not, unA, AHeap.get_bump, AHeap.next_bump, opK0, kMove, kPick, kAlloc, kBox, kBuild, kBuildSlice, kLoad, kStore, kNilCheck, kBinOp, kUnOp, kFieldAddr, kField, kIndexAddr, kIndex, kLookup, kMapUpdate, kMakeMap, kExtract, kSlice, kCall, lenA, evA, evAs, evParts, toAV, toAV0, toAVs, T.get_set, T.get_nil, Nat.reduceAdd, Nat.reduceMul, Nat.reduceEqDiff, Nat.zero_add, Nat.add_zero, Nat.mul_one, Nat.zero_mul, AV.cells, List.all_cons, List.all_nil, AV.scalar, Bool.and_true, Bool.true_and, ↓reduceIte, if_true, und_all, Tryd.underlying3, Tryd.underlying4, Tryd.underlying5, Tryd.underlying9, Tryd.underlying23, Tryd.underlying24, Tryd.underlying31, Tryd.underlying38, Tryd.underlying39, Tryd.underlying40, Tryd.underlying41, Tryd.underlying42, Tryd.underlying45, Tryd.underlying46, Tryd.underlying48, Tryd.underlying50, Tryd.underlying55, Tryd.underlying57, Tryd.underlying67, siz3, agg3, zer3, byt3, siz4, agg4, zer4, byt4, siz5, agg5, zer5, byt5, siz9, agg9, zer9, byt9, siz23, agg23, zer23, byt23, siz24, agg24, zer24, byt24, siz31, agg31, zer31, byt31, siz38, agg38, zer38, byt38, siz39, agg39, zer39, byt39, siz40, agg40, zer40, byt40, siz41, agg41, zer41, byt41, siz42, agg42, zer42, byt42, siz45, agg45, zer45, byt45, siz46, agg46, zer46, byt46, siz48, agg48, zer48, byt48, siz50, agg50, zer50, byt50, siz55, agg55, zer55, byt55, siz57, agg57, zer57, byt57, siz67, agg67, zer67, byt67, AHeap.get_alloc, AHeap.get_set, AHeap.next_alloc, AHeap.next_set, AHeap.loadCells, AHeap.load1, AHeap.storeCells, List.getElem?_cons_zero, List.getElem?_cons_succ, List.length_cons, List.length_nil, List.drop_zero, List.take_succ_cons, List.take_zero, List.drop_succ_cons, List.drop_nil, List.take_nil, List.append_nil, List.cons_append, List.nil_append, binA, isConstO, keyOk, ents_some, Bool.or_true, Bool.or_false, Bool.true_or, Bool.false_or, wantedA, dstOk, Option.bind_some, List.append_nil, Tryd.underlying27, decide_true, decide_false, beq_self_eq_true, Bool.not_true, Bool.not_false, Bool.false_eq_true, if_false, List.zipIdx_cons, reid, toAV, Int.toNat_natCast, Int.natCast_one, Int.natCast_zero, r5, r31, r32, r33] <;> rfl), .inl ⟨i, _, (show (5 : Int) ≠ 0 by decide), rfl⟩, ?_⟩
          try dsimp only
          repeat (first | exact Keep.refl _ | exact k1 | (with_reducible apply Keep.bump) | (with_reducible apply Keep.alloc) | ((with_reducible apply Keep.set); (first | exact Nat.le_refl _ | (have := Keep.next k1; omega)); ((try simp only [AHeap.next_alloc, AHeap.next_bump, AHeap.next_set]); have := Keep.next k1; omega)))

      · have g1 : ((i : Int) < (l.length : Int)) = False := eq_false (by omega)
        repeat (first
          | ((first | ((with_reducible apply wpOps_valT); (first | exact rfl | (apply wantedGT; exact rfl; exact rfl; exact rfl; (simp only [T.get_set, Nat.reduceEqDiff, ↓reduceIte, evA, r5, r31, r32, r33] <;> rfl))); exact rfl) | ((with_reducible apply wpOps_storeN); (first | exact rfl | (apply wantedGT; exact rfl; exact rfl; exact rfl; (simp only [T.get_set, Nat.reduceEqDiff, ↓reduceIte, evA, r5, r31, r32, r33] <;> rfl))); exact rfl) | ((with_reducible apply dw_pureT); (first | exact rfl | (apply wantedGT; exact rfl; exact rfl; exact rfl; (simp only [T.get_set, Nat.reduceEqDiff, ↓reduceIte, evA, r5, r31, r32, r33] <;> rfl))); exact rfl; exact rfl) | ((with_reducible apply dw_readT); (first | exact rfl | (apply wantedGT; exact rfl; exact rfl; exact rfl; (simp only [T.get_set, Nat.reduceEqDiff, ↓reduceIte, evA, r5, r31, r32, r33] <;> rfl))); exact rfl; exact rfl)); (simp only [List.getElem?_toArray, List.toList_toArray, bin_eql, bin_neq, bin_lss, bin_leq, bin_gtr, bin_geq, bin_add, bin_sub, bin_mul, un_not, unA, AHeap.get_bump, AHeap.next_bump, opK0, kMove, kPick, kAlloc, kBox, kBuild, kBuildSlice, kLoad, kStore, kNilCheck, kBinOp, kUnOp, kFieldAddr, kField, kIndexAddr, kIndex, kLookup, kMapUpdate, kMakeMap, kExtract, kSlice, kCall, lenA, evA, evAs, evParts, toAV, toAV0, toAVs, T.get_set, T.get_nil, Nat.reduceAdd, Nat.reduceMul, Nat.reduceEqDiff, Nat.zero_add, Nat.add_zero, Nat.mul_one, Nat.zero_mul, AV.cells, List.all_cons, List.all_nil, AV.scalar, Bool.and_true, Bool.true_and, ↓reduceIte, if_true, und_all, Tryd.underlying3, Tryd.underlying4, Tryd.underlying5, Tryd.underlying9, Tryd.underlying23, Tryd.underlying24, Tryd.underlying31, Tryd.underlying38, Tryd.underlying39, Tryd.underlying40, Tryd.underlying41, Tryd.underlying42, Tryd.underlying45, Tryd.underlying46, Tryd.underlying48, Tryd.underlying50, Tryd.underlying55, Tryd.underlying57, Tryd.underlying67, siz3, agg3, zer3, byt3, siz4, agg4, zer4, byt4, siz5, agg5, zer5, byt5, siz9, agg9, zer9, byt9, siz23, agg23, zer23, byt23, siz24, agg24, zer24, byt24, siz31, agg31, zer31, byt31, siz38, agg38, zer38, byt38, siz39, agg39, zer39, byt39, siz40, agg40, zer40, byt40, siz41, agg41, zer41, byt41, siz42, agg42, zer42, byt42, siz45, agg45, zer45, byt45, siz46, agg46, zer46, byt46, siz48, agg48, zer48, byt48, siz50, agg50, zer50, byt50, siz55, agg55, zer55, byt55, siz57, agg57, zer57, byt57, siz67, agg67, zer67, byt67, AHeap.get_alloc, AHeap.get_set, AHeap.next_alloc, AHeap.next_set, AHeap.loadCells, AHeap.load1, AHeap.storeCells, List.getElem?_cons_zero, List.getElem?_cons_succ, List.length_cons, List.length_nil, List.drop_zero, List.take_succ_cons, List.take_zero, List.drop_succ_cons, List.drop_nil, List.take_nil, List.append_nil, List.cons_append, List.nil_append, binA, isConstO, keyOk, ents_some, Bool.or_true, Bool.or_false, Bool.true_or, Bool.false_or, wantedA, dstOk, Option.bind_some, List.append_nil, Tryd.underlying27, decide_true, decide_false, beq_self_eq_true, Bool.not_true, Bool.not_false, Bool.false_eq_true, if_false, List.zipIdx_cons, reid, toAV, Int.toNat_natCast, Int.natCast_one, Int.natCast_zero, g1, r5, r31, r32, r33] <;> rfl))
          | ((with_reducible apply wpOps_skipT); (first | exact rfl | (apply wantedGF; exact rfl; exact rfl; exact rfl; (simp only [T.get_set, Nat.reduceEqDiff, ↓reduceIte, evA, r5, r31, r32, r33] <;> rfl)) | (apply wantedZ; exact rfl; exact rfl; exact rfl; (simp only [T.get_set, Nat.reduceEqDiff, ↓reduceIte, evA, r5, r31, r32, r33] <;> rfl))); exact rfl)
          | ((with_reducible apply wpOps_skipN); (first | exact rfl | (apply wantedGF; exact rfl; exact rfl; exact rfl; (simp only [T.get_set, Nat.reduceEqDiff, ↓reduceIte, evA, r5, r31, r32, r33] <;> rfl)) | (apply wantedZ; exact rfl; exact rfl; exact rfl; (simp only [T.get_set, Nat.reduceEqDiff, ↓reduceIte, evA, r5, r31, r32, r33] <;> rfl))); exact rfl)
          | ((with_reducible apply dw_skipT); (first | exact rfl | (apply wantedGF; exact rfl; exact rfl; exact rfl; (simp only [T.get_set, Nat.reduceEqDiff, ↓reduceIte, evA, r5, r31, r32, r33] <;> rfl)) | (apply wantedZ; exact rfl; exact rfl; exact rfl; (simp only [T.get_set, Nat.reduceEqDiff, ↓reduceIte, evA, r5, r31, r32, r33] <;> rfl))); exact rfl)
          | (with_reducible apply aw_seq)
          | (with_reducible apply aw_regionL)
          | (with_reducible apply aw_block)
          | (with_reducible apply aw_scope)
          | (with_reducible apply aw_nil)
          | (with_reducible apply aw_then)
          | (with_reducible apply aw_thenR)
          | (with_reducible apply aw_thenE)
          | (with_reducible apply aw_blockR)
          | (with_reducible apply aw_blockN)
          | (with_reducible apply aw_blockE)
          | (with_reducible apply aw_ret)
          | (with_reducible apply aw_exit)
          | (with_reducible apply aw_skip)
          | ((with_reducible apply aw_condT); (first | exact rfl | (simp only [T.get_set, Nat.reduceEqDiff, ↓reduceIte, evA, r5, r31, r32, r33] <;> rfl)))
          | ((with_reducible apply aw_condF); (first | exact rfl | (simp only [T.get_set, Nat.reduceEqDiff, ↓reduceIte, evA, r5, r31, r32, r33] <;> rfl)))
          | ((with_reducible apply aw_drawL); (simp only [List.zipIdx_cons, List.zipIdx_nil, Nat.zero_add, Nat.reduceAdd] <;> rfl); kernel_rfl; kernel_rfl)
          | (with_reducible apply dw_nil)
          | fail)

        refine ⟨rfl, _, (by simp only [res7, resultsA, resultA, List.getElem?_toArray, List.toList_toArray, bin_eql, bin_neq, bin_lss, bin_leq, bin_gtr, bin_geq, bin_add, bin_sub, bin_mul, un_not, unA, AHeap.get_bump, AHeap.next_bump, opK0, kMove, kPick, kAlloc, kBox, kBuild, kBuildSlice, kLoad, kStore, kNilCheck, kBinOp, kUnOp, kFieldAddr, kField, kIndexAddr, kIndex, kLookup, kMapUpdate, kMakeMap, kExtract, kSlice, kCall, lenA, evA, evAs, evParts, toAV, toAV0, toAVs, T.get_set, T.get_nil, Nat.reduceAdd, Nat.reduceMul, Nat.reduceEqDiff, Nat.zero_add, Nat.add_zero, Nat.mul_one, Nat.zero_mul, AV.cells, List.all_cons, List.all_nil, AV.scalar, Bool.and_true, Bool.true_and, ↓reduceIte, if_true, und_all, Tryd.underlying3, Tryd.underlying4, Tryd.underlying5, Tryd.underlying9, Tryd.underlying23, Tryd.underlying24, Tryd.underlying31, Tryd.underlying38, Tryd.underlying39, Tryd.underlying40, Tryd.underlying41, Tryd.underlying42, Tryd.underlying45, Tryd.underlying46, Tryd.underlying48, Tryd.underlying50, Tryd.underlying55, Tryd.underlying57, Tryd.underlying67, siz3, agg3, zer3, byt3, siz4, agg4, zer4, byt4, siz5, agg5, zer5, byt5, siz9, agg9, zer9, byt9, siz23, agg23, zer23, byt23, siz24, agg24, zer24, byt24, siz31, agg31, zer31, byt31, siz38, agg38, zer38, byt38, siz39, agg39, zer39, byt39, siz40, agg40, zer40, byt40, siz41, agg41, zer41, byt41, siz42, agg42, zer42, byt42, siz45, agg45, zer45, byt45, siz46, agg46, zer46, byt46, siz48, agg48, zer48, byt48, siz50, agg50, zer50, byt50, siz55, agg55, zer55, byt55, siz57, agg57, zer57, byt57, siz67, agg67, zer67, byt67, AHeap.get_alloc, AHeap.get_set, AHeap.next_alloc, AHeap.next_set, AHeap.loadCells, AHeap.load1, AHeap.storeCells, List.getElem?_cons_zero, List.getElem?_cons_succ, List.length_cons, List.length_nil, List.drop_zero, List.take_succ_cons, List.take_zero, List.drop_succ_cons, List.drop_nil, List.take_nil, List.append_nil, List.cons_append, List.nil_append, binA, isConstO, keyOk, ents_some, Bool.or_true, Bool.or_false, Bool.true_or, Bool.false_or, wantedA, dstOk, Option.bind_some, List.append_nil, r5, r31, r32, r33] <;> rfl), .inr ⟨h.next + 2, h.next, h.next + 1, N, es, rfl, hT, hN, ?_⟩, k1⟩
        rwa [List.take_of_length_le (by omega)] at hB
end Go.Proofs.YtkkhpibnbaepiaaDoor
