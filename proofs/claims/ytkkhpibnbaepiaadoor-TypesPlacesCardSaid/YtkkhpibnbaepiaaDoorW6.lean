/-
  Law 6 on the abstract machine: the law of places, and TypesPlaces. Each theorem states its own conditions; there are no others.
-/
import Derived.Test.YtkkhpibnbaepiaaDoorW5
set_option maxRecDepth 100000
set_option linter.unusedSimpArgs false
set_option linter.unusedVariables false
set_option maxHeartbeats 0
namespace Go.Proofs.YtkkhpibnbaepiaaDoor
open Go.Am

theorem gn_len {s : List UInt8} (h : gn s = true) : s.length ≤ 40 := by
  cases s with
  | nil => cases h
  | cons c s =>
    simp only [gn, Bool.and_eq_true, decide_eq_true_eq] at h
    simp only [List.length_cons] at h ⊢
    omega
theorem trimRS_id (l : List UInt8) (c : UInt8) (h : ∀ b, l.getLast? = some b → b ≠ c) : Lib.trimRightB l c = l := by
  unfold Lib.trimRightB
  cases hr : l.reverse with
  | nil => simp only [List.reverse_eq_nil_iff] at hr; subst hr; rfl
  | cons b r =>
    have hb : l.getLast? = some b := by rw [← List.head?_reverse, hr]; rfl
    have hne := h b hb
    rw [List.dropWhile_cons]
    have : (b == c) = false := by simpa using hne
    rw [this]
    simp only [Bool.false_eq_true, if_false]
    rw [← hr, List.reverse_reverse]
theorem dw_nil_mem {p : UInt8 → Bool} : ∀ (l : List UInt8), l.dropWhile p = [] → ∀ b ∈ l, p b = true
  | [], _, b, hb => by cases hb
  | x :: l, h, b, hb => by
    rw [List.dropWhile_cons] at h
    split at h
    · rename_i hx
      rcases List.mem_cons.1 hb with rfl | hb
      · exact hx
      · exact dw_nil_mem l h b hb
    · cases h
theorem tw_mem {p : UInt8 → Bool} : ∀ (l : List UInt8), ∀ b ∈ l.takeWhile p, p b = true
  | [], b, hb => by cases hb
  | x :: l, b, hb => by
    rw [List.takeWhile_cons] at hb
    split at hb
    · rename_i hx
      rcases List.mem_cons.1 hb with rfl | hb
      · exact hx
      · exact tw_mem l b hb
    · cases hb
theorem contains_tail {c : UInt8} {ds cs : List UInt8} (h : Lib.trimS (c :: ds) cs = []) : ∀ b ∈ c :: ds, cs.contains b = true := by
  have hd := trim_head h
  unfold Lib.trimS Lib.trimLeftS Lib.trimRightS at h
  have h1 : ∀ b ∈ ((c :: ds).reverse.dropWhile fun x => cs.contains x).reverse, cs.contains b = true := by
    exact dw_nil_mem _ h
  intro b hb
  have hb' : b ∈ (c :: ds).reverse := List.mem_reverse.2 hb
  rw [← List.takeWhile_append_dropWhile (p := fun x => cs.contains x) (l := (c :: ds).reverse)] at hb'
  rw [List.mem_append] at hb'
  rcases hb' with hb' | hb'
  · exact tw_mem _ b hb'
  · exact h1 b (List.mem_reverse.2 hb')
theorem gn_mem {s : List UInt8} (h : gn s = true) : ∀ b ∈ s, (letters ++ digits).contains b = true := by
  cases s with
  | nil => cases h
  | cons c s =>
    simp only [gn, Bool.and_eq_true, beq_iff_eq] at h
    exact contains_tail h.2.2
theorem gn_ne {s : List UInt8} (h : gn s = true) : s ≠ [] := by rintro rfl; cases h
theorem indexByte_none : ∀ (s : List UInt8) (c : UInt8), c ∉ s → Lib.indexByte s c = -1
  | [], c, h => rfl
  | x :: s, c, h => by
    have h1 : ¬ x = c := fun e => h (by simp [e])
    have h2 := indexByte_none s c (fun e => h (by simp [e]))
    simp [Lib.indexByte, h1, h2]
/-- A good name behind 'struct '. -/
theorem rd_struct {s : List UInt8} (h : gn s = true) : rd (kwStruct ++ s) = (⟨kwStructB, s, 0, false, 0⟩, true) := by
  have hm := gn_mem h
  have n91 : (91 : UInt8) ∉ kwStruct ++ s := by
    intro e
    rw [List.mem_append] at e
    rcases e with e | e
    · revert e; decide
    · exact absurd (hm _ e) (by decide)
  have hc : cutF (kwStruct ++ s) = (kwStruct ++ s, [], false) := by
    unfold cutF
    rw [indexByte_none _ _ n91]
    rfl
  have ht : Lib.trimRightB (kwStruct ++ s) 42 = kwStruct ++ s := by
    apply trimRS_id
    intro b hb
    rw [List.getLast?_append] at hb
    intro e
    subst e
    cases hs : s.getLast? with
    | none => exact gn_ne h (List.getLast?_eq_none_iff.1 hs)
    | some b =>
      rw [hs] at hb
      simp only [Option.or] at hb
      injection hb with hb
      subst hb
      exact absurd (hm _ (List.mem_of_getLast? hs)) (by decide)
  have hp : Lib.hasPrefix (kwStruct ++ s) kwStruct = true := by
    unfold Lib.hasPrefix
    rw [List.isPrefixOf_iff_prefix]
    exact List.prefix_append _ _
  have hq : Lib.trimPrefix (kwStruct ++ s) kwStruct = s := by
    unfold Lib.trimPrefix
    rw [if_pos hp, List.drop_append_of_le_length (Nat.le_refl _), List.drop_length]
    rfl
  have hA : rdArr (kwStruct ++ s) = some (false, 0) := by
    simp only [rdArr, hc, Bool.false_eq_true, if_false]
  simp only [rd, hA, hc, rdTail, ht, hp, hq, if_true, h]
  simp
theorem szF_struct {N : List (List UInt8)} {es : List Ent} {s : List UInt8} {e : Ent} (h : gn s = true) (hN : s ∈ N) (he : findE s es = some e) : szF N es (kwStruct ++ s) = (e.size, e.align, 0) := by
  have m1 : ¬ kwStructB = kwChar := by decide
  have m2 : ¬ kwStructB = kwInt := by decide
  have m3 : ¬ kwStructB = kwLong := by decide
  have hm : msr N es ⟨kwStructB, s, 0, false, 0⟩ = (e.size, e.align, 0) := by
    simp only [msr, hN, not_true_eq_false, and_false, if_false, m1, m2, m3, if_true, he]
    rw [if_neg (by omega)]
  unfold szF
  rw [rd_struct h]
  simp only [hm, if_true, Bool.false_eq_true, if_false]
theorem findE_append {k : List UInt8} {es fs : List Ent} {e : Ent} (h : findE k es = some e) : findE k (es ++ fs) = some e := by
  induction es with
  | nil => cases h
  | cons x es ih =>
    simp only [List.cons_append, findE] at h ⊢
    split
    · rename_i hx; rw [if_pos hx] at h; exact h
    · rename_i hx; rw [if_neg hx] at h; exact ih h
theorem msr_append {N : List (List UInt8)} {es fs : List Ent} {f : Fm} (h : (msr N es f).2.2 = 0) : msr N (es ++ fs) f = msr N es f := by
  unfold msr at h ⊢
  split
  · rfl
  · rename_i h1; rw [if_neg h1] at h
    split
    · rfl
    · rename_i h1; rw [if_neg h1] at h
      split
      · rfl
      · rename_i h1; rw [if_neg h1] at h
        split
        · rfl
        · rename_i h1; rw [if_neg h1] at h
          split
          · rfl
          · rename_i h1; rw [if_neg h1] at h
            split
            · rename_i h1; rw [if_pos h1] at h
              cases he : findE f.name es with
              | none => simp only [he] at h; cases h
              | some e => rw [findE_append he]
            · rfl
theorem szF_append {N : List (List UInt8)} {es fs : List Ent} {s : List UInt8} (h : (szF N es s).2.2 = 0) : szF N (es ++ fs) s = szF N es s := by
  unfold szF at h ⊢
  split
  · rename_i h1; rw [if_pos h1] at h
    by_cases h2 : (msr N es (rd s).1).2.2 = 0
    · rw [msr_append h2]
    · rw [if_neg h2] at h; exact (h2 h).elim
  · rfl
/-- Places, one behind the other. -/
def ChOk (N : List (List UInt8)) (es : List Ent) (A : Int) : List Plc → Int → Int → Prop
  | [], a, b => a = b
  | p :: ps, a, b => ∃ sz al, szF N es p.type = (sz, al, 0) ∧ 1 ≤ sz ∧ sz ≤ 65536 ∧ (al = 1 ∨ al = 4 ∨ al = 8) ∧ a ≤ p.off ∧ p.off - a < al ∧ p.off % al = 0 ∧ A % al = 0 ∧ ChOk N es A ps (p.off + sz) b
theorem ChOk.le {N : List (List UInt8)} {es : List Ent} {A : Int} : ∀ {ps : List Plc} {a b : Int}, ChOk N es A ps a b → a ≤ b
  | [], a, b, h => by simp only [ChOk] at h; omega
  | p :: ps, a, b, ⟨sz, al, h1, h2, h3, h4, h5, h6, h7, h8, h9⟩ => by
    have := h9.le; omega
theorem ChOk.snoc {N : List (List UInt8)} {es : List Ent} {A A' : Int} {p : Plc} {sz al : Int} (hA : ∀ a, (a = 1 ∨ a = 4 ∨ a = 8) → A % a = 0 → A' % a = 0) (h1 : szF N es p.type = (sz, al, 0)) (h2 : 1 ≤ sz) (h3 : sz ≤ 65536) (h4 : al = 1 ∨ al = 4 ∨ al = 8) (h7 : p.off % al = 0) (h8 : A' % al = 0) :
    ∀ {ps : List Plc} {a b : Int}, ChOk N es A ps a b → b ≤ p.off → p.off - b < al → ChOk N es A' (ps ++ [p]) a (p.off + sz)
  | [], a, b, h, h5, h6 => by
    simp only [ChOk] at h
    subst h
    exact ⟨sz, al, h1, h2, h3, h4, h5, h6, h7, h8, rfl⟩
  | q :: ps, a, b, ⟨sz', al', g1, g2, g3, g4, g5, g6, g7, g8, g9⟩, h5, h6 =>
    ⟨sz', al', g1, g2, g3, g4, g5, g6, g7, hA _ g4 g8, ChOk.snoc hA h1 h2 h3 h4 h7 h8 g9 h5 h6⟩
theorem ChOk.append {N : List (List UInt8)} {es fs : List Ent} {A : Int} : ∀ {ps : List Plc} {a b : Int}, ChOk N es A ps a b → ChOk N (es ++ fs) A ps a b
  | [], a, b, h => h
  | p :: ps, a, b, ⟨sz, al, h1, h2, h3, h4, h5, h6, h7, h8, h9⟩ => ⟨sz, al, by rw [szF_append (by rw [h1])]; exact h1, h2, h3, h4, h5, h6, h7, h8, h9.append⟩
theorem layGo_ch {N : List (List UInt8)} {es : List Ent} (hE : Fits es) : ∀ (fs : List Fld) (s s' : LSt), LGood s → ChOk N es s.align s.ps 0 s.size → layGo N es fs s = some s' → ChOk N es s'.align s'.ps 0 s'.size
  | [], s, s', hg, hc, h => by
    simp only [layGo] at h
    injection h with h
    subst h
    exact hc
  | f :: fs, s, s', hg, hc, h => by
    simp only [layGo] at h
    cases hs : layStep N es s f with
    | none => rw [hs] at h; cases h
    | some s1 =>
      rw [hs] at h
      refine layGo_ch hE fs s1 s' (layStep_good hE hg hs) ?_ h
      unfold layStep at hs
      split at hs
      · cases hs
      · split at hs
        · split at hs
          · cases hs
          · rename_i h5
            split at hs
            · injection hs with hs
              subst hs
              exact hc
            · rename_i hl
              injection hs with hs
              subst hs
              have h0 : (szF N es f.2).2.2 = 0 := by
                rcases szF_err N es f.2 with e | e | e
                · exact e
                · exact (hl (.inr e)).elim
                · exact (h5 e).elim
              obtain ⟨b1, b2, b3⟩ := szF_fits hE h0
              obtain ⟨u1, u2, u3⟩ := upTo_ge hg.lo b3
              have hal := hg.al
              refine ChOk.snoc (A := s.align) (p := ⟨f.1, f.2, upTo s.size (szF N es f.2).2.1⟩) (sz := (szF N es f.2).1) (al := (szF N es f.2).2.1) ?_ ?_ b1 b2 b3 u3 ?_ hc u1 (by dsimp only; omega)
              · intro a ha hm
                dsimp only
                rcases ha with rfl | rfl | rfl <;> rcases hal with e | e | e <;> rcases b3 with e' | e' | e' <;> rw [e] at hm ⊢ <;> rw [e'] <;> revert hm <;> decide
              · dsimp only
                rw [← h0]
              · dsimp only
                rcases hal with e | e | e <;> rcases b3 with e' | e' | e' <;> rw [e, e'] <;> decide
        · cases hs
theorem layGo_types {N : List (List UInt8)} {es : List Ent} : ∀ (fs : List Fld) (s s' : LSt), layGo N es fs s = some s' → ∀ p ∈ s'.ps, p ∈ s.ps ∨ ∃ f ∈ fs, p.type = f.2
  | [], s, s', h, p, hp => by
    simp only [layGo] at h
    injection h with h
    subst h
    exact .inl hp
  | f :: fs, s, s', h, p, hp => by
    simp only [layGo] at h
    cases hs : layStep N es s f with
    | none => rw [hs] at h; cases h
    | some s1 =>
      rw [hs] at h
      rcases layGo_types fs s1 s' h p hp with h1 | ⟨g, h1, h2⟩
      · unfold layStep at hs
        split at hs
        · cases hs
        · split at hs
          · split at hs
            · cases hs
            · split at hs
              · injection hs with hs
                subst hs
                exact .inl h1
              · injection hs with hs
                subst hs
                rcases List.mem_append.1 h1 with h1 | h1
                · exact .inl h1
                · simp only [List.mem_cons, List.not_mem_nil, or_false] at h1
                  subst h1
                  exact .inr ⟨f, by simp, rfl⟩
          · cases hs
      · exact .inr ⟨g, by simp [h1], h2⟩
/-- What is known of a struct of the table. -/
structure EntOk (N : List (List UInt8)) (es : List Ent) (s : Sd) (e : Ent) : Prop where
  f : findE s.name es = some e
  z : szF N es (kwStruct ++ s.name) = (e.size, e.align, 0)
  len : e.ps.length = s.fs.length
  ne : e.ps ≠ []
  lo : 1 ≤ e.size
  hi : e.size ≤ 65536
  al : e.align = 1 ∨ e.align = 4 ∨ e.align = 8
  md : e.size % e.align = 0
  nl : (e.ps.length : Int) ≤ e.size
  g : gn s.name = true
  ty : ∀ p ∈ e.ps, ∃ f ∈ s.fs, p.type = f.2
  ch : ∃ b, ChOk N es e.align e.ps 0 b ∧ b ≤ e.size ∧ e.size - b < e.align
theorem findE_snoc {k : List UInt8} {es : List Ent} {e : Ent} (h : findE k es = Option.none) (he : e.name = k) : findE k (es ++ [e]) = some e := by
  induction es with
  | nil => simp only [List.nil_append, findE, he, if_true]
  | cons x es ih =>
    simp only [findE, List.cons_append] at h ⊢
    split
    · rename_i hx; rw [if_pos hx] at h; cases h
    · rename_i hx; rw [if_neg hx] at h; exact ih h
theorem Built.ok {N : List (List UInt8)} : ∀ {l : List Sd} {es : List Ent}, Built N l es → (∀ s ∈ l, s.name ∈ N) → ∀ s ∈ l, ∃ e, EntOk N es s e := by
  intro l es h
  induction h with
  | nil => intro _ s hs; cases hs
  | @snoc l es s obj ps size align hB hn hf hg hl ih =>
    intro hN x hx
    rw [List.mem_append] at hx
    rcases hx with hx | hx
    · obtain ⟨e, he⟩ := ih (fun s hs => hN s (by simp [hs])) x hx
      obtain ⟨b, c1, c2, c3⟩ := he.ch
      exact ⟨e, findE_append he.f, by rw [szF_append (by rw [he.z])]; exact he.z, he.len, he.ne, he.lo, he.hi, he.al, he.md, he.nl, he.g, he.ty, b, c1.append, c2, c3⟩
    · simp only [List.mem_cons, List.not_mem_nil, or_false] at hx
      subst hx
      have hF := hB.fits
      obtain ⟨a1, a2, a3, a4, a5, a6⟩ := layF_good hF hf hl
      have hfe := findE_snoc (e := ⟨x.name, obj, ps, size, align⟩) hn rfl
      have hx := hN x (by simp)
      refine ⟨⟨x.name, obj, ps, size, align⟩, hfe, szF_struct hg hx hfe, a1, ?_, a2, a3, a4, a5, a6, hg, ?_, ?_⟩
      · dsimp only
        rintro rfl
        cases hq : x.fs with
        | nil => exact hf hq
        | cons => rw [hq] at a1; simp at a1
      · dsimp only
        unfold layF at hl
        split at hl
        · cases hl
        · rename_i s hs
          split at hl
          · cases hl
          · injection hl with h1 h2 h3
            subst h1
            intro p hp
            rcases layGo_types x.fs lay0 s hs p hp with h | h
            · cases h
            · exact h
      · dsimp only
        unfold layF at hl
        split at hl
        · cases hl
        · rename_i s hs
          split at hl
          · cases hl
          · injection hl with h1 h2 h3
            have hgs := (layGo_len x.fs lay0 s lay0_good hF hs).1
            obtain ⟨u1, u2, u3⟩ := upTo_ge hgs.lo hgs.al
            have hc := layGo_ch hF x.fs lay0 s lay0_good rfl hs
            subst h1 h2 h3
            exact ⟨s.size, hc.append, u1, by omega⟩

theorem flatS_get (l : List Sd) (i : Nat) (s : Sd) (h : l[i]? = some s) : (flatS l)[i * 2]? = some (.str s.name) ∧ (flatS l)[i * 2 + 1]? = some (.slice s.q s.fs.length) := by
  have := flatS_at l i s h
  have h1 : (List.take 2 (List.drop (i * 2) (flatS l)))[0]? = some (.str s.name) := by rw [this]; rfl
  have h2 : (List.take 2 (List.drop (i * 2) (flatS l)))[1]? = some (.slice s.q s.fs.length) := by rw [this]; rfl
  rw [List.getElem?_take, if_pos (by omega), List.getElem?_drop] at h1 h2
  exact ⟨h1, h2⟩
theorem flat_get : ∀ (l : List Plc) (i : Nat) (p : Plc), l[i]? = some p → (flat l)[i * 3 + 1]? = some (.str p.type) ∧ (flat l)[i * 3 + 2]? = some (.int .i64 p.off)
  | [], i, f, h => by simp at h
  | p :: ps, 0, f, h => by
    simp only [List.getElem?_cons_zero, Option.some.injEq] at h
    subst h
    exact ⟨rfl, rfl⟩
  | p :: ps, i + 1, f, h => by
    have := flat_get ps i f (by simpa using h)
    rw [show (i + 1) * 3 + 1 = i * 3 + 1 + 1 + 1 + 1 by omega, show (i + 1) * 3 + 2 = i * 3 + 2 + 1 + 1 + 1 by omega]
    simpa [flat, Plc.cs] using this
theorem pr6 : env.prim 6 = some truePrim := by unfold env; rfl
theorem fn6 : env.fn 6 = some Tryd.f6 := by kernel_rfl
theorem res5 : Tryd.f5.results.toList = [.tmp 2] := rfl
/-- In the outer loop. -/
structure TpInv (h : AHeap) (p : Option (Nat × Nat)) (l : List Sd) (tb nm st : Nat) (N : List (List UInt8)) (es : List Ent) (i : Nat) (x : St) : Prop where
  n : x.n = 167
  ds : x.ds = []
  rnd : x.rnd = false
  r0 : x.rg.get 0 = some (.slice p l.length)
  r3 : x.rg.get 3 = some (.ptr (some (tb, 0)))
  r6 : x.rg.get 6 = some (.int .i64 i)
  t : TabAt tb nm st x.h N es
  k : Keep h x.h
/-- In the inner one. -/
structure TpInv2 (h : AHeap) (p : Option (Nat × Nat)) (l : List Sd) (tb nm st : Nat) (N : List (List UInt8)) (es : List Ent) (i : Nat) (e : Ent) (o : Nat) (k : Nat) (a : Int) (x : St) : Prop where
  n : x.n = 167
  ds : x.ds = []
  rnd : x.rnd = false
  r0 : x.rg.get 0 = some (.slice p l.length)
  r3 : x.rg.get 3 = some (.ptr (some (tb, 0)))
  r6 : x.rg.get 6 = some (.int .i64 i)
  r7 : x.rg.get 7 = some (.int .i64 e.size)
  r8 : x.rg.get 8 = some (.int .i64 e.align)
  r10 : x.rg.get 10 = some (.slice (some (o, 0)) e.ps.length)
  r12 : x.rg.get 12 = some (.int .i64 a)
  r13 : x.rg.get 13 = some (.int .i64 k)
  t : TabAt tb nm st x.h N es
  k : Keep h x.h
  c : x.h.get o = some (.cells true 3 (flat e.ps))
  lo : o < x.h.next

theorem places_w (h : AHeap) (p : Option (Nat × Nat)) (l : List Sd) (hA : ArgAt h p l) (hF : Fresh h) : WCall env 5 [.slice p l.length] h (fun out h' => out = .ret (.bool true) ∧ Keep h h') := by
  refine WCall.body pr5 fn5 rfl (Nat.le_of_ble_eq_true rfl) ?_
  simp only [argsA]
  repeat (first
    | ((first | ((with_reducible apply wpOps_valT); exact rfl; exact rfl) | ((with_reducible apply wpOps_storeN); exact rfl; exact rfl) | ((with_reducible apply dw_pureT); exact rfl; exact rfl; exact rfl) | ((with_reducible apply dw_readT); exact rfl; exact rfl; exact rfl)); (simp only [List.getElem?_toArray, List.toList_toArray, bin_eql, bin_neq, bin_lss, bin_leq, bin_gtr, bin_geq, bin_add, bin_sub, bin_mul, un_not, unA, AHeap.get_bump, AHeap.next_bump, opK0, kMove, kPick, kAlloc, kBox, kBuild, kBuildSlice, kLoad, kStore, kNilCheck, kBinOp, kUnOp, kFieldAddr, kField, kIndexAddr, kIndex, kLookup, kMapUpdate, kMakeMap, kExtract, kSlice, kCall, lenA, evA, evAs, evParts, toAV, toAV0, toAVs, T.get_set, T.get_nil, Nat.reduceAdd, Nat.reduceMul, Nat.reduceEqDiff, Nat.zero_add, Nat.add_zero, Nat.mul_one, Nat.zero_mul, AV.cells, List.all_cons, List.all_nil, AV.scalar, Bool.and_true, Bool.true_and, ↓reduceIte, if_true, und_all, Tryd.underlying3, Tryd.underlying4, Tryd.underlying5, Tryd.underlying9, Tryd.underlying23, Tryd.underlying24, Tryd.underlying31, Tryd.underlying38, Tryd.underlying39, Tryd.underlying40, Tryd.underlying41, Tryd.underlying42, Tryd.underlying45, Tryd.underlying46, Tryd.underlying48, Tryd.underlying50, Tryd.underlying55, Tryd.underlying57, Tryd.underlying67, siz3, agg3, zer3, byt3, siz4, agg4, zer4, byt4, siz5, agg5, zer5, byt5, siz9, agg9, zer9, byt9, siz23, agg23, zer23, byt23, siz24, agg24, zer24, byt24, siz31, agg31, zer31, byt31, siz38, agg38, zer38, byt38, siz39, agg39, zer39, byt39, siz40, agg40, zer40, byt40, siz41, agg41, zer41, byt41, siz42, agg42, zer42, byt42, siz45, agg45, zer45, byt45, siz46, agg46, zer46, byt46, siz48, agg48, zer48, byt48, siz50, agg50, zer50, byt50, siz55, agg55, zer55, byt55, siz57, agg57, zer57, byt57, siz67, agg67, zer67, byt67, AHeap.get_alloc, AHeap.get_set, AHeap.next_alloc, AHeap.next_set, AHeap.loadCells, AHeap.load1, AHeap.storeCells, List.getElem?_cons_zero, List.getElem?_cons_succ, List.length_cons, List.length_nil, List.drop_zero, List.take_succ_cons, List.take_zero, List.drop_succ_cons, List.drop_nil, List.take_nil, List.append_nil, List.cons_append, List.nil_append, binA, isConstO, keyOk, ents_some, Bool.or_true, Bool.or_false, Bool.true_or, Bool.false_or, wantedA, dstOk, Option.bind_some, List.append_nil, Tryd.underlying27, decide_true, decide_false, beq_self_eq_true, bne_self_eq_false, Bool.not_true, Bool.not_false, Bool.false_eq_true, if_false, List.zipIdx_cons, reid, toAV, Int.toNat_natCast, Int.natCast_one, Int.natCast_zero, fn6] <;> rfl))
    | ((with_reducible apply wpOps_skipT); exact rfl; exact rfl)
    | ((with_reducible apply wpOps_skipN); exact rfl; exact rfl)
    | ((with_reducible apply dw_skipT); exact rfl; exact rfl)
    | (with_reducible apply aw_seq)
    | (with_reducible apply aw_regionL)
    | (with_reducible apply aw_block)
    | (with_reducible apply aw_scope)
    | (with_reducible apply aw_nil)
    | (with_reducible apply aw_then)
    | (with_reducible apply aw_thenR)
    | (with_reducible apply aw_thenE)
    | (with_reducible apply aw_blockR)
    | (with_reducible apply aw_blockN)
    | (with_reducible apply aw_blockE)
    | (with_reducible apply aw_ret)
    | (with_reducible apply aw_exit)
    | (with_reducible apply aw_skip)
    | ((with_reducible apply aw_condT); exact rfl)
    | ((with_reducible apply aw_condF); exact rfl)
    | ((with_reducible apply aw_drawL); (simp only [List.zipIdx_cons, List.zipIdx_nil, Nat.zero_add, Nat.reduceAdd] <;> rfl); kernel_rfl; kernel_rfl)
    | (with_reducible apply dw_nil)
    | fail)

  (with_reducible apply wpOps_callT); exact rfl; exact rfl; (simp only [List.getElem?_toArray, List.toList_toArray, bin_eql, bin_neq, bin_lss, bin_leq, bin_gtr, bin_geq, bin_add, bin_sub, bin_mul, un_not, unA, AHeap.get_bump, AHeap.next_bump, opK0, kMove, kPick, kAlloc, kBox, kBuild, kBuildSlice, kLoad, kStore, kNilCheck, kBinOp, kUnOp, kFieldAddr, kField, kIndexAddr, kIndex, kLookup, kMapUpdate, kMakeMap, kExtract, kSlice, kCall, lenA, evA, evAs, evParts, toAV, toAV0, toAVs, T.get_set, T.get_nil, Nat.reduceAdd, Nat.reduceMul, Nat.reduceEqDiff, Nat.zero_add, Nat.add_zero, Nat.mul_one, Nat.zero_mul, AV.cells, List.all_cons, List.all_nil, AV.scalar, Bool.and_true, Bool.true_and, ↓reduceIte, if_true, und_all, Tryd.underlying3, Tryd.underlying4, Tryd.underlying5, Tryd.underlying9, Tryd.underlying23, Tryd.underlying24, Tryd.underlying31, Tryd.underlying38, Tryd.underlying39, Tryd.underlying40, Tryd.underlying41, Tryd.underlying42, Tryd.underlying45, Tryd.underlying46, Tryd.underlying48, Tryd.underlying50, Tryd.underlying55, Tryd.underlying57, Tryd.underlying67, siz3, agg3, zer3, byt3, siz4, agg4, zer4, byt4, siz5, agg5, zer5, byt5, siz9, agg9, zer9, byt9, siz23, agg23, zer23, byt23, siz24, agg24, zer24, byt24, siz31, agg31, zer31, byt31, siz38, agg38, zer38, byt38, siz39, agg39, zer39, byt39, siz40, agg40, zer40, byt40, siz41, agg41, zer41, byt41, siz42, agg42, zer42, byt42, siz45, agg45, zer45, byt45, siz46, agg46, zer46, byt46, siz48, agg48, zer48, byt48, siz50, agg50, zer50, byt50, siz55, agg55, zer55, byt55, siz57, agg57, zer57, byt57, siz67, agg67, zer67, byt67, AHeap.get_alloc, AHeap.get_set, AHeap.next_alloc, AHeap.next_set, AHeap.loadCells, AHeap.load1, AHeap.storeCells, List.getElem?_cons_zero, List.getElem?_cons_succ, List.length_cons, List.length_nil, List.drop_zero, List.take_succ_cons, List.take_zero, List.drop_succ_cons, List.drop_nil, List.take_nil, List.append_nil, List.cons_append, List.nil_append, binA, isConstO, keyOk, ents_some, Bool.or_true, Bool.or_false, Bool.true_or, Bool.false_or, wantedA, dstOk, Option.bind_some, List.append_nil, Tryd.underlying27, decide_true, decide_false, beq_self_eq_true, bne_self_eq_false, Bool.not_true, Bool.not_false, Bool.false_eq_true, if_false, List.zipIdx_cons, reid, toAV, Int.toNat_natCast, Int.natCast_one, Int.natCast_zero, fn6] <;> rfl)

  refine WCall.prim pr6 rfl ?_
  dsimp only
  repeat (first
    | ((first | ((with_reducible apply wpOps_valT); exact rfl; exact rfl) | ((with_reducible apply wpOps_storeN); exact rfl; exact rfl) | ((with_reducible apply dw_pureT); exact rfl; exact rfl; exact rfl) | ((with_reducible apply dw_readT); exact rfl; exact rfl; exact rfl)); (simp only [List.getElem?_toArray, List.toList_toArray, bin_eql, bin_neq, bin_lss, bin_leq, bin_gtr, bin_geq, bin_add, bin_sub, bin_mul, un_not, unA, AHeap.get_bump, AHeap.next_bump, opK0, kMove, kPick, kAlloc, kBox, kBuild, kBuildSlice, kLoad, kStore, kNilCheck, kBinOp, kUnOp, kFieldAddr, kField, kIndexAddr, kIndex, kLookup, kMapUpdate, kMakeMap, kExtract, kSlice, kCall, lenA, evA, evAs, evParts, toAV, toAV0, toAVs, T.get_set, T.get_nil, Nat.reduceAdd, Nat.reduceMul, Nat.reduceEqDiff, Nat.zero_add, Nat.add_zero, Nat.mul_one, Nat.zero_mul, AV.cells, List.all_cons, List.all_nil, AV.scalar, Bool.and_true, Bool.true_and, ↓reduceIte, if_true, und_all, Tryd.underlying3, Tryd.underlying4, Tryd.underlying5, Tryd.underlying9, Tryd.underlying23, Tryd.underlying24, Tryd.underlying31, Tryd.underlying38, Tryd.underlying39, Tryd.underlying40, Tryd.underlying41, Tryd.underlying42, Tryd.underlying45, Tryd.underlying46, Tryd.underlying48, Tryd.underlying50, Tryd.underlying55, Tryd.underlying57, Tryd.underlying67, siz3, agg3, zer3, byt3, siz4, agg4, zer4, byt4, siz5, agg5, zer5, byt5, siz9, agg9, zer9, byt9, siz23, agg23, zer23, byt23, siz24, agg24, zer24, byt24, siz31, agg31, zer31, byt31, siz38, agg38, zer38, byt38, siz39, agg39, zer39, byt39, siz40, agg40, zer40, byt40, siz41, agg41, zer41, byt41, siz42, agg42, zer42, byt42, siz45, agg45, zer45, byt45, siz46, agg46, zer46, byt46, siz48, agg48, zer48, byt48, siz50, agg50, zer50, byt50, siz55, agg55, zer55, byt55, siz57, agg57, zer57, byt57, siz67, agg67, zer67, byt67, AHeap.get_alloc, AHeap.get_set, AHeap.next_alloc, AHeap.next_set, AHeap.loadCells, AHeap.load1, AHeap.storeCells, List.getElem?_cons_zero, List.getElem?_cons_succ, List.length_cons, List.length_nil, List.drop_zero, List.take_succ_cons, List.take_zero, List.drop_succ_cons, List.drop_nil, List.take_nil, List.append_nil, List.cons_append, List.nil_append, binA, isConstO, keyOk, ents_some, Bool.or_true, Bool.or_false, Bool.true_or, Bool.false_or, wantedA, dstOk, Option.bind_some, List.append_nil, Tryd.underlying27, decide_true, decide_false, beq_self_eq_true, bne_self_eq_false, Bool.not_true, Bool.not_false, Bool.false_eq_true, if_false, List.zipIdx_cons, reid, toAV, Int.toNat_natCast, Int.natCast_one, Int.natCast_zero] <;> rfl))
    | ((with_reducible apply wpOps_skipT); exact rfl; exact rfl)
    | ((with_reducible apply wpOps_skipN); exact rfl; exact rfl)
    | ((with_reducible apply dw_skipT); exact rfl; exact rfl)
    | (with_reducible apply aw_seq)
    | (with_reducible apply aw_regionL)
    | (with_reducible apply aw_block)
    | (with_reducible apply aw_scope)
    | (with_reducible apply aw_nil)
    | (with_reducible apply aw_then)
    | (with_reducible apply aw_thenR)
    | (with_reducible apply aw_thenE)
    | (with_reducible apply aw_blockR)
    | (with_reducible apply aw_blockN)
    | (with_reducible apply aw_blockE)
    | (with_reducible apply aw_ret)
    | (with_reducible apply aw_exit)
    | (with_reducible apply aw_skip)
    | ((with_reducible apply aw_condT); exact rfl)
    | ((with_reducible apply aw_condF); exact rfl)
    | ((with_reducible apply aw_drawL); (simp only [List.zipIdx_cons, List.zipIdx_nil, Nat.zero_add, Nat.reduceAdd] <;> rfl); kernel_rfl; kernel_rfl)
    | (with_reducible apply dw_nil)
    | fail)

  (with_reducible apply wpOps_callT); exact rfl; exact rfl; (simp only [List.getElem?_toArray, List.toList_toArray, bin_eql, bin_neq, bin_lss, bin_leq, bin_gtr, bin_geq, bin_add, bin_sub, bin_mul, un_not, unA, AHeap.get_bump, AHeap.next_bump, opK0, kMove, kPick, kAlloc, kBox, kBuild, kBuildSlice, kLoad, kStore, kNilCheck, kBinOp, kUnOp, kFieldAddr, kField, kIndexAddr, kIndex, kLookup, kMapUpdate, kMakeMap, kExtract, kSlice, kCall, lenA, evA, evAs, evParts, toAV, toAV0, toAVs, T.get_set, T.get_nil, Nat.reduceAdd, Nat.reduceMul, Nat.reduceEqDiff, Nat.zero_add, Nat.add_zero, Nat.mul_one, Nat.zero_mul, AV.cells, List.all_cons, List.all_nil, AV.scalar, Bool.and_true, Bool.true_and, ↓reduceIte, if_true, und_all, Tryd.underlying3, Tryd.underlying4, Tryd.underlying5, Tryd.underlying9, Tryd.underlying23, Tryd.underlying24, Tryd.underlying31, Tryd.underlying38, Tryd.underlying39, Tryd.underlying40, Tryd.underlying41, Tryd.underlying42, Tryd.underlying45, Tryd.underlying46, Tryd.underlying48, Tryd.underlying50, Tryd.underlying55, Tryd.underlying57, Tryd.underlying67, siz3, agg3, zer3, byt3, siz4, agg4, zer4, byt4, siz5, agg5, zer5, byt5, siz9, agg9, zer9, byt9, siz23, agg23, zer23, byt23, siz24, agg24, zer24, byt24, siz31, agg31, zer31, byt31, siz38, agg38, zer38, byt38, siz39, agg39, zer39, byt39, siz40, agg40, zer40, byt40, siz41, agg41, zer41, byt41, siz42, agg42, zer42, byt42, siz45, agg45, zer45, byt45, siz46, agg46, zer46, byt46, siz48, agg48, zer48, byt48, siz50, agg50, zer50, byt50, siz55, agg55, zer55, byt55, siz57, agg57, zer57, byt57, siz67, agg67, zer67, byt67, AHeap.get_alloc, AHeap.get_set, AHeap.next_alloc, AHeap.next_set, AHeap.loadCells, AHeap.load1, AHeap.storeCells, List.getElem?_cons_zero, List.getElem?_cons_succ, List.length_cons, List.length_nil, List.drop_zero, List.take_succ_cons, List.take_zero, List.drop_succ_cons, List.drop_nil, List.take_nil, List.append_nil, List.cons_append, List.nil_append, binA, isConstO, keyOk, ents_some, Bool.or_true, Bool.or_false, Bool.true_or, Bool.false_or, wantedA, dstOk, Option.bind_some, List.append_nil, Tryd.underlying27, decide_true, decide_false, beq_self_eq_true, bne_self_eq_false, Bool.not_true, Bool.not_false, Bool.false_eq_true, if_false, List.zipIdx_cons, reid, toAV, Int.toNat_natCast, Int.natCast_one, Int.natCast_zero] <;> rfl)

  refine (new_w h p l hA hF).mono fun out h2 hq => ?_
  obtain ⟨hout, k1⟩ := hq
  rcases hout with ⟨i, e, he, rfl⟩ | ⟨tb, nm, st, N, es, rfl, hTb, hN, hB⟩
  · have g0 : (e == 0) = false := by simpa using he
    dsimp only
    repeat (first
      | ((first | ((with_reducible apply wpOps_valT); exact rfl; exact rfl) | ((with_reducible apply wpOps_storeN); exact rfl; exact rfl) | ((with_reducible apply dw_pureT); exact rfl; exact rfl; exact rfl) | ((with_reducible apply dw_readT); exact rfl; exact rfl; exact rfl)); (simp only [List.getElem?_toArray, List.toList_toArray, bin_eql, bin_neq, bin_lss, bin_leq, bin_gtr, bin_geq, bin_add, bin_sub, bin_mul, un_not, unA, AHeap.get_bump, AHeap.next_bump, opK0, kMove, kPick, kAlloc, kBox, kBuild, kBuildSlice, kLoad, kStore, kNilCheck, kBinOp, kUnOp, kFieldAddr, kField, kIndexAddr, kIndex, kLookup, kMapUpdate, kMakeMap, kExtract, kSlice, kCall, lenA, evA, evAs, evParts, toAV, toAV0, toAVs, T.get_set, T.get_nil, Nat.reduceAdd, Nat.reduceMul, Nat.reduceEqDiff, Nat.zero_add, Nat.add_zero, Nat.mul_one, Nat.zero_mul, AV.cells, List.all_cons, List.all_nil, AV.scalar, Bool.and_true, Bool.true_and, ↓reduceIte, if_true, und_all, Tryd.underlying3, Tryd.underlying4, Tryd.underlying5, Tryd.underlying9, Tryd.underlying23, Tryd.underlying24, Tryd.underlying31, Tryd.underlying38, Tryd.underlying39, Tryd.underlying40, Tryd.underlying41, Tryd.underlying42, Tryd.underlying45, Tryd.underlying46, Tryd.underlying48, Tryd.underlying50, Tryd.underlying55, Tryd.underlying57, Tryd.underlying67, siz3, agg3, zer3, byt3, siz4, agg4, zer4, byt4, siz5, agg5, zer5, byt5, siz9, agg9, zer9, byt9, siz23, agg23, zer23, byt23, siz24, agg24, zer24, byt24, siz31, agg31, zer31, byt31, siz38, agg38, zer38, byt38, siz39, agg39, zer39, byt39, siz40, agg40, zer40, byt40, siz41, agg41, zer41, byt41, siz42, agg42, zer42, byt42, siz45, agg45, zer45, byt45, siz46, agg46, zer46, byt46, siz48, agg48, zer48, byt48, siz50, agg50, zer50, byt50, siz55, agg55, zer55, byt55, siz57, agg57, zer57, byt57, siz67, agg67, zer67, byt67, AHeap.get_alloc, AHeap.get_set, AHeap.next_alloc, AHeap.next_set, AHeap.loadCells, AHeap.load1, AHeap.storeCells, List.getElem?_cons_zero, List.getElem?_cons_succ, List.length_cons, List.length_nil, List.drop_zero, List.take_succ_cons, List.take_zero, List.drop_succ_cons, List.drop_nil, List.take_nil, List.append_nil, List.cons_append, List.nil_append, binA, isConstO, keyOk, ents_some, Bool.or_true, Bool.or_false, Bool.true_or, Bool.false_or, wantedA, dstOk, Option.bind_some, List.append_nil, Tryd.underlying27, decide_true, decide_false, beq_self_eq_true, bne_self_eq_false, Bool.not_true, Bool.not_false, Bool.false_eq_true, if_false, List.zipIdx_cons, reid, toAV, Int.toNat_natCast, Int.natCast_one, Int.natCast_zero, bne, g0] <;> rfl))
      | ((with_reducible apply wpOps_skipT); exact rfl; exact rfl)
      | ((with_reducible apply wpOps_skipN); exact rfl; exact rfl)
      | ((with_reducible apply dw_skipT); exact rfl; exact rfl)
      | (with_reducible apply aw_seq)
      | (with_reducible apply aw_regionL)
      | (with_reducible apply aw_block)
      | (with_reducible apply aw_scope)
      | (with_reducible apply aw_nil)
      | (with_reducible apply aw_then)
      | (with_reducible apply aw_thenR)
      | (with_reducible apply aw_thenE)
      | (with_reducible apply aw_blockR)
      | (with_reducible apply aw_blockN)
      | (with_reducible apply aw_blockE)
      | (with_reducible apply aw_ret)
      | (with_reducible apply aw_exit)
      | (with_reducible apply aw_skip)
      | ((with_reducible apply aw_condT); exact rfl)
      | ((with_reducible apply aw_condF); exact rfl)
      | ((with_reducible apply aw_drawL); (simp only [List.zipIdx_cons, List.zipIdx_nil, Nat.zero_add, Nat.reduceAdd] <;> rfl); kernel_rfl; kernel_rfl)
      | (with_reducible apply dw_nil)
      | fail)

    exact ⟨rfl, _, rfl, rfl, k1⟩
  dsimp only
  by_cases h50 : (50 : Int) < (l.length : Int)
  · have g0 : ((50 : Int) < (l.length : Int)) = True := eq_true h50
    repeat (first
      | ((first | ((with_reducible apply wpOps_valT); exact rfl; exact rfl) | ((with_reducible apply wpOps_storeN); exact rfl; exact rfl) | ((with_reducible apply dw_pureT); exact rfl; exact rfl; exact rfl) | ((with_reducible apply dw_readT); exact rfl; exact rfl; exact rfl)); (simp only [List.getElem?_toArray, List.toList_toArray, bin_eql, bin_neq, bin_lss, bin_leq, bin_gtr, bin_geq, bin_add, bin_sub, bin_mul, un_not, unA, AHeap.get_bump, AHeap.next_bump, opK0, kMove, kPick, kAlloc, kBox, kBuild, kBuildSlice, kLoad, kStore, kNilCheck, kBinOp, kUnOp, kFieldAddr, kField, kIndexAddr, kIndex, kLookup, kMapUpdate, kMakeMap, kExtract, kSlice, kCall, lenA, evA, evAs, evParts, toAV, toAV0, toAVs, T.get_set, T.get_nil, Nat.reduceAdd, Nat.reduceMul, Nat.reduceEqDiff, Nat.zero_add, Nat.add_zero, Nat.mul_one, Nat.zero_mul, AV.cells, List.all_cons, List.all_nil, AV.scalar, Bool.and_true, Bool.true_and, ↓reduceIte, if_true, und_all, Tryd.underlying3, Tryd.underlying4, Tryd.underlying5, Tryd.underlying9, Tryd.underlying23, Tryd.underlying24, Tryd.underlying31, Tryd.underlying38, Tryd.underlying39, Tryd.underlying40, Tryd.underlying41, Tryd.underlying42, Tryd.underlying45, Tryd.underlying46, Tryd.underlying48, Tryd.underlying50, Tryd.underlying55, Tryd.underlying57, Tryd.underlying67, siz3, agg3, zer3, byt3, siz4, agg4, zer4, byt4, siz5, agg5, zer5, byt5, siz9, agg9, zer9, byt9, siz23, agg23, zer23, byt23, siz24, agg24, zer24, byt24, siz31, agg31, zer31, byt31, siz38, agg38, zer38, byt38, siz39, agg39, zer39, byt39, siz40, agg40, zer40, byt40, siz41, agg41, zer41, byt41, siz42, agg42, zer42, byt42, siz45, agg45, zer45, byt45, siz46, agg46, zer46, byt46, siz48, agg48, zer48, byt48, siz50, agg50, zer50, byt50, siz55, agg55, zer55, byt55, siz57, agg57, zer57, byt57, siz67, agg67, zer67, byt67, AHeap.get_alloc, AHeap.get_set, AHeap.next_alloc, AHeap.next_set, AHeap.loadCells, AHeap.load1, AHeap.storeCells, List.getElem?_cons_zero, List.getElem?_cons_succ, List.length_cons, List.length_nil, List.drop_zero, List.take_succ_cons, List.take_zero, List.drop_succ_cons, List.drop_nil, List.take_nil, List.append_nil, List.cons_append, List.nil_append, binA, isConstO, keyOk, ents_some, Bool.or_true, Bool.or_false, Bool.true_or, Bool.false_or, wantedA, dstOk, Option.bind_some, List.append_nil, Tryd.underlying27, decide_true, decide_false, beq_self_eq_true, bne_self_eq_false, Bool.not_true, Bool.not_false, Bool.false_eq_true, if_false, List.zipIdx_cons, reid, toAV, Int.toNat_natCast, Int.natCast_one, Int.natCast_zero, g0] <;> rfl))
      | ((with_reducible apply wpOps_skipT); exact rfl; exact rfl)
      | ((with_reducible apply wpOps_skipN); exact rfl; exact rfl)
      | ((with_reducible apply dw_skipT); exact rfl; exact rfl)
      | (with_reducible apply aw_seq)
      | (with_reducible apply aw_regionL)
      | (with_reducible apply aw_block)
      | (with_reducible apply aw_scope)
      | (with_reducible apply aw_nil)
      | (with_reducible apply aw_then)
      | (with_reducible apply aw_thenR)
      | (with_reducible apply aw_thenE)
      | (with_reducible apply aw_blockR)
      | (with_reducible apply aw_blockN)
      | (with_reducible apply aw_blockE)
      | (with_reducible apply aw_ret)
      | (with_reducible apply aw_exit)
      | (with_reducible apply aw_skip)
      | ((with_reducible apply aw_condT); exact rfl)
      | ((with_reducible apply aw_condF); exact rfl)
      | ((with_reducible apply aw_drawL); (simp only [List.zipIdx_cons, List.zipIdx_nil, Nat.zero_add, Nat.reduceAdd] <;> rfl); kernel_rfl; kernel_rfl)
      | (with_reducible apply dw_nil)
      | fail)

    exact ⟨rfl, _, rfl, rfl, k1⟩
  have g0 : ((50 : Int) < (l.length : Int)) = False := eq_false h50
  repeat (first
    | ((first | ((with_reducible apply wpOps_valT); exact rfl; exact rfl) | ((with_reducible apply wpOps_storeN); exact rfl; exact rfl) | ((with_reducible apply dw_pureT); exact rfl; exact rfl; exact rfl) | ((with_reducible apply dw_readT); exact rfl; exact rfl; exact rfl)); (simp only [List.getElem?_toArray, List.toList_toArray, bin_eql, bin_neq, bin_lss, bin_leq, bin_gtr, bin_geq, bin_add, bin_sub, bin_mul, un_not, unA, AHeap.get_bump, AHeap.next_bump, opK0, kMove, kPick, kAlloc, kBox, kBuild, kBuildSlice, kLoad, kStore, kNilCheck, kBinOp, kUnOp, kFieldAddr, kField, kIndexAddr, kIndex, kLookup, kMapUpdate, kMakeMap, kExtract, kSlice, kCall, lenA, evA, evAs, evParts, toAV, toAV0, toAVs, T.get_set, T.get_nil, Nat.reduceAdd, Nat.reduceMul, Nat.reduceEqDiff, Nat.zero_add, Nat.add_zero, Nat.mul_one, Nat.zero_mul, AV.cells, List.all_cons, List.all_nil, AV.scalar, Bool.and_true, Bool.true_and, ↓reduceIte, if_true, und_all, Tryd.underlying3, Tryd.underlying4, Tryd.underlying5, Tryd.underlying9, Tryd.underlying23, Tryd.underlying24, Tryd.underlying31, Tryd.underlying38, Tryd.underlying39, Tryd.underlying40, Tryd.underlying41, Tryd.underlying42, Tryd.underlying45, Tryd.underlying46, Tryd.underlying48, Tryd.underlying50, Tryd.underlying55, Tryd.underlying57, Tryd.underlying67, siz3, agg3, zer3, byt3, siz4, agg4, zer4, byt4, siz5, agg5, zer5, byt5, siz9, agg9, zer9, byt9, siz23, agg23, zer23, byt23, siz24, agg24, zer24, byt24, siz31, agg31, zer31, byt31, siz38, agg38, zer38, byt38, siz39, agg39, zer39, byt39, siz40, agg40, zer40, byt40, siz41, agg41, zer41, byt41, siz42, agg42, zer42, byt42, siz45, agg45, zer45, byt45, siz46, agg46, zer46, byt46, siz48, agg48, zer48, byt48, siz50, agg50, zer50, byt50, siz55, agg55, zer55, byt55, siz57, agg57, zer57, byt57, siz67, agg67, zer67, byt67, AHeap.get_alloc, AHeap.get_set, AHeap.next_alloc, AHeap.next_set, AHeap.loadCells, AHeap.load1, AHeap.storeCells, List.getElem?_cons_zero, List.getElem?_cons_succ, List.length_cons, List.length_nil, List.drop_zero, List.take_succ_cons, List.take_zero, List.drop_succ_cons, List.drop_nil, List.take_nil, List.append_nil, List.cons_append, List.nil_append, binA, isConstO, keyOk, ents_some, Bool.or_true, Bool.or_false, Bool.true_or, Bool.false_or, wantedA, dstOk, Option.bind_some, List.append_nil, Tryd.underlying27, decide_true, decide_false, beq_self_eq_true, bne_self_eq_false, Bool.not_true, Bool.not_false, Bool.false_eq_true, if_false, List.zipIdx_cons, reid, toAV, Int.toNat_natCast, Int.natCast_one, Int.natCast_zero, g0] <;> rfl))
    | ((with_reducible apply wpOps_skipT); exact rfl; exact rfl)
    | ((with_reducible apply wpOps_skipN); exact rfl; exact rfl)
    | ((with_reducible apply dw_skipT); exact rfl; exact rfl)
    | (with_reducible apply aw_seq)
    | (with_reducible apply aw_regionL)
    | (with_reducible apply aw_block)
    | (with_reducible apply aw_scope)
    | (with_reducible apply aw_nil)
    | (with_reducible apply aw_then)
    | (with_reducible apply aw_thenR)
    | (with_reducible apply aw_thenE)
    | (with_reducible apply aw_blockR)
    | (with_reducible apply aw_blockN)
    | (with_reducible apply aw_blockE)
    | (with_reducible apply aw_ret)
    | (with_reducible apply aw_exit)
    | (with_reducible apply aw_skip)
    | ((with_reducible apply aw_condT); exact rfl)
    | ((with_reducible apply aw_condF); exact rfl)
    | ((with_reducible apply aw_drawL); (simp only [List.zipIdx_cons, List.zipIdx_nil, Nat.zero_add, Nat.reduceAdd] <;> rfl); kernel_rfl; kernel_rfl)
    | (with_reducible apply dw_nil)
    | fail)

  refine aw_loop (fun k x => ∃ i, i ≤ l.length ∧ k = l.length - i ∧ TpInv h p l tb nm st N es i x) l.length ?_ ?_
  · exact ⟨0, Nat.zero_le _, rfl, rfl, rfl, rfl, rfl, rfl, rfl, hTb, k1⟩
  have hok := hB.ok (fun s hs => (hN _).2 ⟨s, hs, rfl⟩)
  have hfits := hB.fits
  clear k1 hTb hB
  rintro k ⟨rg, n, H, dd, rnd⟩ ⟨i, hi, rfl, hn, hd, hr, r0, r3, r6, t, k1⟩
  dsimp only at hn hd hr r0 r3 r6 t k1
  subst hn hd hr
  by_cases hlt : i < l.length
  · have g1 : ((i : Int) < (l.length : Int)) = True := eq_true (by omega)
    have g2 : (0 ≤ (i : Int)) = True := eq_true (by omega)
    have hne : l ≠ [] := by rintro rfl; simp at hlt
    obtain ⟨X, rw_, es_, rfl, ha, la⟩ := hA.a hne
    have ha' := (k1.old X la).trans ha
    obtain ⟨s, hs⟩ : ∃ s, l[i]? = some s := ⟨l[i], List.getElem?_eq_getElem hlt⟩
    have hsm := List.mem_of_getElem? hs
    obtain ⟨g3, g4⟩ := flatS_get l i s hs
    obtain ⟨e, ef, ez, elen, ene, elo, ehi, eal, emd, enl, eg, ety, b, ec, eb1, eb2⟩ := hok s hsm
    have hgl := gn_len eg
    have g5 : (7 + s.name.length ≤ 4611686018427387904) = True := eq_true (by omega)
    have wi : IntKind.wrap .i64 ((i : Int) + 1) = ((i + 1 : Nat) : Int) := by
      rw [wr (by omega) (by omega)]; simp
    repeat (first
      | ((first | ((with_reducible apply wpOps_valT); (first | exact rfl | (apply wantedGT; exact rfl; exact rfl; exact rfl; (simp only [T.get_set, Nat.reduceEqDiff, ↓reduceIte, evA, r0, r3, r6] <;> rfl))); exact rfl) | ((with_reducible apply wpOps_storeN); (first | exact rfl | (apply wantedGT; exact rfl; exact rfl; exact rfl; (simp only [T.get_set, Nat.reduceEqDiff, ↓reduceIte, evA, r0, r3, r6] <;> rfl))); exact rfl) | ((with_reducible apply dw_pureT); (first | exact rfl | (apply wantedGT; exact rfl; exact rfl; exact rfl; (simp only [T.get_set, Nat.reduceEqDiff, ↓reduceIte, evA, r0, r3, r6] <;> rfl))); exact rfl; exact rfl) | ((with_reducible apply dw_readT); (first | exact rfl | (apply wantedGT; exact rfl; exact rfl; exact rfl; (simp only [T.get_set, Nat.reduceEqDiff, ↓reduceIte, evA, r0, r3, r6] <;> rfl))); exact rfl; exact rfl)); (simp only [List.getElem?_toArray, List.toList_toArray, bin_eql, bin_neq, bin_lss, bin_leq, bin_gtr, bin_geq, bin_add, bin_sub, bin_mul, un_not, unA, AHeap.get_bump, AHeap.next_bump, opK0, kMove, kPick, kAlloc, kBox, kBuild, kBuildSlice, kLoad, kStore, kNilCheck, kBinOp, kUnOp, kFieldAddr, kField, kIndexAddr, kIndex, kLookup, kMapUpdate, kMakeMap, kExtract, kSlice, kCall, lenA, evA, evAs, evParts, toAV, toAV0, toAVs, T.get_set, T.get_nil, Nat.reduceAdd, Nat.reduceMul, Nat.reduceEqDiff, Nat.zero_add, Nat.add_zero, Nat.mul_one, Nat.zero_mul, AV.cells, List.all_cons, List.all_nil, AV.scalar, Bool.and_true, Bool.true_and, ↓reduceIte, if_true, und_all, Tryd.underlying3, Tryd.underlying4, Tryd.underlying5, Tryd.underlying9, Tryd.underlying23, Tryd.underlying24, Tryd.underlying31, Tryd.underlying38, Tryd.underlying39, Tryd.underlying40, Tryd.underlying41, Tryd.underlying42, Tryd.underlying45, Tryd.underlying46, Tryd.underlying48, Tryd.underlying50, Tryd.underlying55, Tryd.underlying57, Tryd.underlying67, siz3, agg3, zer3, byt3, siz4, agg4, zer4, byt4, siz5, agg5, zer5, byt5, siz9, agg9, zer9, byt9, siz23, agg23, zer23, byt23, siz24, agg24, zer24, byt24, siz31, agg31, zer31, byt31, siz38, agg38, zer38, byt38, siz39, agg39, zer39, byt39, siz40, agg40, zer40, byt40, siz41, agg41, zer41, byt41, siz42, agg42, zer42, byt42, siz45, agg45, zer45, byt45, siz46, agg46, zer46, byt46, siz48, agg48, zer48, byt48, siz50, agg50, zer50, byt50, siz55, agg55, zer55, byt55, siz57, agg57, zer57, byt57, siz67, agg67, zer67, byt67, AHeap.get_alloc, AHeap.get_set, AHeap.next_alloc, AHeap.next_set, AHeap.loadCells, AHeap.load1, AHeap.storeCells, List.getElem?_cons_zero, List.getElem?_cons_succ, List.length_cons, List.length_nil, List.drop_zero, List.take_succ_cons, List.take_zero, List.drop_succ_cons, List.drop_nil, List.take_nil, List.append_nil, List.cons_append, List.nil_append, binA, isConstO, keyOk, ents_some, Bool.or_true, Bool.or_false, Bool.true_or, Bool.false_or, wantedA, dstOk, Option.bind_some, List.append_nil, Tryd.underlying27, decide_true, decide_false, beq_self_eq_true, bne_self_eq_false, Bool.not_true, Bool.not_false, Bool.false_eq_true, if_false, List.zipIdx_cons, reid, toAV, Int.toNat_natCast, Int.natCast_one, Int.natCast_zero, g1, g2, g3, g4, g5, ha', and_self, wi, r0, r3, r6] <;> rfl))
      | ((with_reducible apply wpOps_skipT); (first | exact rfl | (apply wantedGF; exact rfl; exact rfl; exact rfl; (simp only [T.get_set, Nat.reduceEqDiff, ↓reduceIte, evA, r0, r3, r6] <;> rfl)) | (apply wantedZ; exact rfl; exact rfl; exact rfl; (simp only [T.get_set, Nat.reduceEqDiff, ↓reduceIte, evA, r0, r3, r6] <;> rfl))); exact rfl)
      | ((with_reducible apply wpOps_skipN); (first | exact rfl | (apply wantedGF; exact rfl; exact rfl; exact rfl; (simp only [T.get_set, Nat.reduceEqDiff, ↓reduceIte, evA, r0, r3, r6] <;> rfl)) | (apply wantedZ; exact rfl; exact rfl; exact rfl; (simp only [T.get_set, Nat.reduceEqDiff, ↓reduceIte, evA, r0, r3, r6] <;> rfl))); exact rfl)
      | ((with_reducible apply dw_skipT); (first | exact rfl | (apply wantedGF; exact rfl; exact rfl; exact rfl; (simp only [T.get_set, Nat.reduceEqDiff, ↓reduceIte, evA, r0, r3, r6] <;> rfl)) | (apply wantedZ; exact rfl; exact rfl; exact rfl; (simp only [T.get_set, Nat.reduceEqDiff, ↓reduceIte, evA, r0, r3, r6] <;> rfl))); exact rfl)
      | (with_reducible apply aw_seq)
      | (with_reducible apply aw_regionL)
      | (with_reducible apply aw_block)
      | (with_reducible apply aw_scope)
      | (with_reducible apply aw_nil)
      | (with_reducible apply aw_then)
      | (with_reducible apply aw_thenR)
      | (with_reducible apply aw_thenE)
      | (with_reducible apply aw_blockR)
      | (with_reducible apply aw_blockN)
      | (with_reducible apply aw_blockE)
      | (with_reducible apply aw_ret)
      | (with_reducible apply aw_exit)
      | (with_reducible apply aw_skip)
      | ((with_reducible apply aw_condT); (first | exact rfl | (simp only [T.get_set, Nat.reduceEqDiff, ↓reduceIte, evA, r0, r3, r6] <;> rfl)))
      | ((with_reducible apply aw_condF); (first | exact rfl | (simp only [T.get_set, Nat.reduceEqDiff, ↓reduceIte, evA, r0, r3, r6] <;> rfl)))
      | ((with_reducible apply aw_drawL); (simp only [List.zipIdx_cons, List.zipIdx_nil, Nat.zero_add, Nat.reduceAdd] <;> rfl); kernel_rfl; kernel_rfl)
      | (with_reducible apply dw_nil)
      | fail)

    (with_reducible apply wpOps_callT); (first | exact rfl | (apply wantedGT; exact rfl; exact rfl; exact rfl; (simp only [T.get_set, Nat.reduceEqDiff, ↓reduceIte, evA, r0, r3, r6] <;> rfl))); exact rfl; (simp only [List.getElem?_toArray, List.toList_toArray, bin_eql, bin_neq, bin_lss, bin_leq, bin_gtr, bin_geq, bin_add, bin_sub, bin_mul, un_not, unA, AHeap.get_bump, AHeap.next_bump, opK0, kMove, kPick, kAlloc, kBox, kBuild, kBuildSlice, kLoad, kStore, kNilCheck, kBinOp, kUnOp, kFieldAddr, kField, kIndexAddr, kIndex, kLookup, kMapUpdate, kMakeMap, kExtract, kSlice, kCall, lenA, evA, evAs, evParts, toAV, toAV0, toAVs, T.get_set, T.get_nil, Nat.reduceAdd, Nat.reduceMul, Nat.reduceEqDiff, Nat.zero_add, Nat.add_zero, Nat.mul_one, Nat.zero_mul, AV.cells, List.all_cons, List.all_nil, AV.scalar, Bool.and_true, Bool.true_and, ↓reduceIte, if_true, und_all, Tryd.underlying3, Tryd.underlying4, Tryd.underlying5, Tryd.underlying9, Tryd.underlying23, Tryd.underlying24, Tryd.underlying31, Tryd.underlying38, Tryd.underlying39, Tryd.underlying40, Tryd.underlying41, Tryd.underlying42, Tryd.underlying45, Tryd.underlying46, Tryd.underlying48, Tryd.underlying50, Tryd.underlying55, Tryd.underlying57, Tryd.underlying67, siz3, agg3, zer3, byt3, siz4, agg4, zer4, byt4, siz5, agg5, zer5, byt5, siz9, agg9, zer9, byt9, siz23, agg23, zer23, byt23, siz24, agg24, zer24, byt24, siz31, agg31, zer31, byt31, siz38, agg38, zer38, byt38, siz39, agg39, zer39, byt39, siz40, agg40, zer40, byt40, siz41, agg41, zer41, byt41, siz42, agg42, zer42, byt42, siz45, agg45, zer45, byt45, siz46, agg46, zer46, byt46, siz48, agg48, zer48, byt48, siz50, agg50, zer50, byt50, siz55, agg55, zer55, byt55, siz57, agg57, zer57, byt57, siz67, agg67, zer67, byt67, AHeap.get_alloc, AHeap.get_set, AHeap.next_alloc, AHeap.next_set, AHeap.loadCells, AHeap.load1, AHeap.storeCells, List.getElem?_cons_zero, List.getElem?_cons_succ, List.length_cons, List.length_nil, List.drop_zero, List.take_succ_cons, List.take_zero, List.drop_succ_cons, List.drop_nil, List.take_nil, List.append_nil, List.cons_append, List.nil_append, binA, isConstO, keyOk, ents_some, Bool.or_true, Bool.or_false, Bool.true_or, Bool.false_or, wantedA, dstOk, Option.bind_some, List.append_nil, Tryd.underlying27, decide_true, decide_false, beq_self_eq_true, bne_self_eq_false, Bool.not_true, Bool.not_false, Bool.false_eq_true, if_false, List.zipIdx_cons, reid, toAV, Int.toNat_natCast, Int.natCast_one, Int.natCast_zero, g1, g2, g3, g4, g5, ha', and_self, wi, r0, r3, r6] <;> rfl)

    refine (size_w H tb nm st N es _ t (k1.fresh hF) hfits (by simp only [List.length_cons]; omega)).mono fun out h2 hq => ?_
    obtain ⟨rfl, k2⟩ := hq
    change szF N es (115 :: 116 :: 114 :: 117 :: 99 :: 116 :: 32 :: s.name) = _ at ez
    rw [ez]
    dsimp only [retM]
    replace ha' := (k2.old X (Nat.lt_of_lt_of_le la k1.next)).trans ha'
    replace t := t.keep k2
    replace k1 := k1.trans k2
    clear k2
    repeat (first
      | ((first | ((with_reducible apply wpOps_valT); (first | exact rfl | (apply wantedGT; exact rfl; exact rfl; exact rfl; (simp only [T.get_set, Nat.reduceEqDiff, ↓reduceIte, evA, r0, r3, r6] <;> rfl))); exact rfl) | ((with_reducible apply wpOps_storeN); (first | exact rfl | (apply wantedGT; exact rfl; exact rfl; exact rfl; (simp only [T.get_set, Nat.reduceEqDiff, ↓reduceIte, evA, r0, r3, r6] <;> rfl))); exact rfl) | ((with_reducible apply dw_pureT); (first | exact rfl | (apply wantedGT; exact rfl; exact rfl; exact rfl; (simp only [T.get_set, Nat.reduceEqDiff, ↓reduceIte, evA, r0, r3, r6] <;> rfl))); exact rfl; exact rfl) | ((with_reducible apply dw_readT); (first | exact rfl | (apply wantedGT; exact rfl; exact rfl; exact rfl; (simp only [T.get_set, Nat.reduceEqDiff, ↓reduceIte, evA, r0, r3, r6] <;> rfl))); exact rfl; exact rfl)); (simp only [List.getElem?_toArray, List.toList_toArray, bin_eql, bin_neq, bin_lss, bin_leq, bin_gtr, bin_geq, bin_add, bin_sub, bin_mul, un_not, unA, AHeap.get_bump, AHeap.next_bump, opK0, kMove, kPick, kAlloc, kBox, kBuild, kBuildSlice, kLoad, kStore, kNilCheck, kBinOp, kUnOp, kFieldAddr, kField, kIndexAddr, kIndex, kLookup, kMapUpdate, kMakeMap, kExtract, kSlice, kCall, lenA, evA, evAs, evParts, toAV, toAV0, toAVs, T.get_set, T.get_nil, Nat.reduceAdd, Nat.reduceMul, Nat.reduceEqDiff, Nat.zero_add, Nat.add_zero, Nat.mul_one, Nat.zero_mul, AV.cells, List.all_cons, List.all_nil, AV.scalar, Bool.and_true, Bool.true_and, ↓reduceIte, if_true, und_all, Tryd.underlying3, Tryd.underlying4, Tryd.underlying5, Tryd.underlying9, Tryd.underlying23, Tryd.underlying24, Tryd.underlying31, Tryd.underlying38, Tryd.underlying39, Tryd.underlying40, Tryd.underlying41, Tryd.underlying42, Tryd.underlying45, Tryd.underlying46, Tryd.underlying48, Tryd.underlying50, Tryd.underlying55, Tryd.underlying57, Tryd.underlying67, siz3, agg3, zer3, byt3, siz4, agg4, zer4, byt4, siz5, agg5, zer5, byt5, siz9, agg9, zer9, byt9, siz23, agg23, zer23, byt23, siz24, agg24, zer24, byt24, siz31, agg31, zer31, byt31, siz38, agg38, zer38, byt38, siz39, agg39, zer39, byt39, siz40, agg40, zer40, byt40, siz41, agg41, zer41, byt41, siz42, agg42, zer42, byt42, siz45, agg45, zer45, byt45, siz46, agg46, zer46, byt46, siz48, agg48, zer48, byt48, siz50, agg50, zer50, byt50, siz55, agg55, zer55, byt55, siz57, agg57, zer57, byt57, siz67, agg67, zer67, byt67, AHeap.get_alloc, AHeap.get_set, AHeap.next_alloc, AHeap.next_set, AHeap.loadCells, AHeap.load1, AHeap.storeCells, List.getElem?_cons_zero, List.getElem?_cons_succ, List.length_cons, List.length_nil, List.drop_zero, List.take_succ_cons, List.take_zero, List.drop_succ_cons, List.drop_nil, List.take_nil, List.append_nil, List.cons_append, List.nil_append, binA, isConstO, keyOk, ents_some, Bool.or_true, Bool.or_false, Bool.true_or, Bool.false_or, wantedA, dstOk, Option.bind_some, List.append_nil, Tryd.underlying27, decide_true, decide_false, beq_self_eq_true, bne_self_eq_false, Bool.not_true, Bool.not_false, Bool.false_eq_true, if_false, List.zipIdx_cons, reid, toAV, Int.toNat_natCast, Int.natCast_one, Int.natCast_zero, g1, g2, g3, g4, g5, ha', and_self, wi, r0, r3, r6] <;> rfl))
      | ((with_reducible apply wpOps_skipT); (first | exact rfl | (apply wantedGF; exact rfl; exact rfl; exact rfl; (simp only [T.get_set, Nat.reduceEqDiff, ↓reduceIte, evA, r0, r3, r6] <;> rfl)) | (apply wantedZ; exact rfl; exact rfl; exact rfl; (simp only [T.get_set, Nat.reduceEqDiff, ↓reduceIte, evA, r0, r3, r6] <;> rfl))); exact rfl)
      | ((with_reducible apply wpOps_skipN); (first | exact rfl | (apply wantedGF; exact rfl; exact rfl; exact rfl; (simp only [T.get_set, Nat.reduceEqDiff, ↓reduceIte, evA, r0, r3, r6] <;> rfl)) | (apply wantedZ; exact rfl; exact rfl; exact rfl; (simp only [T.get_set, Nat.reduceEqDiff, ↓reduceIte, evA, r0, r3, r6] <;> rfl))); exact rfl)
      | ((with_reducible apply dw_skipT); (first | exact rfl | (apply wantedGF; exact rfl; exact rfl; exact rfl; (simp only [T.get_set, Nat.reduceEqDiff, ↓reduceIte, evA, r0, r3, r6] <;> rfl)) | (apply wantedZ; exact rfl; exact rfl; exact rfl; (simp only [T.get_set, Nat.reduceEqDiff, ↓reduceIte, evA, r0, r3, r6] <;> rfl))); exact rfl)
      | (with_reducible apply aw_seq)
      | (with_reducible apply aw_regionL)
      | (with_reducible apply aw_block)
      | (with_reducible apply aw_scope)
      | (with_reducible apply aw_nil)
      | (with_reducible apply aw_then)
      | (with_reducible apply aw_thenR)
      | (with_reducible apply aw_thenE)
      | (with_reducible apply aw_blockR)
      | (with_reducible apply aw_blockN)
      | (with_reducible apply aw_blockE)
      | (with_reducible apply aw_ret)
      | (with_reducible apply aw_exit)
      | (with_reducible apply aw_skip)
      | ((with_reducible apply aw_condT); (first | exact rfl | (simp only [T.get_set, Nat.reduceEqDiff, ↓reduceIte, evA, r0, r3, r6] <;> rfl)))
      | ((with_reducible apply aw_condF); (first | exact rfl | (simp only [T.get_set, Nat.reduceEqDiff, ↓reduceIte, evA, r0, r3, r6] <;> rfl)))
      | ((with_reducible apply aw_drawL); (simp only [List.zipIdx_cons, List.zipIdx_nil, Nat.zero_add, Nat.reduceAdd] <;> rfl); kernel_rfl; kernel_rfl)
      | (with_reducible apply dw_nil)
      | fail)

    (with_reducible apply wpOps_callT); (first | exact rfl | (apply wantedGT; exact rfl; exact rfl; exact rfl; (simp only [T.get_set, Nat.reduceEqDiff, ↓reduceIte, evA, r0, r3, r6] <;> rfl))); exact rfl; (simp only [List.getElem?_toArray, List.toList_toArray, bin_eql, bin_neq, bin_lss, bin_leq, bin_gtr, bin_geq, bin_add, bin_sub, bin_mul, un_not, unA, AHeap.get_bump, AHeap.next_bump, opK0, kMove, kPick, kAlloc, kBox, kBuild, kBuildSlice, kLoad, kStore, kNilCheck, kBinOp, kUnOp, kFieldAddr, kField, kIndexAddr, kIndex, kLookup, kMapUpdate, kMakeMap, kExtract, kSlice, kCall, lenA, evA, evAs, evParts, toAV, toAV0, toAVs, T.get_set, T.get_nil, Nat.reduceAdd, Nat.reduceMul, Nat.reduceEqDiff, Nat.zero_add, Nat.add_zero, Nat.mul_one, Nat.zero_mul, AV.cells, List.all_cons, List.all_nil, AV.scalar, Bool.and_true, Bool.true_and, ↓reduceIte, if_true, und_all, Tryd.underlying3, Tryd.underlying4, Tryd.underlying5, Tryd.underlying9, Tryd.underlying23, Tryd.underlying24, Tryd.underlying31, Tryd.underlying38, Tryd.underlying39, Tryd.underlying40, Tryd.underlying41, Tryd.underlying42, Tryd.underlying45, Tryd.underlying46, Tryd.underlying48, Tryd.underlying50, Tryd.underlying55, Tryd.underlying57, Tryd.underlying67, siz3, agg3, zer3, byt3, siz4, agg4, zer4, byt4, siz5, agg5, zer5, byt5, siz9, agg9, zer9, byt9, siz23, agg23, zer23, byt23, siz24, agg24, zer24, byt24, siz31, agg31, zer31, byt31, siz38, agg38, zer38, byt38, siz39, agg39, zer39, byt39, siz40, agg40, zer40, byt40, siz41, agg41, zer41, byt41, siz42, agg42, zer42, byt42, siz45, agg45, zer45, byt45, siz46, agg46, zer46, byt46, siz48, agg48, zer48, byt48, siz50, agg50, zer50, byt50, siz55, agg55, zer55, byt55, siz57, agg57, zer57, byt57, siz67, agg67, zer67, byt67, AHeap.get_alloc, AHeap.get_set, AHeap.next_alloc, AHeap.next_set, AHeap.loadCells, AHeap.load1, AHeap.storeCells, List.getElem?_cons_zero, List.getElem?_cons_succ, List.length_cons, List.length_nil, List.drop_zero, List.take_succ_cons, List.take_zero, List.drop_succ_cons, List.drop_nil, List.take_nil, List.append_nil, List.cons_append, List.nil_append, binA, isConstO, keyOk, ents_some, Bool.or_true, Bool.or_false, Bool.true_or, Bool.false_or, wantedA, dstOk, Option.bind_some, List.append_nil, Tryd.underlying27, decide_true, decide_false, beq_self_eq_true, bne_self_eq_false, Bool.not_true, Bool.not_false, Bool.false_eq_true, if_false, List.zipIdx_cons, reid, toAV, Int.toNat_natCast, Int.natCast_one, Int.natCast_zero, g1, g2, g3, g4, g5, ha', and_self, wi, r0, r3, r6] <;> rfl)

    refine (layout_w h2 tb nm st N es s.name e t ef ene (by omega)).mono fun out h3 hq => ?_
    obtain ⟨o, rfl, c1, lo1, lo2, k2⟩ := hq
    dsimp only
    replace ha' := (k2.old X (Nat.lt_of_lt_of_le la k1.next)).trans ha'
    replace t := t.keep k2
    replace k1 := k1.trans k2
    clear k2 lo1
    have g6 : (e.ps.length : Int) = (s.fs.length : Int) := by rw [elen]
    have g7 : (e.align < 1) = False := eq_false (by omega)
    have nz : e.align ≠ 0 := by omega
    have g8 : Int.tmod e.size e.align = 0 := by rw [Int.tmod_eq_emod_of_nonneg (by omega)]; exact emd
    have g9 : (e.size < 1) = False := eq_false (by omega)
    have g10 : (65536 < e.size) = False := eq_false (by omega)
    repeat (first
      | ((first | ((with_reducible apply wpOps_valT); (first | exact rfl | (apply wantedGT; exact rfl; exact rfl; exact rfl; (simp only [T.get_set, Nat.reduceEqDiff, ↓reduceIte, evA, r0, r3, r6] <;> rfl))); exact rfl) | ((with_reducible apply wpOps_storeN); (first | exact rfl | (apply wantedGT; exact rfl; exact rfl; exact rfl; (simp only [T.get_set, Nat.reduceEqDiff, ↓reduceIte, evA, r0, r3, r6] <;> rfl))); exact rfl) | ((with_reducible apply dw_pureT); (first | exact rfl | (apply wantedGT; exact rfl; exact rfl; exact rfl; (simp only [T.get_set, Nat.reduceEqDiff, ↓reduceIte, evA, r0, r3, r6] <;> rfl))); exact rfl; exact rfl) | ((with_reducible apply dw_readT); (first | exact rfl | (apply wantedGT; exact rfl; exact rfl; exact rfl; (simp only [T.get_set, Nat.reduceEqDiff, ↓reduceIte, evA, r0, r3, r6] <;> rfl))); exact rfl; exact rfl)); (simp only [List.getElem?_toArray, List.toList_toArray, bin_eql, bin_neq, bin_lss, bin_leq, bin_gtr, bin_geq, bin_add, bin_sub, bin_mul, un_not, unA, AHeap.get_bump, AHeap.next_bump, opK0, kMove, kPick, kAlloc, kBox, kBuild, kBuildSlice, kLoad, kStore, kNilCheck, kBinOp, kUnOp, kFieldAddr, kField, kIndexAddr, kIndex, kLookup, kMapUpdate, kMakeMap, kExtract, kSlice, kCall, lenA, evA, evAs, evParts, toAV, toAV0, toAVs, T.get_set, T.get_nil, Nat.reduceAdd, Nat.reduceMul, Nat.reduceEqDiff, Nat.zero_add, Nat.add_zero, Nat.mul_one, Nat.zero_mul, AV.cells, List.all_cons, List.all_nil, AV.scalar, Bool.and_true, Bool.true_and, ↓reduceIte, if_true, und_all, Tryd.underlying3, Tryd.underlying4, Tryd.underlying5, Tryd.underlying9, Tryd.underlying23, Tryd.underlying24, Tryd.underlying31, Tryd.underlying38, Tryd.underlying39, Tryd.underlying40, Tryd.underlying41, Tryd.underlying42, Tryd.underlying45, Tryd.underlying46, Tryd.underlying48, Tryd.underlying50, Tryd.underlying55, Tryd.underlying57, Tryd.underlying67, siz3, agg3, zer3, byt3, siz4, agg4, zer4, byt4, siz5, agg5, zer5, byt5, siz9, agg9, zer9, byt9, siz23, agg23, zer23, byt23, siz24, agg24, zer24, byt24, siz31, agg31, zer31, byt31, siz38, agg38, zer38, byt38, siz39, agg39, zer39, byt39, siz40, agg40, zer40, byt40, siz41, agg41, zer41, byt41, siz42, agg42, zer42, byt42, siz45, agg45, zer45, byt45, siz46, agg46, zer46, byt46, siz48, agg48, zer48, byt48, siz50, agg50, zer50, byt50, siz55, agg55, zer55, byt55, siz57, agg57, zer57, byt57, siz67, agg67, zer67, byt67, AHeap.get_alloc, AHeap.get_set, AHeap.next_alloc, AHeap.next_set, AHeap.loadCells, AHeap.load1, AHeap.storeCells, List.getElem?_cons_zero, List.getElem?_cons_succ, List.length_cons, List.length_nil, List.drop_zero, List.take_succ_cons, List.take_zero, List.drop_succ_cons, List.drop_nil, List.take_nil, List.append_nil, List.cons_append, List.nil_append, binA, isConstO, keyOk, ents_some, Bool.or_true, Bool.or_false, Bool.true_or, Bool.false_or, wantedA, dstOk, Option.bind_some, List.append_nil, Tryd.underlying27, decide_true, decide_false, beq_self_eq_true, bne_self_eq_false, Bool.not_true, Bool.not_false, Bool.false_eq_true, if_false, List.zipIdx_cons, reid, toAV, Int.toNat_natCast, Int.natCast_one, Int.natCast_zero, g1, g2, g3, g4, g5, ha', and_self, wi, g6, g7, g8, g9, g10, bin_rem nz, r0, r3, r6] <;> rfl))
      | ((with_reducible apply wpOps_skipT); (first | exact rfl | (apply wantedGF; exact rfl; exact rfl; exact rfl; (simp only [T.get_set, Nat.reduceEqDiff, ↓reduceIte, evA, r0, r3, r6] <;> rfl)) | (apply wantedZ; exact rfl; exact rfl; exact rfl; (simp only [T.get_set, Nat.reduceEqDiff, ↓reduceIte, evA, r0, r3, r6] <;> rfl))); exact rfl)
      | ((with_reducible apply wpOps_skipN); (first | exact rfl | (apply wantedGF; exact rfl; exact rfl; exact rfl; (simp only [T.get_set, Nat.reduceEqDiff, ↓reduceIte, evA, r0, r3, r6] <;> rfl)) | (apply wantedZ; exact rfl; exact rfl; exact rfl; (simp only [T.get_set, Nat.reduceEqDiff, ↓reduceIte, evA, r0, r3, r6] <;> rfl))); exact rfl)
      | ((with_reducible apply dw_skipT); (first | exact rfl | (apply wantedGF; exact rfl; exact rfl; exact rfl; (simp only [T.get_set, Nat.reduceEqDiff, ↓reduceIte, evA, r0, r3, r6] <;> rfl)) | (apply wantedZ; exact rfl; exact rfl; exact rfl; (simp only [T.get_set, Nat.reduceEqDiff, ↓reduceIte, evA, r0, r3, r6] <;> rfl))); exact rfl)
      | (with_reducible apply aw_seq)
      | (with_reducible apply aw_regionL)
      | (with_reducible apply aw_block)
      | (with_reducible apply aw_scope)
      | (with_reducible apply aw_nil)
      | (with_reducible apply aw_then)
      | (with_reducible apply aw_thenR)
      | (with_reducible apply aw_thenE)
      | (with_reducible apply aw_blockR)
      | (with_reducible apply aw_blockN)
      | (with_reducible apply aw_blockE)
      | (with_reducible apply aw_ret)
      | (with_reducible apply aw_exit)
      | (with_reducible apply aw_skip)
      | ((with_reducible apply aw_condT); (first | exact rfl | (simp only [T.get_set, Nat.reduceEqDiff, ↓reduceIte, evA, r0, r3, r6] <;> rfl)))
      | ((with_reducible apply aw_condF); (first | exact rfl | (simp only [T.get_set, Nat.reduceEqDiff, ↓reduceIte, evA, r0, r3, r6] <;> rfl)))
      | ((with_reducible apply aw_drawL); (simp only [List.zipIdx_cons, List.zipIdx_nil, Nat.zero_add, Nat.reduceAdd] <;> rfl); kernel_rfl; kernel_rfl)
      | (with_reducible apply dw_nil)
      | fail)

    refine aw_loop (fun k x => ∃ j a, j ≤ e.ps.length ∧ k = e.ps.length - j ∧ 0 ≤ a ∧ ChOk N es e.align (e.ps.drop j) a b ∧ TpInv2 h (some (X, 0)) l tb nm st N es i e o j a x) e.ps.length ?_ ?_
    · exact ⟨0, 0, Nat.zero_le _, rfl, Int.le_refl _, ec, rfl, rfl, rfl, by (first | exact rfl | (simp only [T.get_set, Nat.reduceEqDiff, ↓reduceIte, evA, r0, r3, r6] <;> rfl)), by (first | exact rfl | (simp only [T.get_set, Nat.reduceEqDiff, ↓reduceIte, evA, r0, r3, r6] <;> rfl)), by (first | exact rfl | (simp only [T.get_set, Nat.reduceEqDiff, ↓reduceIte, evA, r0, r3, r6] <;> rfl)), by (first | exact rfl | (simp only [T.get_set, Nat.reduceEqDiff, ↓reduceIte, evA, r0, r3, r6] <;> rfl)), by (first | exact rfl | (simp only [T.get_set, Nat.reduceEqDiff, ↓reduceIte, evA, r0, r3, r6] <;> rfl)), by (first | exact rfl | (simp only [T.get_set, Nat.reduceEqDiff, ↓reduceIte, evA, r0, r3, r6] <;> rfl)), by (first | exact rfl | (simp only [T.get_set, Nat.reduceEqDiff, ↓reduceIte, evA, r0, r3, r6] <;> rfl)), by (first | exact rfl | (simp only [T.get_set, Nat.reduceEqDiff, ↓reduceIte, evA, r0, r3, r6] <;> rfl)), t, k1, c1, lo2⟩
    clear t k1 c1 lo2 ha' ec r0 r3 r6 rg H h2 h3
    rintro k ⟨rg, n, H, dd, rnd⟩ ⟨j, a, hj, rfl, ha0, hc, hn, hd, hr, r0, r3, r6, r7, r8, r10, r12, r13, t, k1, c1, lo⟩
    dsimp only at hn hd hr r0 r3 r6 r7 r8 r10 r12 r13 t k1 c1 lo
    subst hn hd hr
    have hab := hc.le
    by_cases hjt : j < e.ps.length
    · have d1 : ((j : Int) < (e.ps.length : Int)) = True := eq_true (by omega)
      have d2 : (0 ≤ (j : Int)) = True := eq_true (by omega)
      obtain ⟨p, hp⟩ : ∃ p, e.ps[j]? = some p := ⟨e.ps[j], List.getElem?_eq_getElem hjt⟩
      have hpm := List.mem_of_getElem? hp
      obtain ⟨d3, d4⟩ := flat_get e.ps j p hp
      have hdr : e.ps.drop j = p :: e.ps.drop (j + 1) := by rw [List.drop_eq_getElem_cons hjt]; rw [List.getElem?_eq_getElem hjt] at hp; injection hp with hp; rw [hp]
      rw [hdr] at hc
      obtain ⟨sz, al, z1, z2, z3, z4, z5, z6, z7, z8, hc⟩ := hc
      have hcb := hc.le
      obtain ⟨f, hf, hft⟩ := ety p hpm
      have hln := ((hA.len s hsm).2.2 f hf).2
      rw [← hft] at hln
      have wj : IntKind.wrap .i64 ((j : Int) + 1) = ((j + 1 : Nat) : Int) := by
        rw [wr (by omega) (by omega)]; simp
      repeat (first
        | ((first | ((with_reducible apply wpOps_valT); (first | exact rfl | (apply wantedGT; exact rfl; exact rfl; exact rfl; (simp only [T.get_set, Nat.reduceEqDiff, ↓reduceIte, evA, r0, r3, r6, r7, r8, r10, r12, r13] <;> rfl))); exact rfl) | ((with_reducible apply wpOps_storeN); (first | exact rfl | (apply wantedGT; exact rfl; exact rfl; exact rfl; (simp only [T.get_set, Nat.reduceEqDiff, ↓reduceIte, evA, r0, r3, r6, r7, r8, r10, r12, r13] <;> rfl))); exact rfl) | ((with_reducible apply dw_pureT); (first | exact rfl | (apply wantedGT; exact rfl; exact rfl; exact rfl; (simp only [T.get_set, Nat.reduceEqDiff, ↓reduceIte, evA, r0, r3, r6, r7, r8, r10, r12, r13] <;> rfl))); exact rfl; exact rfl) | ((with_reducible apply dw_readT); (first | exact rfl | (apply wantedGT; exact rfl; exact rfl; exact rfl; (simp only [T.get_set, Nat.reduceEqDiff, ↓reduceIte, evA, r0, r3, r6, r7, r8, r10, r12, r13] <;> rfl))); exact rfl; exact rfl)); (simp only [List.getElem?_toArray, List.toList_toArray, bin_eql, bin_neq, bin_lss, bin_leq, bin_gtr, bin_geq, bin_add, bin_sub, bin_mul, un_not, unA, AHeap.get_bump, AHeap.next_bump, opK0, kMove, kPick, kAlloc, kBox, kBuild, kBuildSlice, kLoad, kStore, kNilCheck, kBinOp, kUnOp, kFieldAddr, kField, kIndexAddr, kIndex, kLookup, kMapUpdate, kMakeMap, kExtract, kSlice, kCall, lenA, evA, evAs, evParts, toAV, toAV0, toAVs, T.get_set, T.get_nil, Nat.reduceAdd, Nat.reduceMul, Nat.reduceEqDiff, Nat.zero_add, Nat.add_zero, Nat.mul_one, Nat.zero_mul, AV.cells, List.all_cons, List.all_nil, AV.scalar, Bool.and_true, Bool.true_and, ↓reduceIte, if_true, und_all, Tryd.underlying3, Tryd.underlying4, Tryd.underlying5, Tryd.underlying9, Tryd.underlying23, Tryd.underlying24, Tryd.underlying31, Tryd.underlying38, Tryd.underlying39, Tryd.underlying40, Tryd.underlying41, Tryd.underlying42, Tryd.underlying45, Tryd.underlying46, Tryd.underlying48, Tryd.underlying50, Tryd.underlying55, Tryd.underlying57, Tryd.underlying67, siz3, agg3, zer3, byt3, siz4, agg4, zer4, byt4, siz5, agg5, zer5, byt5, siz9, agg9, zer9, byt9, siz23, agg23, zer23, byt23, siz24, agg24, zer24, byt24, siz31, agg31, zer31, byt31, siz38, agg38, zer38, byt38, siz39, agg39, zer39, byt39, siz40, agg40, zer40, byt40, siz41, agg41, zer41, byt41, siz42, agg42, zer42, byt42, siz45, agg45, zer45, byt45, siz46, agg46, zer46, byt46, siz48, agg48, zer48, byt48, siz50, agg50, zer50, byt50, siz55, agg55, zer55, byt55, siz57, agg57, zer57, byt57, siz67, agg67, zer67, byt67, AHeap.get_alloc, AHeap.get_set, AHeap.next_alloc, AHeap.next_set, AHeap.loadCells, AHeap.load1, AHeap.storeCells, List.getElem?_cons_zero, List.getElem?_cons_succ, List.length_cons, List.length_nil, List.drop_zero, List.take_succ_cons, List.take_zero, List.drop_succ_cons, List.drop_nil, List.take_nil, List.append_nil, List.cons_append, List.nil_append, binA, isConstO, keyOk, ents_some, Bool.or_true, Bool.or_false, Bool.true_or, Bool.false_or, wantedA, dstOk, Option.bind_some, List.append_nil, Tryd.underlying27, decide_true, decide_false, beq_self_eq_true, bne_self_eq_false, Bool.not_true, Bool.not_false, Bool.false_eq_true, if_false, List.zipIdx_cons, reid, toAV, Int.toNat_natCast, Int.natCast_one, Int.natCast_zero, d1, d2, d3, d4, wj, c1, and_self, r0, r3, r6, r7, r8, r10, r12, r13] <;> rfl))
        | ((with_reducible apply wpOps_skipT); (first | exact rfl | (apply wantedGF; exact rfl; exact rfl; exact rfl; (simp only [T.get_set, Nat.reduceEqDiff, ↓reduceIte, evA, r0, r3, r6, r7, r8, r10, r12, r13] <;> rfl)) | (apply wantedZ; exact rfl; exact rfl; exact rfl; (simp only [T.get_set, Nat.reduceEqDiff, ↓reduceIte, evA, r0, r3, r6, r7, r8, r10, r12, r13] <;> rfl))); exact rfl)
        | ((with_reducible apply wpOps_skipN); (first | exact rfl | (apply wantedGF; exact rfl; exact rfl; exact rfl; (simp only [T.get_set, Nat.reduceEqDiff, ↓reduceIte, evA, r0, r3, r6, r7, r8, r10, r12, r13] <;> rfl)) | (apply wantedZ; exact rfl; exact rfl; exact rfl; (simp only [T.get_set, Nat.reduceEqDiff, ↓reduceIte, evA, r0, r3, r6, r7, r8, r10, r12, r13] <;> rfl))); exact rfl)
        | ((with_reducible apply dw_skipT); (first | exact rfl | (apply wantedGF; exact rfl; exact rfl; exact rfl; (simp only [T.get_set, Nat.reduceEqDiff, ↓reduceIte, evA, r0, r3, r6, r7, r8, r10, r12, r13] <;> rfl)) | (apply wantedZ; exact rfl; exact rfl; exact rfl; (simp only [T.get_set, Nat.reduceEqDiff, ↓reduceIte, evA, r0, r3, r6, r7, r8, r10, r12, r13] <;> rfl))); exact rfl)
        | (with_reducible apply aw_seq)
        | (with_reducible apply aw_regionL)
        | (with_reducible apply aw_block)
        | (with_reducible apply aw_scope)
        | (with_reducible apply aw_nil)
        | (with_reducible apply aw_then)
        | (with_reducible apply aw_thenR)
        | (with_reducible apply aw_thenE)
        | (with_reducible apply aw_blockR)
        | (with_reducible apply aw_blockN)
        | (with_reducible apply aw_blockE)
        | (with_reducible apply aw_ret)
        | (with_reducible apply aw_exit)
        | (with_reducible apply aw_skip)
        | ((with_reducible apply aw_condT); (first | exact rfl | (simp only [T.get_set, Nat.reduceEqDiff, ↓reduceIte, evA, r0, r3, r6, r7, r8, r10, r12, r13] <;> rfl)))
        | ((with_reducible apply aw_condF); (first | exact rfl | (simp only [T.get_set, Nat.reduceEqDiff, ↓reduceIte, evA, r0, r3, r6, r7, r8, r10, r12, r13] <;> rfl)))
        | ((with_reducible apply aw_drawL); (simp only [List.zipIdx_cons, List.zipIdx_nil, Nat.zero_add, Nat.reduceAdd] <;> rfl); kernel_rfl; kernel_rfl)
        | (with_reducible apply dw_nil)
        | fail)

      (with_reducible apply wpOps_callT); (first | exact rfl | (apply wantedGT; exact rfl; exact rfl; exact rfl; (simp only [T.get_set, Nat.reduceEqDiff, ↓reduceIte, evA, r0, r3, r6, r7, r8, r10, r12, r13] <;> rfl))); exact rfl; (simp only [List.getElem?_toArray, List.toList_toArray, bin_eql, bin_neq, bin_lss, bin_leq, bin_gtr, bin_geq, bin_add, bin_sub, bin_mul, un_not, unA, AHeap.get_bump, AHeap.next_bump, opK0, kMove, kPick, kAlloc, kBox, kBuild, kBuildSlice, kLoad, kStore, kNilCheck, kBinOp, kUnOp, kFieldAddr, kField, kIndexAddr, kIndex, kLookup, kMapUpdate, kMakeMap, kExtract, kSlice, kCall, lenA, evA, evAs, evParts, toAV, toAV0, toAVs, T.get_set, T.get_nil, Nat.reduceAdd, Nat.reduceMul, Nat.reduceEqDiff, Nat.zero_add, Nat.add_zero, Nat.mul_one, Nat.zero_mul, AV.cells, List.all_cons, List.all_nil, AV.scalar, Bool.and_true, Bool.true_and, ↓reduceIte, if_true, und_all, Tryd.underlying3, Tryd.underlying4, Tryd.underlying5, Tryd.underlying9, Tryd.underlying23, Tryd.underlying24, Tryd.underlying31, Tryd.underlying38, Tryd.underlying39, Tryd.underlying40, Tryd.underlying41, Tryd.underlying42, Tryd.underlying45, Tryd.underlying46, Tryd.underlying48, Tryd.underlying50, Tryd.underlying55, Tryd.underlying57, Tryd.underlying67, siz3, agg3, zer3, byt3, siz4, agg4, zer4, byt4, siz5, agg5, zer5, byt5, siz9, agg9, zer9, byt9, siz23, agg23, zer23, byt23, siz24, agg24, zer24, byt24, siz31, agg31, zer31, byt31, siz38, agg38, zer38, byt38, siz39, agg39, zer39, byt39, siz40, agg40, zer40, byt40, siz41, agg41, zer41, byt41, siz42, agg42, zer42, byt42, siz45, agg45, zer45, byt45, siz46, agg46, zer46, byt46, siz48, agg48, zer48, byt48, siz50, agg50, zer50, byt50, siz55, agg55, zer55, byt55, siz57, agg57, zer57, byt57, siz67, agg67, zer67, byt67, AHeap.get_alloc, AHeap.get_set, AHeap.next_alloc, AHeap.next_set, AHeap.loadCells, AHeap.load1, AHeap.storeCells, List.getElem?_cons_zero, List.getElem?_cons_succ, List.length_cons, List.length_nil, List.drop_zero, List.take_succ_cons, List.take_zero, List.drop_succ_cons, List.drop_nil, List.take_nil, List.append_nil, List.cons_append, List.nil_append, binA, isConstO, keyOk, ents_some, Bool.or_true, Bool.or_false, Bool.true_or, Bool.false_or, wantedA, dstOk, Option.bind_some, List.append_nil, Tryd.underlying27, decide_true, decide_false, beq_self_eq_true, bne_self_eq_false, Bool.not_true, Bool.not_false, Bool.false_eq_true, if_false, List.zipIdx_cons, reid, toAV, Int.toNat_natCast, Int.natCast_one, Int.natCast_zero, d1, d2, d3, d4, wj, c1, and_self, r0, r3, r6, r7, r8, r10, r12, r13] <;> rfl)

      refine (size_w H tb nm st N es _ t (k1.fresh hF) hfits hln).mono fun out h2 hq => ?_
      obtain ⟨rfl, k2⟩ := hq
      rw [z1]
      dsimp only [retM]
      replace c1 := (k2.old o lo).trans c1
      replace lo := Nat.lt_of_lt_of_le lo k2.next
      replace t := t.keep k2
      replace k1 := k1.trans k2
      clear k2
      have nz2 : al ≠ 0 := by omega
      have y1 : (p.off < a) = False := eq_false (by omega)
      have y2 : Int.tmod p.off al = 0 := by rw [Int.tmod_eq_emod_of_nonneg (by omega)]; exact z7
      have y3 : IntKind.wrap .i64 (p.off - a) = p.off - a := wr (by omega) (by omega)
      have y4 : (al ≤ p.off - a) = False := eq_false (by omega)
      have y5 : Int.tmod e.align al = 0 := by rw [Int.tmod_eq_emod_of_nonneg (by omega)]; exact z8
      have y6 : IntKind.wrap .i64 (p.off + sz) = p.off + sz := wr (by omega) (by omega)
      repeat (first
        | ((first | ((with_reducible apply wpOps_valT); (first | exact rfl | (apply wantedGT; exact rfl; exact rfl; exact rfl; (simp only [T.get_set, Nat.reduceEqDiff, ↓reduceIte, evA, r0, r3, r6, r7, r8, r10, r12, r13] <;> rfl))); exact rfl) | ((with_reducible apply wpOps_storeN); (first | exact rfl | (apply wantedGT; exact rfl; exact rfl; exact rfl; (simp only [T.get_set, Nat.reduceEqDiff, ↓reduceIte, evA, r0, r3, r6, r7, r8, r10, r12, r13] <;> rfl))); exact rfl) | ((with_reducible apply dw_pureT); (first | exact rfl | (apply wantedGT; exact rfl; exact rfl; exact rfl; (simp only [T.get_set, Nat.reduceEqDiff, ↓reduceIte, evA, r0, r3, r6, r7, r8, r10, r12, r13] <;> rfl))); exact rfl; exact rfl) | ((with_reducible apply dw_readT); (first | exact rfl | (apply wantedGT; exact rfl; exact rfl; exact rfl; (simp only [T.get_set, Nat.reduceEqDiff, ↓reduceIte, evA, r0, r3, r6, r7, r8, r10, r12, r13] <;> rfl))); exact rfl; exact rfl)); (simp only [List.getElem?_toArray, List.toList_toArray, bin_eql, bin_neq, bin_lss, bin_leq, bin_gtr, bin_geq, bin_add, bin_sub, bin_mul, un_not, unA, AHeap.get_bump, AHeap.next_bump, opK0, kMove, kPick, kAlloc, kBox, kBuild, kBuildSlice, kLoad, kStore, kNilCheck, kBinOp, kUnOp, kFieldAddr, kField, kIndexAddr, kIndex, kLookup, kMapUpdate, kMakeMap, kExtract, kSlice, kCall, lenA, evA, evAs, evParts, toAV, toAV0, toAVs, T.get_set, T.get_nil, Nat.reduceAdd, Nat.reduceMul, Nat.reduceEqDiff, Nat.zero_add, Nat.add_zero, Nat.mul_one, Nat.zero_mul, AV.cells, List.all_cons, List.all_nil, AV.scalar, Bool.and_true, Bool.true_and, ↓reduceIte, if_true, und_all, Tryd.underlying3, Tryd.underlying4, Tryd.underlying5, Tryd.underlying9, Tryd.underlying23, Tryd.underlying24, Tryd.underlying31, Tryd.underlying38, Tryd.underlying39, Tryd.underlying40, Tryd.underlying41, Tryd.underlying42, Tryd.underlying45, Tryd.underlying46, Tryd.underlying48, Tryd.underlying50, Tryd.underlying55, Tryd.underlying57, Tryd.underlying67, siz3, agg3, zer3, byt3, siz4, agg4, zer4, byt4, siz5, agg5, zer5, byt5, siz9, agg9, zer9, byt9, siz23, agg23, zer23, byt23, siz24, agg24, zer24, byt24, siz31, agg31, zer31, byt31, siz38, agg38, zer38, byt38, siz39, agg39, zer39, byt39, siz40, agg40, zer40, byt40, siz41, agg41, zer41, byt41, siz42, agg42, zer42, byt42, siz45, agg45, zer45, byt45, siz46, agg46, zer46, byt46, siz48, agg48, zer48, byt48, siz50, agg50, zer50, byt50, siz55, agg55, zer55, byt55, siz57, agg57, zer57, byt57, siz67, agg67, zer67, byt67, AHeap.get_alloc, AHeap.get_set, AHeap.next_alloc, AHeap.next_set, AHeap.loadCells, AHeap.load1, AHeap.storeCells, List.getElem?_cons_zero, List.getElem?_cons_succ, List.length_cons, List.length_nil, List.drop_zero, List.take_succ_cons, List.take_zero, List.drop_succ_cons, List.drop_nil, List.take_nil, List.append_nil, List.cons_append, List.nil_append, binA, isConstO, keyOk, ents_some, Bool.or_true, Bool.or_false, Bool.true_or, Bool.false_or, wantedA, dstOk, Option.bind_some, List.append_nil, Tryd.underlying27, decide_true, decide_false, beq_self_eq_true, bne_self_eq_false, Bool.not_true, Bool.not_false, Bool.false_eq_true, if_false, List.zipIdx_cons, reid, toAV, Int.toNat_natCast, Int.natCast_one, Int.natCast_zero, d1, d2, d3, d4, wj, c1, and_self, y1, y2, y3, y4, y5, y6, bin_rem nz2, r0, r3, r6, r7, r8, r10, r12, r13] <;> rfl))
        | ((with_reducible apply wpOps_skipT); (first | exact rfl | (apply wantedGF; exact rfl; exact rfl; exact rfl; (simp only [T.get_set, Nat.reduceEqDiff, ↓reduceIte, evA, r0, r3, r6, r7, r8, r10, r12, r13] <;> rfl)) | (apply wantedZ; exact rfl; exact rfl; exact rfl; (simp only [T.get_set, Nat.reduceEqDiff, ↓reduceIte, evA, r0, r3, r6, r7, r8, r10, r12, r13] <;> rfl))); exact rfl)
        | ((with_reducible apply wpOps_skipN); (first | exact rfl | (apply wantedGF; exact rfl; exact rfl; exact rfl; (simp only [T.get_set, Nat.reduceEqDiff, ↓reduceIte, evA, r0, r3, r6, r7, r8, r10, r12, r13] <;> rfl)) | (apply wantedZ; exact rfl; exact rfl; exact rfl; (simp only [T.get_set, Nat.reduceEqDiff, ↓reduceIte, evA, r0, r3, r6, r7, r8, r10, r12, r13] <;> rfl))); exact rfl)
        | ((with_reducible apply dw_skipT); (first | exact rfl | (apply wantedGF; exact rfl; exact rfl; exact rfl; (simp only [T.get_set, Nat.reduceEqDiff, ↓reduceIte, evA, r0, r3, r6, r7, r8, r10, r12, r13] <;> rfl)) | (apply wantedZ; exact rfl; exact rfl; exact rfl; (simp only [T.get_set, Nat.reduceEqDiff, ↓reduceIte, evA, r0, r3, r6, r7, r8, r10, r12, r13] <;> rfl))); exact rfl)
        | (with_reducible apply aw_seq)
        | (with_reducible apply aw_regionL)
        | (with_reducible apply aw_block)
        | (with_reducible apply aw_scope)
        | (with_reducible apply aw_nil)
        | (with_reducible apply aw_then)
        | (with_reducible apply aw_thenR)
        | (with_reducible apply aw_thenE)
        | (with_reducible apply aw_blockR)
        | (with_reducible apply aw_blockN)
        | (with_reducible apply aw_blockE)
        | (with_reducible apply aw_ret)
        | (with_reducible apply aw_exit)
        | (with_reducible apply aw_skip)
        | ((with_reducible apply aw_condT); (first | exact rfl | (simp only [T.get_set, Nat.reduceEqDiff, ↓reduceIte, evA, r0, r3, r6, r7, r8, r10, r12, r13] <;> rfl)))
        | ((with_reducible apply aw_condF); (first | exact rfl | (simp only [T.get_set, Nat.reduceEqDiff, ↓reduceIte, evA, r0, r3, r6, r7, r8, r10, r12, r13] <;> rfl)))
        | ((with_reducible apply aw_drawL); (simp only [List.zipIdx_cons, List.zipIdx_nil, Nat.zero_add, Nat.reduceAdd] <;> rfl); kernel_rfl; kernel_rfl)
        | (with_reducible apply dw_nil)
        | fail)

      exact ⟨e.ps.length - (j + 1), by omega, j + 1, p.off + sz, hjt, rfl, by omega, hc, rfl, rfl, rfl, by (first | exact rfl | (simp only [T.get_set, Nat.reduceEqDiff, ↓reduceIte, evA, r0, r3, r6, r7, r8, r10, r12, r13] <;> rfl)), by (first | exact rfl | (simp only [T.get_set, Nat.reduceEqDiff, ↓reduceIte, evA, r0, r3, r6, r7, r8, r10, r12, r13] <;> rfl)), by (first | exact rfl | (simp only [T.get_set, Nat.reduceEqDiff, ↓reduceIte, evA, r0, r3, r6, r7, r8, r10, r12, r13] <;> rfl)), by (first | exact rfl | (simp only [T.get_set, Nat.reduceEqDiff, ↓reduceIte, evA, r0, r3, r6, r7, r8, r10, r12, r13] <;> rfl)), by (first | exact rfl | (simp only [T.get_set, Nat.reduceEqDiff, ↓reduceIte, evA, r0, r3, r6, r7, r8, r10, r12, r13] <;> rfl)), by (first | exact rfl | (simp only [T.get_set, Nat.reduceEqDiff, ↓reduceIte, evA, r0, r3, r6, r7, r8, r10, r12, r13] <;> rfl)), by (first | exact rfl | (simp only [T.get_set, Nat.reduceEqDiff, ↓reduceIte, evA, r0, r3, r6, r7, r8, r10, r12, r13] <;> rfl)), by (first | exact rfl | (simp only [T.get_set, Nat.reduceEqDiff, ↓reduceIte, evA, r0, r3, r6, r7, r8, r10, r12, r13] <;> rfl)), t, k1, c1, lo⟩
    · have d1 : ((j : Int) < (e.ps.length : Int)) = False := eq_false (by omega)
      rw [List.drop_eq_nil_of_le (by omega)] at hc
      simp only [ChOk] at hc
      subst hc
      have y1 : (e.size < a) = False := eq_false (by omega)
      have y3 : IntKind.wrap .i64 (e.size - a) = e.size - a := wr (by omega) (by omega)
      have y4 : (e.align ≤ e.size - a) = False := eq_false (by omega)
      repeat (first
        | ((first | ((with_reducible apply wpOps_valT); (first | exact rfl | (apply wantedGT; exact rfl; exact rfl; exact rfl; (simp only [T.get_set, Nat.reduceEqDiff, ↓reduceIte, evA, r0, r3, r6, r7, r8, r10, r12, r13] <;> rfl))); exact rfl) | ((with_reducible apply wpOps_storeN); (first | exact rfl | (apply wantedGT; exact rfl; exact rfl; exact rfl; (simp only [T.get_set, Nat.reduceEqDiff, ↓reduceIte, evA, r0, r3, r6, r7, r8, r10, r12, r13] <;> rfl))); exact rfl) | ((with_reducible apply dw_pureT); (first | exact rfl | (apply wantedGT; exact rfl; exact rfl; exact rfl; (simp only [T.get_set, Nat.reduceEqDiff, ↓reduceIte, evA, r0, r3, r6, r7, r8, r10, r12, r13] <;> rfl))); exact rfl; exact rfl) | ((with_reducible apply dw_readT); (first | exact rfl | (apply wantedGT; exact rfl; exact rfl; exact rfl; (simp only [T.get_set, Nat.reduceEqDiff, ↓reduceIte, evA, r0, r3, r6, r7, r8, r10, r12, r13] <;> rfl))); exact rfl; exact rfl)); (simp only [List.getElem?_toArray, List.toList_toArray, bin_eql, bin_neq, bin_lss, bin_leq, bin_gtr, bin_geq, bin_add, bin_sub, bin_mul, un_not, unA, AHeap.get_bump, AHeap.next_bump, opK0, kMove, kPick, kAlloc, kBox, kBuild, kBuildSlice, kLoad, kStore, kNilCheck, kBinOp, kUnOp, kFieldAddr, kField, kIndexAddr, kIndex, kLookup, kMapUpdate, kMakeMap, kExtract, kSlice, kCall, lenA, evA, evAs, evParts, toAV, toAV0, toAVs, T.get_set, T.get_nil, Nat.reduceAdd, Nat.reduceMul, Nat.reduceEqDiff, Nat.zero_add, Nat.add_zero, Nat.mul_one, Nat.zero_mul, AV.cells, List.all_cons, List.all_nil, AV.scalar, Bool.and_true, Bool.true_and, ↓reduceIte, if_true, und_all, Tryd.underlying3, Tryd.underlying4, Tryd.underlying5, Tryd.underlying9, Tryd.underlying23, Tryd.underlying24, Tryd.underlying31, Tryd.underlying38, Tryd.underlying39, Tryd.underlying40, Tryd.underlying41, Tryd.underlying42, Tryd.underlying45, Tryd.underlying46, Tryd.underlying48, Tryd.underlying50, Tryd.underlying55, Tryd.underlying57, Tryd.underlying67, siz3, agg3, zer3, byt3, siz4, agg4, zer4, byt4, siz5, agg5, zer5, byt5, siz9, agg9, zer9, byt9, siz23, agg23, zer23, byt23, siz24, agg24, zer24, byt24, siz31, agg31, zer31, byt31, siz38, agg38, zer38, byt38, siz39, agg39, zer39, byt39, siz40, agg40, zer40, byt40, siz41, agg41, zer41, byt41, siz42, agg42, zer42, byt42, siz45, agg45, zer45, byt45, siz46, agg46, zer46, byt46, siz48, agg48, zer48, byt48, siz50, agg50, zer50, byt50, siz55, agg55, zer55, byt55, siz57, agg57, zer57, byt57, siz67, agg67, zer67, byt67, AHeap.get_alloc, AHeap.get_set, AHeap.next_alloc, AHeap.next_set, AHeap.loadCells, AHeap.load1, AHeap.storeCells, List.getElem?_cons_zero, List.getElem?_cons_succ, List.length_cons, List.length_nil, List.drop_zero, List.take_succ_cons, List.take_zero, List.drop_succ_cons, List.drop_nil, List.take_nil, List.append_nil, List.cons_append, List.nil_append, binA, isConstO, keyOk, ents_some, Bool.or_true, Bool.or_false, Bool.true_or, Bool.false_or, wantedA, dstOk, Option.bind_some, List.append_nil, Tryd.underlying27, decide_true, decide_false, beq_self_eq_true, bne_self_eq_false, Bool.not_true, Bool.not_false, Bool.false_eq_true, if_false, List.zipIdx_cons, reid, toAV, Int.toNat_natCast, Int.natCast_one, Int.natCast_zero, d1, y1, y3, y4, wi, r0, r3, r6, r7, r8, r10, r12, r13] <;> rfl))
        | ((with_reducible apply wpOps_skipT); (first | exact rfl | (apply wantedGF; exact rfl; exact rfl; exact rfl; (simp only [T.get_set, Nat.reduceEqDiff, ↓reduceIte, evA, r0, r3, r6, r7, r8, r10, r12, r13] <;> rfl)) | (apply wantedZ; exact rfl; exact rfl; exact rfl; (simp only [T.get_set, Nat.reduceEqDiff, ↓reduceIte, evA, r0, r3, r6, r7, r8, r10, r12, r13] <;> rfl))); exact rfl)
        | ((with_reducible apply wpOps_skipN); (first | exact rfl | (apply wantedGF; exact rfl; exact rfl; exact rfl; (simp only [T.get_set, Nat.reduceEqDiff, ↓reduceIte, evA, r0, r3, r6, r7, r8, r10, r12, r13] <;> rfl)) | (apply wantedZ; exact rfl; exact rfl; exact rfl; (simp only [T.get_set, Nat.reduceEqDiff, ↓reduceIte, evA, r0, r3, r6, r7, r8, r10, r12, r13] <;> rfl))); exact rfl)
        | ((with_reducible apply dw_skipT); (first | exact rfl | (apply wantedGF; exact rfl; exact rfl; exact rfl; (simp only [T.get_set, Nat.reduceEqDiff, ↓reduceIte, evA, r0, r3, r6, r7, r8, r10, r12, r13] <;> rfl)) | (apply wantedZ; exact rfl; exact rfl; exact rfl; (simp only [T.get_set, Nat.reduceEqDiff, ↓reduceIte, evA, r0, r3, r6, r7, r8, r10, r12, r13] <;> rfl))); exact rfl)
        | (with_reducible apply aw_seq)
        | (with_reducible apply aw_regionL)
        | (with_reducible apply aw_block)
        | (with_reducible apply aw_scope)
        | (with_reducible apply aw_nil)
        | (with_reducible apply aw_then)
        | (with_reducible apply aw_thenR)
        | (with_reducible apply aw_thenE)
        | (with_reducible apply aw_blockR)
        | (with_reducible apply aw_blockN)
        | (with_reducible apply aw_blockE)
        | (with_reducible apply aw_ret)
        | (with_reducible apply aw_exit)
        | (with_reducible apply aw_skip)
        | ((with_reducible apply aw_condT); (first | exact rfl | (simp only [T.get_set, Nat.reduceEqDiff, ↓reduceIte, evA, r0, r3, r6, r7, r8, r10, r12, r13] <;> rfl)))
        | ((with_reducible apply aw_condF); (first | exact rfl | (simp only [T.get_set, Nat.reduceEqDiff, ↓reduceIte, evA, r0, r3, r6, r7, r8, r10, r12, r13] <;> rfl)))
        | ((with_reducible apply aw_drawL); (simp only [List.zipIdx_cons, List.zipIdx_nil, Nat.zero_add, Nat.reduceAdd] <;> rfl); kernel_rfl; kernel_rfl)
        | (with_reducible apply dw_nil)
        | fail)

      exact ⟨l.length - (i + 1), by omega, i + 1, hlt, rfl, rfl, rfl, rfl, by (first | exact rfl | (simp only [T.get_set, Nat.reduceEqDiff, ↓reduceIte, evA, r0, r3, r6, r7, r8, r10, r12, r13] <;> rfl)), by (first | exact rfl | (simp only [T.get_set, Nat.reduceEqDiff, ↓reduceIte, evA, r0, r3, r6, r7, r8, r10, r12, r13] <;> rfl)), by (first | exact rfl | (simp only [T.get_set, Nat.reduceEqDiff, ↓reduceIte, evA, r0, r3, r6, r7, r8, r10, r12, r13] <;> rfl)), t, k1⟩
  · have g1 : ((i : Int) < (l.length : Int)) = False := eq_false (by omega)
    repeat (first
      | ((first | ((with_reducible apply wpOps_valT); (first | exact rfl | (apply wantedGT; exact rfl; exact rfl; exact rfl; (simp only [T.get_set, Nat.reduceEqDiff, ↓reduceIte, evA, r0, r3, r6] <;> rfl))); exact rfl) | ((with_reducible apply wpOps_storeN); (first | exact rfl | (apply wantedGT; exact rfl; exact rfl; exact rfl; (simp only [T.get_set, Nat.reduceEqDiff, ↓reduceIte, evA, r0, r3, r6] <;> rfl))); exact rfl) | ((with_reducible apply dw_pureT); (first | exact rfl | (apply wantedGT; exact rfl; exact rfl; exact rfl; (simp only [T.get_set, Nat.reduceEqDiff, ↓reduceIte, evA, r0, r3, r6] <;> rfl))); exact rfl; exact rfl) | ((with_reducible apply dw_readT); (first | exact rfl | (apply wantedGT; exact rfl; exact rfl; exact rfl; (simp only [T.get_set, Nat.reduceEqDiff, ↓reduceIte, evA, r0, r3, r6] <;> rfl))); exact rfl; exact rfl)); (simp only [List.getElem?_toArray, List.toList_toArray, bin_eql, bin_neq, bin_lss, bin_leq, bin_gtr, bin_geq, bin_add, bin_sub, bin_mul, un_not, unA, AHeap.get_bump, AHeap.next_bump, opK0, kMove, kPick, kAlloc, kBox, kBuild, kBuildSlice, kLoad, kStore, kNilCheck, kBinOp, kUnOp, kFieldAddr, kField, kIndexAddr, kIndex, kLookup, kMapUpdate, kMakeMap, kExtract, kSlice, kCall, lenA, evA, evAs, evParts, toAV, toAV0, toAVs, T.get_set, T.get_nil, Nat.reduceAdd, Nat.reduceMul, Nat.reduceEqDiff, Nat.zero_add, Nat.add_zero, Nat.mul_one, Nat.zero_mul, AV.cells, List.all_cons, List.all_nil, AV.scalar, Bool.and_true, Bool.true_and, ↓reduceIte, if_true, und_all, Tryd.underlying3, Tryd.underlying4, Tryd.underlying5, Tryd.underlying9, Tryd.underlying23, Tryd.underlying24, Tryd.underlying31, Tryd.underlying38, Tryd.underlying39, Tryd.underlying40, Tryd.underlying41, Tryd.underlying42, Tryd.underlying45, Tryd.underlying46, Tryd.underlying48, Tryd.underlying50, Tryd.underlying55, Tryd.underlying57, Tryd.underlying67, siz3, agg3, zer3, byt3, siz4, agg4, zer4, byt4, siz5, agg5, zer5, byt5, siz9, agg9, zer9, byt9, siz23, agg23, zer23, byt23, siz24, agg24, zer24, byt24, siz31, agg31, zer31, byt31, siz38, agg38, zer38, byt38, siz39, agg39, zer39, byt39, siz40, agg40, zer40, byt40, siz41, agg41, zer41, byt41, siz42, agg42, zer42, byt42, siz45, agg45, zer45, byt45, siz46, agg46, zer46, byt46, siz48, agg48, zer48, byt48, siz50, agg50, zer50, byt50, siz55, agg55, zer55, byt55, siz57, agg57, zer57, byt57, siz67, agg67, zer67, byt67, AHeap.get_alloc, AHeap.get_set, AHeap.next_alloc, AHeap.next_set, AHeap.loadCells, AHeap.load1, AHeap.storeCells, List.getElem?_cons_zero, List.getElem?_cons_succ, List.length_cons, List.length_nil, List.drop_zero, List.take_succ_cons, List.take_zero, List.drop_succ_cons, List.drop_nil, List.take_nil, List.append_nil, List.cons_append, List.nil_append, binA, isConstO, keyOk, ents_some, Bool.or_true, Bool.or_false, Bool.true_or, Bool.false_or, wantedA, dstOk, Option.bind_some, List.append_nil, Tryd.underlying27, decide_true, decide_false, beq_self_eq_true, bne_self_eq_false, Bool.not_true, Bool.not_false, Bool.false_eq_true, if_false, List.zipIdx_cons, reid, toAV, Int.toNat_natCast, Int.natCast_one, Int.natCast_zero, g1, r0, r3, r6] <;> rfl))
      | ((with_reducible apply wpOps_skipT); (first | exact rfl | (apply wantedGF; exact rfl; exact rfl; exact rfl; (simp only [T.get_set, Nat.reduceEqDiff, ↓reduceIte, evA, r0, r3, r6] <;> rfl)) | (apply wantedZ; exact rfl; exact rfl; exact rfl; (simp only [T.get_set, Nat.reduceEqDiff, ↓reduceIte, evA, r0, r3, r6] <;> rfl))); exact rfl)
      | ((with_reducible apply wpOps_skipN); (first | exact rfl | (apply wantedGF; exact rfl; exact rfl; exact rfl; (simp only [T.get_set, Nat.reduceEqDiff, ↓reduceIte, evA, r0, r3, r6] <;> rfl)) | (apply wantedZ; exact rfl; exact rfl; exact rfl; (simp only [T.get_set, Nat.reduceEqDiff, ↓reduceIte, evA, r0, r3, r6] <;> rfl))); exact rfl)
      | ((with_reducible apply dw_skipT); (first | exact rfl | (apply wantedGF; exact rfl; exact rfl; exact rfl; (simp only [T.get_set, Nat.reduceEqDiff, ↓reduceIte, evA, r0, r3, r6] <;> rfl)) | (apply wantedZ; exact rfl; exact rfl; exact rfl; (simp only [T.get_set, Nat.reduceEqDiff, ↓reduceIte, evA, r0, r3, r6] <;> rfl))); exact rfl)
      | (with_reducible apply aw_seq)
      | (with_reducible apply aw_regionL)
      | (with_reducible apply aw_block)
      | (with_reducible apply aw_scope)
      | (with_reducible apply aw_nil)
      | (with_reducible apply aw_then)
      | (with_reducible apply aw_thenR)
      | (with_reducible apply aw_thenE)
      | (with_reducible apply aw_blockR)
      | (with_reducible apply aw_blockN)
      | (with_reducible apply aw_blockE)
      | (with_reducible apply aw_ret)
      | (with_reducible apply aw_exit)
      | (with_reducible apply aw_skip)
      | ((with_reducible apply aw_condT); (first | exact rfl | (simp only [T.get_set, Nat.reduceEqDiff, ↓reduceIte, evA, r0, r3, r6] <;> rfl)))
      | ((with_reducible apply aw_condF); (first | exact rfl | (simp only [T.get_set, Nat.reduceEqDiff, ↓reduceIte, evA, r0, r3, r6] <;> rfl)))
      | ((with_reducible apply aw_drawL); (simp only [List.zipIdx_cons, List.zipIdx_nil, Nat.zero_add, Nat.reduceAdd] <;> rfl); kernel_rfl; kernel_rfl)
      | (with_reducible apply dw_nil)
      | fail)

    exact ⟨rfl, _, (by simp only [res5, resultsA, resultA, List.getElem?_toArray, List.toList_toArray, bin_eql, bin_neq, bin_lss, bin_leq, bin_gtr, bin_geq, bin_add, bin_sub, bin_mul, un_not, unA, AHeap.get_bump, AHeap.next_bump, opK0, kMove, kPick, kAlloc, kBox, kBuild, kBuildSlice, kLoad, kStore, kNilCheck, kBinOp, kUnOp, kFieldAddr, kField, kIndexAddr, kIndex, kLookup, kMapUpdate, kMakeMap, kExtract, kSlice, kCall, lenA, evA, evAs, evParts, toAV, toAV0, toAVs, T.get_set, T.get_nil, Nat.reduceAdd, Nat.reduceMul, Nat.reduceEqDiff, Nat.zero_add, Nat.add_zero, Nat.mul_one, Nat.zero_mul, AV.cells, List.all_cons, List.all_nil, AV.scalar, Bool.and_true, Bool.true_and, ↓reduceIte, if_true, und_all, Tryd.underlying3, Tryd.underlying4, Tryd.underlying5, Tryd.underlying9, Tryd.underlying23, Tryd.underlying24, Tryd.underlying31, Tryd.underlying38, Tryd.underlying39, Tryd.underlying40, Tryd.underlying41, Tryd.underlying42, Tryd.underlying45, Tryd.underlying46, Tryd.underlying48, Tryd.underlying50, Tryd.underlying55, Tryd.underlying57, Tryd.underlying67, siz3, agg3, zer3, byt3, siz4, agg4, zer4, byt4, siz5, agg5, zer5, byt5, siz9, agg9, zer9, byt9, siz23, agg23, zer23, byt23, siz24, agg24, zer24, byt24, siz31, agg31, zer31, byt31, siz38, agg38, zer38, byt38, siz39, agg39, zer39, byt39, siz40, agg40, zer40, byt40, siz41, agg41, zer41, byt41, siz42, agg42, zer42, byt42, siz45, agg45, zer45, byt45, siz46, agg46, zer46, byt46, siz48, agg48, zer48, byt48, siz50, agg50, zer50, byt50, siz55, agg55, zer55, byt55, siz57, agg57, zer57, byt57, siz67, agg67, zer67, byt67, AHeap.get_alloc, AHeap.get_set, AHeap.next_alloc, AHeap.next_set, AHeap.loadCells, AHeap.load1, AHeap.storeCells, List.getElem?_cons_zero, List.getElem?_cons_succ, List.length_cons, List.length_nil, List.drop_zero, List.take_succ_cons, List.take_zero, List.drop_succ_cons, List.drop_nil, List.take_nil, List.append_nil, List.cons_append, List.nil_append, binA, isConstO, keyOk, ents_some, Bool.or_true, Bool.or_false, Bool.true_or, Bool.false_or, wantedA, dstOk, Option.bind_some, List.append_nil, r0, r3, r6] <;> rfl), rfl, k1⟩
end Go.Proofs.YtkkhpibnbaepiaaDoor
