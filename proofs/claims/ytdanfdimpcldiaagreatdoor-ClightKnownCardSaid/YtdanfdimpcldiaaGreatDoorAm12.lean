/-
  Proves that maps of the abstract machine stand for the model's. Each theorem states its own conditions; there are no others.
-/
import Derived.Test.YtdanfdimpcldiaaGreatDoorAm11
set_option linter.unusedSimpArgs false
set_option linter.unusedVariables false
set_option linter.unusedVariables false
set_option linter.unusedSectionVars false
namespace Go.Am
variable [Base]
variable {E : Env} {ι : Inj} {h h' : AHeap} {w : World} {rg : T AV} {a : Act} {o : Oper} {r : ORes}

/-- The zero value of a map's element, or of an asserted type. -/
theorem zeroVal_run (hE : E.Ok) {t : TypeId} {z : List AV} {ag : Bool} {v : AV} (hz : E.zer t = some z) (ha : E.isAgg t = some ag) (hv : (if ag then some (.agg z) else z[0]?) = some v) (ι : Inj) (w : World) :
    ∃ y, (zeroValue t).run E.P w = .ok y w ∧ VRel ι v y := by
  obtain ⟨zv, hzr, hzl, h1, h2⟩ := zero_run hE hz w
  refine ⟨zv, hzr, ?_⟩
  have hrel := toAVs_rel ι hzl
  cases ag with
  | true =>
    obtain ⟨cs, rfl⟩ := h1 ha
    simp at hv; subst hv
    exact .agg' hrel
  | false =>
    have hs := h2 ha
    simp at hv
    have hc : zv.cells.toList = [zv] := by cases zv <;> simp_all [Value.cells, Value.oneCell']
    rw [hc] at hrel
    obtain ⟨y, hy, hr⟩ := hrel.get hv
    simp at hy; subst hy; exact hr

theorem checkKey_run (hE : E.Ok) {t : TypeId} {k : AV} {v : Value} (hk : VRel ι k v) (ho : keyOk E t k = true) (b : Bool) (n : Nat) (w : World) : (Instr.checkKey b (n + 1) t v).run E.P w = .ok () w := by
  unfold keyOk at ho
  split at ho <;> first | (simp at ho; done) | skip
  all_goals
    rename_i hu
    rw [Instr.checkKey]
    cases hk <;> simp [und_run hE hu]

theorem ptrEqual (hE : E.Ok) (hH : HRel ι h w) {t e : TypeId} {n : Nat} (hu : E.P.underlying t = some (.pointer e)) (hs : E.siz e = some (n + 1)) {p q : Nat × Nat} {Lp Lq : Loc} {b : Bool} (hp : ι p.1 = some Lp) (hq : ι q.1 = some Lq)
    (he : eqPtr h p q = some b) (d : Nat) : (Op.equalIn (d + 1) t (.pointer (some ⟨Lp.b, Lp.base + p.2, none⟩)) (.pointer (some ⟨Lq.b, Lq.base + q.2, none⟩))).run E.P w = .ok b w := by
  rw [Op.equalIn]
  have hs' := sizeOf_run hE hs w
  simp [run_underlying hu, hs', eqPtr_run E.P hH hp hq he]

/-- The key's place, as the model finds it. -/
theorem findKey_run (hE : E.Ok) (hH : HRel ι h w) {t : TypeId} {k : AV} {kv : Value} (hk : VRel ι k kv) (hko : keyOk E t k = true) :
    ∀ {ents : List (AV × AV)} {es : List MapEntry} {res : Option (Nat × AV)}, ents.length = es.length → (∀ (i : Nat) (x : AV × AV) (y : MapEntry), ents[i]? = some x → es[i]? = some y → VRel ι x.1 y.key ∧ VRel ι x.2 y.val) →
      findA h k ents 0 = some res → ∃ res', (Instr.findKey t kv es).run E.P w = .ok res' w ∧
        (match res, res' with
         | none, none => True
         | some (i, v), some (j, u) => i = j ∧ VRel ι v u ∧ i < es.length
         | _, _ => False) := by
  intro ents es res hl hrel hf
  have hcases : (∃ d, E.P.underlying t = some d ∧ ((∃ q n, k = .int q n ∧ d = .int q) ∨ (∃ s, k = .str s ∧ d = .string) ∨ (∃ b, k = .bool b ∧ d = .bool))) ∨
      (∃ e p n, E.P.underlying t = some (.pointer e) ∧ k = .ptr (some p) ∧ E.siz e = some (n + 1)) := by
    unfold keyOk at hko
    split at hko <;> first | (simp at hko; done) | skip
    · rename_i q k' n hu; simp at hko; subst hko; exact .inl ⟨_, hE.und t _ hu, .inl ⟨_, _, rfl, rfl⟩⟩
    · rename_i s hu; exact .inl ⟨_, hE.und t _ hu, .inr (.inl ⟨_, rfl, rfl⟩)⟩
    · rename_i s hu; exact .inl ⟨_, hE.und t _ hu, .inr (.inr ⟨_, rfl, rfl⟩)⟩
    · rename_i e p hu
      split at hko
      · rename_i n hs; exact .inr ⟨e, p, n, hE.und t _ hu, rfl, hs⟩
      · simp at hko
  rcases hcases with ⟨d, hu, hd⟩ | ⟨e, p, n, hu, rfl, hs⟩
  · have gen : ∀ (ents : List (AV × AV)) (es : List MapEntry) (res : Option (Nat × AV)) (n : Nat), ents.length = es.length →
        (∀ (i : Nat) (x : AV × AV) (y : MapEntry), ents[i]? = some x → es[i]? = some y → VRel ι x.1 y.key ∧ VRel ι x.2 y.val) → findA h k ents n = some res →
        ∃ res', Instr.findNow d kv es n = some res' ∧ (match res, res' with
         | none, none => True
         | some (i, v), some (j, u) => i = j ∧ VRel ι v u ∧ n ≤ i ∧ i < n + es.length
         | _, _ => False) := by
      intro ents
      induction ents with
      | nil =>
        intro es res n hl hrel hf
        simp [findA] at hf; subst hf
        cases es with
        | nil => exact ⟨none, rfl, trivial⟩
        | cons _ _ => simp at hl
      | cons x ents ih =>
        intro es res n hl hrel hf
        cases es with
        | nil => simp at hl
        | cons y es =>
          obtain ⟨hk1, hv1⟩ := hrel 0 x y rfl rfl
          have hsame : ∀ b, keyEq h k x.1 = some b → Instr.sameNow d kv y.key = some b := by
            intro b hb
            rcases hd with ⟨q, n, rfl, rfl⟩ | ⟨s, rfl, rfl⟩ | ⟨c, rfl, rfl⟩
            · rw [hk.int_inv]
              cases hx1 : x.1 <;> rw [hx1] at hb hk1 <;> simp [keyEq] at hb
              obtain ⟨rfl, rfl⟩ := hb
              rw [hk1.int_inv]; simp [Instr.sameNow]
            · rw [hk.str_inv]
              cases hx1 : x.1 <;> rw [hx1] at hb hk1 <;> simp [keyEq] at hb
              subst hb
              rw [hk1.str_inv]; simp only [Instr.sameNow, beq_toListBytes, toList_bytes]
            · rw [hk.bool_inv]
              cases hx1 : x.1 <;> rw [hx1] at hb hk1 <;> simp [keyEq] at hb
              subst hb
              rw [hk1.bool_inv]; simp [Instr.sameNow]
          simp only [findA] at hf
          split at hf
          · rename_i hb
            simp at hf; subst hf
            exact ⟨some (n, y.val), by simp [Instr.findNow, hsame _ hb], rfl, hv1, Nat.le_refl _, by simp⟩
          · rename_i hb
            obtain ⟨res', h1, h2⟩ := ih es res (n + 1) (by simpa using hl) (fun i a b ha hb => hrel (i + 1) a b (by simpa using ha) (by simpa using hb)) hf
            refine ⟨res', by simp [Instr.findNow, hsame _ hb, h1], ?_⟩
            cases res <;> cases res' <;> simp_all
            omega
          · simp at hf
    obtain ⟨res', h1, h2⟩ := gen ents es res 0 hl hrel hf
    refine ⟨res', by simp [Instr.findKey, run_underlying hu, h1], ?_⟩
    cases res <;> cases res' <;> simp at h2 ⊢
    exact ⟨h2.1, h2.2.1, h2.2.2⟩
  · obtain ⟨Lp, hLp, rfl⟩ := hk.ptr_inv
    have gen : ∀ (ents : List (AV × AV)) (es : List MapEntry) (res : Option (Nat × AV)) (m : Nat), ents.length = es.length →
        (∀ (i : Nat) (x : AV × AV) (y : MapEntry), ents[i]? = some x → es[i]? = some y → VRel ι x.1 y.key ∧ VRel ι x.2 y.val) → findA h (.ptr (some p)) ents m = some res →
        ∃ res', (Instr.findAsking t (.pointer (some ⟨Lp.b, Lp.base + p.2, none⟩)) es m).run E.P w = .ok res' w ∧ (match res, res' with
         | none, none => True
         | some (i, v), some (j, u) => i = j ∧ VRel ι v u ∧ m ≤ i ∧ i < m + es.length
         | _, _ => False) := by
      intro ents
      induction ents with
      | nil =>
        intro es res m hl hrel hf
        simp [findA] at hf; subst hf
        cases es with
        | nil => exact ⟨none, rfl, trivial⟩
        | cons _ _ => simp at hl
      | cons x ents ih =>
        intro es res m hl hrel hf
        cases es with
        | nil => simp at hl
        | cons y es =>
          obtain ⟨hk1, hv1⟩ := hrel 0 x y rfl rfl
          have hsame : ∀ b, keyEq h (.ptr (some p)) x.1 = some b → (Op.equal t (.pointer (some ⟨Lp.b, Lp.base + p.2, none⟩)) y.key).run E.P w = .ok b w := by
            intro b hb
            cases hx1 : x.1 <;> rw [hx1] at hb hk1 <;> try (simp [keyEq] at hb; done)
            rename_i q
            cases q with
            | none => simp [keyEq] at hb
            | some q =>
              simp only [keyEq] at hb
              obtain ⟨Lq, hLq, hye⟩ := hk1.ptr_inv
              rw [hye]
              exact ptrEqual hE hH hu hs hLp hLq hb 9999
          simp only [findA] at hf
          split at hf
          · rename_i hb
            simp at hf; subst hf
            exact ⟨some (m, y.val), by simp [Instr.findAsking, hsame _ hb], rfl, hv1, Nat.le_refl _, by simp⟩
          · rename_i hb
            obtain ⟨res', h1, h2⟩ := ih es res (m + 1) (by simpa using hl) (fun i a b ha hb => hrel (i + 1) a b (by simpa using ha) (by simpa using hb)) hf
            refine ⟨res', by simp [Instr.findAsking, hsame _ hb, h1], ?_⟩
            cases res <;> cases res' <;> simp_all
            omega
          · simp at hf
    cases es with
    | nil =>
      cases ents with
      | nil =>
        simp [findA] at hf; subst hf
        exact ⟨none, by simp [Instr.findKey, run_underlying hu, Instr.findNow], trivial⟩
      | cons _ _ => simp at hl
    | cons y es =>
      obtain ⟨res', h1, h2⟩ := gen ents (y :: es) res 0 hl hrel hf
      have hnow : Instr.findNow (.pointer e) (.pointer (some ⟨Lp.b, Lp.base + p.2, none⟩)) (y :: es) 0 = none := by
        simp [Instr.findNow, Instr.sameNow]
      refine ⟨res', by simp [Instr.findKey, run_underlying hu, hnow, h1], ?_⟩
      cases res <;> cases res' <;> simp at h2 ⊢
      exact ⟨h2.1, h2.2.1, h2.2.2⟩

/-- A map value and its entries, on both sides. -/
theorem map_entries (hH : HRel ι h w) {m : Option Nat} {v : Value} {ents : List (AV × AV)} (hx : VRel ι (.map m) v)
    (hents : h.ents m = some ents) :
    ∃ es : Array MapEntry, (v = .map none ∧ es = #[] ∨ ∃ L ck, v = .map (some L) ∧ w.heap[L]? = some (.map es ck)) ∧ ents.length = es.toList.length ∧
      (∀ (i : Nat) (x : AV × AV) (y : MapEntry), ents[i]? = some x → es.toList[i]? = some y → VRel ι x.1 y.key ∧ VRel ι x.2 y.val) := by
  cases hx with
  | mapNil =>
    simp [AHeap.ents] at hents; subst hents
    exact ⟨#[], .inl ⟨rfl, rfl⟩, rfl, by simp⟩
  | @map id L hL =>
    simp only [AHeap.ents] at hents
    split at hents
    · rename_i es' hob
      simp at hents; subst hents
      obtain ⟨o1, h1, h2⟩ := hH.obj id L hL
      rw [hob] at h1; cases h1
      obtain ⟨es, ck, hb, hsz, hrel⟩ := h2
      exact ⟨es, .inr ⟨L.b, ck, rfl, hb⟩, by simpa using hsz.symm, fun i x y hx hy => hrel i x y hx (by simpa using hy)⟩
    · simp at hents

theorem run_getMap {P : Program} {L : Nat} {es : Array MapEntry} {ck : Nat} (hb : w.heap[L]? = some (.map es ck)) : (getObj L).run P w = .ok (.map es ck) w := by
  simp [getObj, Sem.run, hb]

theorem run_lookupA (hE : E.Ok) {t kt vt : TypeId} {ok : Bool} {x k : Value} {es : Array MapEntry} (hu : E.und t = some (.map kt vt))
    (hx : x = .map none ∧ es = #[] ∨ ∃ L ck, x = .map (some L) ∧ w.heap[L]? = some (.map es ck)) (hck : (Instr.checkKey es.isEmpty 10000 kt k).run E.P w = .ok () w)
    {res : Option (Nat × Value)} (hf : (Instr.findKey kt k es.toList).run E.P w = .ok res w) {v : Value} {b : Bool}
    (hv : (∃ i, res = some (i, v) ∧ b = true) ∨ (res = none ∧ (zeroValue vt).run E.P w = .ok v w ∧ b = false)) :
    (Instr.lookup t x k ok).run E.P w = .ok (if ok then .tuple #[v, .bool b] else v) w := by
  rcases hx with ⟨rfl, rfl⟩ | ⟨L, ck, rfl, hb⟩
  · rcases hv with ⟨i, rfl, rfl⟩ | ⟨rfl, hz, rfl⟩
    · simp only [Instr.lookup, Sem.run_bind, und_run hE hu, Result.andThen_ok, Sem.run_pure, hck, hf]
    · simp only [Instr.lookup, Sem.run_bind, und_run hE hu, Result.andThen_ok, Sem.run_pure, hck, hf, hz]
  · rcases hv with ⟨i, rfl, rfl⟩ | ⟨rfl, hz, rfl⟩
    · simp only [Instr.lookup, Sem.run_bind, und_run hE hu, Result.andThen_ok, Sem.run_pure, run_getMap hb, hck, hf]
    · simp only [Instr.lookup, Sem.run_bind, und_run hE hu, Result.andThen_ok, Sem.run_pure, run_getMap hb, hck, hf, hz]

theorem VRel.okPair {v : AV} {u : Value} (hv : VRel ι v u) (b : Bool) : VRel ι (.tup [v, .bool b]) (.tuple #[u, .bool b]) :=
  .tup' (VsRel.cons hv (VsRel.cons (.bool b) (VsRel.nil _)))

theorem op_lookup (hE : E.Ok) (hR : RegRel ι rg a.tmps) (hH : HRel ι h w) {t : TypeId} {x ix : Operand} {ok : Bool} (ho : o.op = .lookup t x ix ok) (hop : opA E rg h o = some (r, h')) :
    OpPure ι h w r h' ((execOp a.eval o).run E.P w) := by
  simp only [opA, ho] at hop
  split at hop
  · rename_i kt vt m k hu hx hk
    split at hop
    · rename_i hko
      have hkr := evA_rel hR hk
      have hxr := evA_rel hR hx
      split at hop
      · rename_i ents hents
        obtain ⟨es, hes, hl, hrel⟩ := map_entries hH hxr hents
        have hck := checkKey_run hE hkr hko es.isEmpty 9999 w
        have hexec : (execOp a.eval o).run E.P w = ((Instr.lookup t (a.eval x) (a.eval ix) ok).run E.P w).andThen fun v w' => .ok (.value v) w' := by
          simp only [execOp, ho, Sem.run_bind]; rfl
        split at hop
        · rename_i i v hf
          simp at hop; obtain ⟨rfl, rfl⟩ := hop
          obtain ⟨res', hf', hres⟩ := findKey_run hE hH hkr hko hl hrel hf
          cases res' with
          | none => exact hres.elim
          | some iu =>
            obtain ⟨j, u⟩ := iu
            obtain ⟨rfl, hvu, _⟩ := hres
            have hrun := run_lookupA hE (ok := ok) hu hes hck hf' (v := u) (b := true) (.inl ⟨_, rfl, rfl⟩)
            rw [hrun] at hexec
            cases ok
            · exact .pure hH hexec hvu
            · exact .pure hH hexec (hvu.okPair true)
        · rename_i z ag hf hz hag
          split at hop
          · rename_i v hv
            simp at hop; obtain ⟨rfl, rfl⟩ := hop
            obtain ⟨res', hf', hres⟩ := findKey_run hE hH hkr hko hl hrel hf
            cases res' with
            | some iu => exact hres.elim
            | none =>
              obtain ⟨y, hy, hvy⟩ := zeroVal_run hE hz hag hv ι w
              have hrun := run_lookupA hE (ok := ok) hu hes hck hf' (v := y) (b := false) (.inr ⟨rfl, hy, rfl⟩)
              rw [hrun] at hexec
              cases ok
              · exact .pure hH hexec hvy
              · exact .pure hH hexec (hvy.okPair false)
          · simp at hop
        · simp at hop
      · simp at hop
    · simp at hop
  · simp at hop

theorem findA_spec (h : AHeap) (k : AV) : ∀ (ents : List (AV × AV)) (n i : Nat) (v : AV), findA h k ents n = some (some (i, v)) → ∃ x, n ≤ i ∧ ents[i - n]? = some x ∧ keyEq h k x.1 = some true
  | [], n, i, v, hf => by simp [findA] at hf
  | x :: ents, n, i, v, hf => by
    simp only [findA] at hf
    split at hf
    · rename_i hb
      simp at hf; obtain ⟨rfl, _⟩ := hf
      exact ⟨x, Nat.le_refl _, by simp, hb⟩
    · obtain ⟨y, h1, h2, h3⟩ := findA_spec h k ents (n + 1) i v hf
      refine ⟨y, by omega, ?_, h3⟩
      rw [show i - n = (i - (n + 1)) + 1 from by omega, List.getElem?_cons_succ]; exact h2
    · simp at hf
theorem sameBits_of_keyEq {k x : AV} {u v : Value} (hk : VRel ι k u) (hx : VRel ι x v) (he : keyEq h k x = some true) (n : Nat) : Instr.sameBits n v u = true := by
  unfold keyEq at he
  split at he
  · rw [hk.int_inv, hx.int_inv]
    split at he
    · rename_i e; subst e; simp at he; subst he; simp [Instr.sameBits]
    · simp at he
  · simp at he; subst he
    rw [hk.str_inv, hx.str_inv]; simp only [Instr.sameBits, beq_toListBytes, toList_bytes]; simp
  · simp at he; subst he
    rw [hk.bool_inv, hx.bool_inv]; simp [Instr.sameBits]
  · rename_i p q
    unfold eqPtr at he
    split at he
    · split at he
      · rename_i e
        simp at he
        obtain ⟨L, hL, rfl⟩ := hk.ptr_inv
        obtain ⟨L', hL', rfl⟩ := hx.ptr_inv
        rw [e] at hL; rw [hL] at hL'; cases hL'
        simp [Instr.sameBits, he]
      · split at he <;> simp at he
    · simp at he
  · simp at he

theorem op_mapUpdate (hE : E.Ok) (hR : RegRel ι rg a.tmps) (hH : HRel ι h w) {t : TypeId} {x ix y : Operand} (ho : o.op = .mapUpdate t x ix y) (hop : opA E rg h o = some (r, h')) :
    OpPost ι h w r h' ((execOp a.eval o).run E.P w) := by
  simp only [opA, ho] at hop
  split at hop
  · rename_i kt vt id k v hu hx hk hv
    split at hop
    · rename_i hko
      have hkr := evA_rel hR hk
      have hvr := evA_rel hR hv
      split at hop
      · rename_i ents hob
        have hxr := evA_rel hR hx
        cases hxe : a.eval x <;> rw [hxe] at hxr <;> cases hxr
        rename_i L hL
        obtain ⟨o1, h1, h2⟩ := hH.obj id L hL
        rw [hob] at h1; cases h1
        obtain ⟨es, ck, hb, hsz, hrel⟩ := h2
        have hlt : L.b < w.heap.size := (Array.getElem?_eq_some_iff.1 hb).1
        have hck := checkKey_run hE hkr hko false 9999 w
        have hl : ents.length = es.toList.length := by simpa using hsz.symm
        have hrel' : ∀ (i : Nat) (x : AV × AV) (y : MapEntry), ents[i]? = some x → es.toList[i]? = some y → VRel ι x.1 y.key ∧ VRel ι x.2 y.val := fun i x y hx hy => hrel i x y hx (by simpa using hy)
        have hset : ∀ (o' : Obj) , (setObj L.b o').run E.P w = .ok () { w with heap := w.heap.setIfInBounds L.b o' } := fun o' => by simp [setObj, Sem.run, hb]
        have hturn : ∀ (ents' : List (AV × AV)) (es' : Array MapEntry) (ck' : Nat), es'.size = ents'.length → (∀ (i : Nat) (x : AV × AV) (y : MapEntry), ents'[i]? = some x → es'[i]? = some y → VRel ι x.1 y.key ∧ VRel ι x.2 y.val) →
            Ext ι h w ι (h.set id (.map ents')) { w with heap := w.heap.setIfInBounds L.b (.map es' ck') } := fun ents' es' ck' h1 h2 =>
          hH.turn hL hob rfl ⟨es', ck', by simp [hlt], h1, h2⟩ (by simp) (fun b hne => by simp [Array.getElem?_setIfInBounds, hne.symm]) rfl rfl rfl
        split at hop
        · rename_i i v' hf
          simp at hop; obtain ⟨rfl, rfl⟩ := hop
          obtain ⟨res', hf', hres⟩ := findKey_run hE hH hkr hko hl hrel' hf
          cases res' with
          | none => exact hres.elim
          | some iu =>
            obtain ⟨j, u⟩ := iu
            obtain ⟨rfl, hvu, hij⟩ := hres
            obtain ⟨x0, _, hx0, hkeq⟩ := findA_spec h k ents 0 i v' hf
            simp only [Nat.sub_zero] at hx0
            have hij' : i < es.size := by simpa using hij
            have hkey := (hrel i x0 es[i] hx0 (by simp [hij'])).1
            have hstay : (Instr.keyThatStays (((es[i]?).map (·.key)).getD (a.eval ix)) (a.eval ix)).run E.P w = .ok (a.eval ix) w := by
              have hsb := sameBits_of_keyEq hkr hkey hkeq 10000
              simp [Instr.keyThatStays, hij', hsb]
            have hrun : (execOp a.eval o).run E.P w = .ok .skip { w with heap := w.heap.setIfInBounds L.b (.map (es.modify i fun e => { e with key := a.eval ix, val := a.eval y }) ck) } := by
              simp only [execOp, ho, Sem.run_bind, hxe, Instr.mapUpdate, und_run hE hu, Result.andThen_ok, run_getMap hb, hck, hf', hstay, hset, Sem.run_pure]
            rw [hrun]
            refine ⟨ι, rfl, hturn _ _ _ (by simp [hsz]) ?_⟩
            intro j x y' hx hy
            rw [List.getElem?_modify] at hx
            rw [Array.getElem?_modify] at hy
            by_cases e : i = j
            · subst e
              rw [hx0] at hx
              simp [hij'] at hx hy
              subst hx; subst hy
              exact ⟨hkr, hvr⟩
            · simp [e] at hx hy
              exact hrel j x y' hx hy
        · rename_i hf
          simp at hop; obtain ⟨rfl, rfl⟩ := hop
          obtain ⟨res', hf', hres⟩ := findKey_run hE hH hkr hko hl hrel' hf
          cases res' with
          | some iu => exact hres.elim
          | none =>
            have hrun : (execOp a.eval o).run E.P w = .ok .skip { w with heap := w.heap.setIfInBounds L.b (.map (es.push { key := a.eval ix, val := a.eval y, born := ck }) (ck + 1)) } := by
              simp only [execOp, ho, Sem.run_bind, hxe, Instr.mapUpdate, und_run hE hu, Result.andThen_ok, run_getMap hb, hck, hf', hset, Sem.run_pure]
            rw [hrun]
            refine ⟨ι, rfl, hturn _ _ _ (by simp [hsz]) ?_⟩
            intro i x y hx hy
            rw [List.getElem?_append] at hx
            split at hx
            · rename_i hi
              rw [Array.getElem?_push, if_neg (by omega)] at hy
              exact hrel i x y hx hy
            · rename_i hi
              have hi2 : i = ents.length := by
                have := (List.getElem?_eq_some_iff.1 hx).1; simp at this; omega
              subst hi2
              simp at hx; subst hx
              rw [← hsz, Array.getElem?_push, if_pos rfl] at hy
              simp at hy; subst hy
              exact ⟨hkr, hvr⟩
        · simp at hop
      · simp at hop
    · simp at hop
  · simp at hop
end Go.Am
