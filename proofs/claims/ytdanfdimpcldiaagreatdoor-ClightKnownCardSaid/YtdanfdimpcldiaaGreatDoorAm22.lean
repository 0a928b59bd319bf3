/-
  Proves facts on orders of a region whose order is drawn. Each theorem states its own conditions; there are no others.
-/
import Derived.Test.YtdanfdimpcldiaaGreatDoorAm21
set_option linter.unusedSimpArgs false
set_option linter.unusedVariables false
set_option linter.unusedVariables false
set_option linter.unusedSimpArgs false
set_option linter.unusedSectionVars false
namespace Go.Am
variable [Base]
variable {E : Env}

/-! ### What comes ahead -/
theorem maskFold_bit (acc : List Nat) (m : Nat) : ∀ (es : List Edge) (s : Nat), (es.foldl (fun s e => if Region.binds .any e then s ||| 2 ^ e.on ||| acc.getD e.on 0 else s) s).testBit m = true →
    s.testBit m = true ∨ ∃ e ∈ es, Region.binds .any e = true ∧ (e.on = m ∨ (acc.getD e.on 0).testBit m = true)
  | [], s, h => .inl h
  | e :: es, s, h => by
    simp only [List.foldl_cons] at h
    rcases maskFold_bit acc m es _ h with h1 | ⟨e', he', hb, h2⟩
    · split at h1
      · rename_i hb
        simp only [Nat.testBit_or, Bool.or_eq_true, Nat.testBit_two_pow, decide_eq_true_eq] at h1
        rcases h1 with (h1 | h1) | h1
        · exact .inl h1
        · exact .inr ⟨e, by simp, hb, .inl h1⟩
        · exact .inr ⟨e, by simp, hb, .inr h1⟩
      · exact .inl h1
    · exact .inr ⟨e', by simp [he'], hb, h2⟩
theorem maskOf_bit {acc : List Nat} {o : Oper} {m : Nat} (h : (maskOf acc o).testBit m = true) : ∃ e ∈ o.after.toList, Region.binds .any e = true ∧ (e.on = m ∨ (acc.getD e.on 0).testBit m = true) := by
  rcases maskFold_bit acc m _ _ h with h1 | h1
  · simp at h1
  · exact h1
theorem masks_cons (o : Oper) (r : List Oper) (acc : List Nat) : masks (o :: r) acc = masks r (acc ++ [maskOf acc o]) := by
  simp only [masks]
  split <;> rename_i h <;> rw [h]
theorem masks_prefix : ∀ (l : List Oper) (acc : List Nat) (i : Nat), i < acc.length → (masks l acc)[i]? = acc[i]?
  | [], acc, i, _ => rfl
  | o :: r, acc, i, hi => by
    rw [masks_cons, masks_prefix r _ i (by simp; omega), List.getElem?_append_left hi]
theorem masks_get : ∀ (l : List Oper) (acc : List Nat) (i : Nat) (o : Oper), l[i]? = some o → ∃ acc', (∀ j, j < acc.length + i → acc'[j]? = (masks l acc)[j]?) ∧ acc'.length = acc.length + i ∧ (masks l acc)[acc.length + i]? = some (maskOf acc' o)
  | [], acc, i, o, h => by simp at h
  | o :: r, acc, 0, o', h => by
    simp at h; subst h
    refine ⟨acc, fun j hj => ?_, by simp, ?_⟩
    · rw [masks_prefix _ _ _ (by omega)]
    · rw [masks_cons, masks_prefix _ _ _ (by simp)]; simp
  | o :: r, acc, i + 1, o', h => by
    obtain ⟨acc', h1, h2, h3⟩ := masks_get r (acc ++ [maskOf acc o]) i o' (by simpa using h)
    rw [masks_cons]
    simp at h1 h2 h3
    refine ⟨acc', fun j hj => h1 j (by omega), by omega, ?_⟩
    rw [← h3]; congr 1; omega

/-- A set of operations that holds whatever comes ahead of one of its own. -/
def Down (ops : Array Oper) (S : Nat → Prop) : Prop := ∀ (i : Nat) (o : Oper), ops[i]? = some o → S i → ∀ e ∈ o.after.toList, Region.binds .any e = true → S e.on
def EdgesIn (ops : Array Oper) (S : Nat → Prop) (i : Nat) : Prop := ∀ (o : Oper), ops[i]? = some o → ∀ e ∈ o.after.toList, Region.binds .any e = true → S e.on

theorem befOf_get {ops : Array Oper} {i : Nat} {o : Oper} (ho : ops[i]? = some o) : ∃ acc', (∀ j, j < i → acc'.getD j 0 = befOf ops j) ∧ acc'.length = i ∧ befOf ops i = maskOf acc' o := by
  obtain ⟨acc', h1, h2, h3⟩ := masks_get ops.toList [] i o (by simpa using ho)
  simp at h1 h2 h3
  refine ⟨acc', fun j hj => ?_, h2, ?_⟩
  · simp only [befOf, List.getD_eq_getElem?_getD]; rw [h1 j hj]
  · simp only [befOf, List.getD_eq_getElem?_getD]; rw [h3]; rfl

theorem drawOk_edge {ops : Array Oper} (hok : drawOk ops = true) {i : Nat} {o : Oper} (ho : ops[i]? = some o) {e : Edge} (he : e ∈ o.after.toList) (hb : Region.binds .any e = true) : e.on < i := by
  unfold drawOk at hok
  have := (List.all_eq_true.1 hok) (o, i) (by rw [List.mem_zipIdx_iff_getElem?]; simpa using ho)
  simp only [Bool.and_eq_true] at this
  have := (List.all_eq_true.1 this.1) e he
  simpa [hb] using this
theorem drawOk_apart {ops : Array Oper} (hok : drawOk ops = true) {i j : Nat} {o o' : Oper} (ho : ops[i]? = some o) (ho' : ops[j]? = some o') (hij : j < i) : Oper.apart ops o' o = true ∨ (befOf ops i).testBit j = true := by
  unfold drawOk at hok
  have := (List.all_eq_true.1 hok) (o, i) (by rw [List.mem_zipIdx_iff_getElem?]; simpa using ho)
  simp only [Bool.and_eq_true] at this
  have := (List.all_eq_true.1 this.2) (o', j) (by
    rw [List.mem_zipIdx_iff_getElem?]
    simp only [List.getElem?_take, hij, if_true]
    simpa using ho')
  simpa using this

theorem bef_in {ops : Array Oper} (hok : drawOk ops = true) {S : Nat → Prop} (hS : Down ops S) : ∀ (i : Nat) {m : Nat}, EdgesIn ops S i → (befOf ops i).testBit m = true → S m := by
  intro i
  induction i using Nat.strongRecOn with
  | _ i ih =>
    intro m hE hb
    cases ho : ops[i]? with
    | none =>
      have : befOf ops i = 0 := by
        have hlen : (masks ops.toList []).length = ops.size := by
          have gen : ∀ (l : List Oper) (acc : List Nat), (masks l acc).length = acc.length + l.length := by
            intro l
            induction l with
            | nil => intro acc; simp [masks]
            | cons o r ih => intro acc; rw [masks_cons, ih]; simp; omega
          rw [gen]; simp
        have : ops.size ≤ i := by simpa using ho
        simp only [befOf, List.getD_eq_getElem?_getD]
        rw [List.getElem?_eq_none (by omega)]; rfl
      rw [this] at hb; simp at hb
    | some o =>
      obtain ⟨acc', h1, h2, h3⟩ := befOf_get ho
      rw [h3] at hb
      obtain ⟨e, he, hbd, h4⟩ := maskOf_bit hb
      have hlt := drawOk_edge hok ho he hbd
      have hSe := hE o ho e he hbd
      rcases h4 with rfl | h4
      · exact hSe
      · rw [h1 _ hlt] at h4
        exact ih e.on hlt (fun o' ho' e' he' hb' => hS e.on o' ho' hSe e' he' hb') h4
theorem bef_of {ops : Array Oper} (hok : drawOk ops = true) {S : Nat → Prop} (hS : Down ops S) {i m : Nat} (hi : S i) (hb : (befOf ops i).testBit m = true) : S m :=
  bef_in hok hS i (fun o ho e he hbd => hS i o ho hi e he hbd) hb

/-! ### The run in the order of the text -/
inductive DK where
  | skip
  | pure (v : AV)
  | read (v : AV)
  | alloc (v : AV) (obj : AObj)
  | eff

def Stp (E : Env) (call : CallF) (round : RoundF) (ops : Array Oper) (base : Nat) (o : Oper) (i : Nat) (st : St) (k : DK) (st' : St) : Prop :=
  match k with
  | .skip => wantedA ops st.n st.rg o = some false ∧ st' = { st with rg := putA st.rg o.dst nil' }
  | .pure v => wantedA ops st.n st.rg o = some true ∧ clsOf E o = .pure ∧ (∀ h, opA E st.rg h o = some (.val v, h)) ∧ st' = { st with rg := putA st.rg o.dst v }
  | .read v => wantedA ops st.n st.rg o = some true ∧ clsOf E o = .read ∧ (∀ h, st.h.le h → opA E st.rg h o = some (.val v, h)) ∧ st' = { st with rg := putA st.rg o.dst v }
  | .alloc v obj => wantedA ops st.n st.rg o = some true ∧ clsOf E o = .alloc ∧ (∃ v0 h2, opA E st.rg st.h o = some (.val v0, h2) ∧ h2.get st.h.next = some obj ∧ reid (base + i) v0 = some v) ∧
      st.h.get (base + i) = none ∧ st' = { st with rg := putA st.rg o.dst v, h := st.h.set (base + i) obj }
  | .eff => wantedA ops st.n st.rg o = some true ∧ ∃ r, opA E st.rg st.h o = some r ∧ resA call round o.dst st r = some (none, st')

/-- Reading as at place i. -/
def ReadsAt (E : Env) (ops : Array Oper) (h : AHeap) (rg : T AV) (i : Nat) (v : AV) : Prop := ∀ o, ops[i]? = some o → ∀ h', h.le h' → opA E rg h' o = some (.val v, h')

structure Trace (E : Env) (call : CallF) (round : RoundF) (ops : Array Oper) (base : Nat) (σ : Nat → St) (κ : Nat → DK) (lo hi : Nat) : Prop where
  stp : ∀ i, lo ≤ i → i < hi → ∃ o, ops[i]? = some o ∧ Stp E call round ops base o i (σ i) (κ i) (σ (i + 1))
  rb : ∀ e i v, lo ≤ e → e < i → i < hi → κ e = .eff → κ i = .read v → (befOf ops i).testBit e = true ∨ ReadsAt E ops (σ e).h (σ i).rg i v
  ra : ∀ i e v, lo ≤ i → i < e → e < hi → κ i = .read v → κ e = .eff → (befOf ops e).testBit i = true ∨ ReadsAt E ops (σ (e + 1)).h (σ i).rg i v
  ee : ∀ e f, lo ≤ e → e < f → f < hi → κ e = .eff → κ f = .eff → (befOf ops f).testBit e = true

/-- What is asked of what was before. -/
structure Before (E : Env) (ops : Array Oper) (σ : Nat → St) (κ : Nat → DK) (sn : List Snap) (rd : List Rd) (lo hi : Nat) : Prop where
  sr : ∀ s ∈ sn, ∀ i v, lo ≤ i → i < hi → κ i = .read v → (befOf ops i).testBit s.idx = true ∨ ReadsAt E ops s.h (σ i).rg i v
  se : ∀ s ∈ sn, ∀ i, lo ≤ i → i < hi → κ i = .eff → (befOf ops i).testBit s.idx = true
  re : ∀ r ∈ rd, ∀ i, lo ≤ i → i < hi → κ i = .eff → (befOf ops i).testBit r.idx = true ∨ ∀ h', (σ (i + 1)).h.le h' → opA E r.rg h' r.o = some (.val r.v, h')

def EndsAt (E : Env) (call : CallF) (round : RoundF) (ops : Array Oper) (σ : Nat → St) (κ : Nat → DK) (sn : List Snap) (lo m : Nat) (x : AExit) (st' : St) : Prop :=
  (x = .nrm ∧ m = ops.size ∧ st' = σ m) ∨
  (∃ v o r st2, x = .pan v ∧ ops[m]? = some o ∧ wantedA ops (σ m).n (σ m).rg o = some true ∧ opA E (σ m).rg (σ m).h o = some r ∧ resA call round o.dst (σ m) r = some (some v, st2) ∧
    st' = { st2 with rg := ops.foldl (fun r o => match o.dst with | some d => r.del d | none => r) (σ m).rg } ∧ (∀ s ∈ sn, (befOf ops m).testBit s.idx = true) ∧ (∀ e, lo ≤ e → e < m → κ e = .eff → (befOf ops m).testBit e = true) ∧
    (∀ j, m < j → j < ops.size → (befOf ops j).testBit m = true))

theorem sameRead_spec {h : AHeap} {rg : T AV} {o : Oper} {v : AV} (hc : clsOf E o = .read) (hs : sameRead E h rg o v = true) : ∀ h', h.le h' → opA E rg h' o = some (.val v, h') := by
  unfold sameRead at hs
  split at hs
  · rename_i v' h2 hop
    have := (AV.beq_iff _ _).1 hs
    subst this
    exact fun h' hle => (opA_read hc hop hle).1
  · simp at hs
end Go.Am
