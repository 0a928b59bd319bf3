/-
  Proves of the abstract machine's pure operations that they hang on the registers alone. Each theorem states its own conditions; there are no others.
-/
import Derived.Test.YtdanfdimpcldiaaGreatDoorAm15
set_option linter.unusedSimpArgs false
set_option linter.unusedVariables false
set_option linter.unusedVariables false
set_option linter.unusedSimpArgs false
namespace Go.Am
variable {E : Env}

/-! ### An operation looks at its operands alone -/
theorem evAs_congr {rg rg' : T AV} : ∀ {xs : List Operand}, (∀ x ∈ xs, evA rg x = evA rg' x) → evAs rg xs = evAs rg' xs
  | [], _ => rfl
  | x :: xs, h => by simp only [evAs]; rw [h x (by simp), evAs_congr fun y hy => h y (by simp [hy])]
theorem evParts_congr {rg rg' : T AV} : ∀ {xs : List (Nat × Operand)}, (∀ x ∈ xs, evA rg x.2 = evA rg' x.2) → evParts rg xs = evParts rg' xs
  | [], _ => rfl
  | (i, x) :: xs, h => by simp only [evParts]; rw [h (i, x) (by simp), evParts_congr fun y hy => h y (by simp [hy])]
theorem boundsA_congr {rg rg' : T AV} {len cap : Nat} {lo hi : Option Operand} (h1 : ∀ x, lo = some x → evA rg x = evA rg' x) (h2 : ∀ x, hi = some x → evA rg x = evA rg' x) : boundsA rg len cap lo hi = boundsA rg' len cap lo hi := by
  cases lo with
  | none => cases hi with
    | none => rfl
    | some x => simp only [boundsA, h2 x rfl]
  | some y => cases hi with
    | none => simp only [boundsA, h1 y rfl]
    | some x => simp only [boundsA, h1 y rfl, h2 x rfl]

theorem opA_congr {rg rg' : T AV} {h : AHeap} {o : Oper} (hx : ∀ x ∈ o.op.operands.toList, evA rg x = evA rg' x) : opA E rg h o = opA E rg' h o := by
  cases ho : o.op <;> simp only [ho, Op.operands] at hx
  case call c =>
    simp only [opA, ho]
    have h1 : evAs rg c.args.toList = evAs rg' c.args.toList := evAs_congr fun x hm => hx x (by simp only [Call.operands, Array.toList_append, List.mem_append]; exact .inr hm)
    rw [h1]
    cases hc : c.callee with
    | value f =>
      have h2 : evA rg f = evA rg' f := hx f (by simp [Call.operands, hc])
      cases evAs rg' c.args.toList with
      | none => rfl
      | some args => simp only [h2]
    | _ => rfl
  case defer c =>
    simp only [opA, ho]
    have h1 : evAs rg c.args.toList = evAs rg' c.args.toList := evAs_congr fun x hm => hx x (by simp only [Call.operands, Array.toList_append, List.mem_append]; exact .inr hm)
    rw [h1]
    cases hc : c.callee with
    | value f =>
      have h2 : evA rg f = evA rg' f := hx f (by simp [Call.operands, hc])
      cases evAs rg' c.args.toList with
      | none => rfl
      | some args => simp only [h2]
    | _ => cases evAs rg' c.args.toList <;> rfl
  case next x b =>
    cases b with
    | true => simp only [opA, ho]
    | false =>
      simp only [opA, ho]
      rw [hx x (by simp)]
  case build t ps =>
    simp only [opA, ho]
    rw [evParts_congr (rg' := rg') fun x hm => hx x.2 (by simp; exact ⟨x.1, by simpa using hm⟩)]
  case buildSlice t n ps =>
    simp only [opA, ho]
    rw [evParts_congr (rg' := rg') fun x hm => hx x.2 (by simp; exact ⟨x.1, by simpa using hm⟩)]
  case makeFunc f first caps =>
    cases f <;> simp only [opA, ho]
    rw [evAs_congr (rg' := rg') fun x hm => hx x (by simp; right; simpa using hm)]
  case slice t x lo hi mx =>
    cases mx with
    | some m => simp only [opA, ho]
    | none =>
      have h0 : evA rg x = evA rg' x := hx x (by simp)
      have hb : ∀ a b, boundsA rg a b lo hi = boundsA rg' a b lo hi := fun a b => boundsA_congr (fun y hy => hx y (by simp [hy])) (fun y hy => hx y (by simp [hy]))
      simp only [opA, ho, h0, hb]
  case makeMap t r => cases r <;> simp only [opA, ho]
  all_goals
    simp at hx
    try simp only [opA, ho, hx]

/-! ### What an operation of each class asks of the heap -/
def AHeap.le (h h' : AHeap) : Prop := ∀ i x, h.get i = some x → h'.get i = some x
theorem AHeap.le_refl (h : AHeap) : h.le h := fun _ _ hx => hx
theorem AHeap.le_trans {h h1 h2 : AHeap} (a : h.le h1) (b : h1.le h2) : h.le h2 := fun i x hx => b i x (a i x hx)
theorem AHeap.le.loadCells {h h' : AHeap} (hle : h.le h') {i off n : Nat} {cs : List AV} (hl : h.loadCells i off n = some cs) : h'.loadCells i off n = some cs := by
  unfold AHeap.loadCells at hl ⊢
  split at hl
  · rename_i hg; rw [hle i _ hg]; exact hl
  · simp at hl
theorem AHeap.le.load1 {h h' : AHeap} (hle : h.le h') {i off : Nat} {v : AV} (hl : h.load1 i off = some v) : h'.load1 i off = some v := by
  unfold AHeap.load1 at hl ⊢
  split at hl
  · rename_i hg; rw [hle i _ hg]; exact hl
  · simp at hl
theorem AHeap.le.eqPtr {h h' : AHeap} (hle : h.le h') {p q : Nat × Nat} {b : Bool} (hl : Am.eqPtr h p q = some b) : Am.eqPtr h' p q = some b := by
  unfold Am.eqPtr at hl ⊢
  split at hl
  · rename_i h1 h2; rw [hle _ _ h1, hle _ _ h2]; exact hl
  · simp at hl
theorem AHeap.le.eqA {h h' : AHeap} (hle : h.le h') {t : TypeId} {c : Bool} {x y : AV} {b : Bool} (hl : Am.eqA E h t c x y = some b) : Am.eqA E h' t c x y = some b := by
  cases x <;> cases y <;> try exact hl
  case slice.slice a n b m => cases b <;> exact hl
  case map.map a b => cases b <;> exact hl
  case ptr.ptr p q =>
    simp only [Am.eqA] at hl ⊢
    cases hu : E.und t with
    | none => simp [hu] at hl
    | some d =>
      cases d <;> simp only [hu] at hl ⊢ <;> try exact hl
      cases p <;> cases q <;> try exact hl
      rename_i e p q
      cases hs : E.siz e with
      | none => simp [hs] at hl
      | some n =>
        cases n with
        | zero => simp [hs] at hl
        | succ n => simp only [hs] at hl ⊢; exact hle.eqPtr hl
theorem AHeap.le.binA {h h' : AHeap} (hle : h.le h') {op : BinOp} {t : TypeId} {c : Bool} {x y v : AV} (hl : Am.binA E h op t c x y = some v) : Am.binA E h' op t c x y = some v := by
  revert hl
  unfold Am.binA
  split
  · exact id
  · exact id
  · rename_i h1 h2
    intro hl
    have key : ∀ f : Bool → AV, (Am.eqA E h t c x y).map f = some v → (Am.eqA E h' t c x y).map f = some v := fun f hf => by
      cases he : Am.eqA E h t c x y with
      | none => simp [he] at hf
      | some b => rw [hle.eqA he]; rw [he] at hf; exact hf
    cases op <;> first | exact key _ hl | exact hl
theorem AHeap.le.keyEq {h h' : AHeap} (hle : h.le h') {x y : AV} {b : Bool} (hl : Am.keyEq h x y = some b) : Am.keyEq h' x y = some b := by
  unfold Am.keyEq at hl ⊢
  split <;> first | exact hl | exact hle.eqPtr hl | simp at hl
theorem AHeap.le.findA {h h' : AHeap} (hle : h.le h') {k : AV} : ∀ {es : List (AV × AV)} {n : Nat} {r : Option (Nat × AV)}, Am.findA h k es n = some r → Am.findA h' k es n = some r
  | [], n, r, hl => hl
  | e :: es, n, r, hl => by
    simp only [Am.findA] at hl ⊢
    cases hk : Am.keyEq h k e.1 with
    | none => simp [hk] at hl
    | some b =>
      rw [hle.keyEq hk]
      rw [hk] at hl
      cases b with
      | true => exact hl
      | false => exact hle.findA hl
theorem AHeap.le.ents {h h' : AHeap} (hle : h.le h') {m : Option Nat} {es : List (AV × AV)} (hl : h.ents m = some es) : h'.ents m = some es := by
  cases m with
  | none => exact hl
  | some r =>
    simp only [AHeap.ents] at hl ⊢
    split at hl
    · rename_i hg; rw [hle _ _ hg]; exact hl
    · simp at hl

theorem AHeap.le.lenA {h h' : AHeap} (hle : h.le h') {t : TypeId} {x z : AV} (hl : Am.lenA E h t x = some z) : Am.lenA E h' t x = some z := by
  unfold Am.lenA at hl ⊢
  split at hl
  · simp_all
  · simp_all
  · simp_all
  · simp_all
  · rename_i kt vt r hu
    split at hl
    · rename_i hg
      try rw [hu]
      simp only [hle _ _ hg]; exact hl
    · simp at hl
  · simp at hl
/-- A pure operation looks at no object and leaves the heap. -/
theorem opA_pure {rg : T AV} {h h' : AHeap} {o : Oper} {v : AV} (hc : clsOf E o = .pure) (hop : opA E rg h o = some (.val v, h')) : ∀ h2, opA E rg h2 o = some (.val v, h2) := by
  intro h2
  cases ho : o.op <;> simp only [clsOf, ho] at hc <;> first | contradiction | skip
  case call c =>
    cases hcal : c.callee with
    | value f => rw [hcal] at hc; simp at hc
    | invoke r m => rw [hcal] at hc; simp at hc
    | builtin b =>
      rw [hcal] at hc
      simp only [opA, ho, hcal] at hop ⊢
      cases hargs : evAs rg c.args.toList with
      | none => simp [hargs] at hop
      | some args =>
        simp only [hargs] at hop ⊢
        cases b <;> first | (simp at hc; done) | skip
        all_goals
          split at hop
          all_goals first | contradiction | (simp at hop; done) | (simp only [Option.some.injEq, Prod.mk.injEq, ORes.val.injEq] at hop ⊢; exact ⟨hop.1, trivial⟩)
  case convert s d x =>
    simp only [opA, ho] at hop ⊢
    repeat' split at hop
    all_goals first | (simp at hop; done) | (simp at hop; obtain ⟨rfl, rfl⟩ := hop; simp_all)
  all_goals
    simp only [opA, ho] at hop ⊢
    repeat' split at hop
    all_goals first | (simp at hop; done) | (simp at hop; obtain ⟨rfl, rfl⟩ := hop; simp_all)
/-- A read leaves the heap, and reads the same where there is more. -/
theorem opA_read {rg : T AV} {h h' h2 : AHeap} {o : Oper} {v : AV} (hc : clsOf E o = .read) (hop : opA E rg h o = some (.val v, h')) (hle : h.le h2) : opA E rg h2 o = some (.val v, h2) ∧ h' = h := by
  cases ho : o.op <;> simp only [clsOf, ho] at hc <;> first | contradiction | skip
  case call c =>
    cases hcal : c.callee with
    | value f => rw [hcal] at hc; simp at hc
    | invoke r m => rw [hcal] at hc; simp at hc
    | builtin b =>
      rw [hcal] at hc
      simp only [opA, ho, hcal] at hop ⊢
      cases hargs : evAs rg c.args.toList with
      | none => simp [hargs] at hop
      | some args =>
        simp only [hargs] at hop ⊢
        cases b <;> first | (simp at hc; done) | skip
        match args, hop with
        | [], hop => simp at hop
        | _ :: _ :: _, hop => simp at hop
        | [x], hop =>
          simp only at hop ⊢
          split at hop
          · rename_i t ht
            split at hop
            · rename_i v' hv'
              simp at hop; obtain ⟨rfl, rfl⟩ := hop
              simp only [ht, hle.lenA hv']
              exact ⟨trivial, trivial⟩
            · simp at hop
          · simp at hop
  case convert s d x => split at hc <;> simp at hc
  case binOp op t x y u =>
    simp only [opA, ho] at hop ⊢
    split at hop
    · rename_i a b ha hb
      split at hop
      · rename_i v' hv'
        simp at hop; obtain ⟨rfl, rfl⟩ := hop
        simp only [ha, hb, hle.binA hv']
        exact ⟨trivial, trivial⟩
      · simp at hop
    · simp at hop
  case load t x =>
    simp only [opA, ho] at hop ⊢
    split at hop
    · rename_i i off hx
      split at hop
      · rename_i n h1 h3
        split at hop
        · rename_i cs hl
          simp at hop; obtain ⟨rfl, rfl⟩ := hop
          simp only [hx, h1, h3, hle.loadCells hl]
          exact ⟨trivial, trivial⟩
        · simp at hop
      · rename_i n h1 h3
        split at hop
        · rename_i v' hl
          simp at hop; obtain ⟨rfl, rfl⟩ := hop
          simp only [hx, h1, h3, hle.load1 hl]
          exact ⟨trivial, trivial⟩
        · simp at hop
      · simp at hop
    · simp at hop
  case lookup t x ix ok =>
    simp only [opA, ho] at hop ⊢
    split at hop
    · rename_i kt vt m k hu hx hk
      try simp only [hu, hx, hk]
      split at hop
      · rename_i hko
        rw [if_pos hko]
        split at hop
        · rename_i es hes
          simp only [hle.ents hes]
          cases hf : findA h k es 0 with
          | none => simp [hf] at hop
          | some q =>
            simp only [hle.findA hf]
            rw [hf] at hop
            cases q with
            | some p => simp at hop ⊢; exact ⟨hop.1, hop.2.symm⟩
            | none =>
              try simp only at hop
              split at hop
              · rename_i h4; simp at h4
              · rename_i z ag h1 h3 h4
                split at hop
                · rename_i v' hv'
                  try simp only [h3, h4, hv']
                  simp at hop ⊢; exact ⟨hop.1, hop.2.symm⟩
                · simp at hop
              · simp at hop
        · simp at hop
      · simp at hop
    · simp at hop
  case slice t x lo hi mx =>
    cases mx with
    | some m => simp [opA, ho] at hop
    | none =>
      simp only [opA, ho] at hop ⊢
      split at hop
      · rename_i s hu hx
        split at hop
        · rename_i l r hb
          simp at hop; obtain ⟨rfl, rfl⟩ := hop
          simp only [hu, hx, hb]
          exact ⟨trivial, trivial⟩
        · simp at hop
      · rename_i e a len hu hx
        split at hop
        · rename_i s l r hs hb
          try simp only [hu, hx, hs, hb]
          cases a with
          | none => simp at hop ⊢; exact ⟨hop.1, hop.2.symm⟩
          | some p =>
            obtain ⟨i, off⟩ := p
            simp only at hop ⊢
            split at hop
            · rename_i rw es cs hg
              simp only [hle _ _ hg]
              split at hop
              · rename_i hcnd
                rw [if_pos hcnd]
                simp at hop ⊢; exact ⟨hop.1, hop.2.symm⟩
              · simp at hop
            · simp at hop
        · simp at hop
      · rename_i n e i off hu hx
        split at hop
        · rename_i s l r rw es cs hs hb hg
          simp only [hu, hx, hs, hb, hle _ _ hg]
          split at hop
          · rename_i hcnd
            rw [if_pos hcnd]
            simp at hop ⊢; exact ⟨hop.1, hop.2.symm⟩
          · simp at hop
        · simp at hop
      · simp at hop
end Go.Am
