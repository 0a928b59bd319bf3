/-
  Proves that reads may stand in any order ahead of what they do not hang on. Each theorem states its own conditions; there are no others.
-/
import Derived.Test.YtdanfdimpcldiaaGreatDoorAm24
set_option linter.unusedSimpArgs false
set_option linter.unusedVariables false
set_option linter.unusedVariables false
set_option linter.unusedSimpArgs false
set_option linter.unusedSectionVars false
namespace Go.Am
variable [Base]
variable {E : Env}

/-! ### The registers that an operation looks at -/
noncomputable def restr (rg : T AV) : List Tmp → T AV
  | [] => .nil
  | t :: ts => match rg.get t with
    | some v => (restr rg ts).set v t
    | none => restr rg ts
theorem restr_get (rg : T AV) (t : Tmp) : ∀ ts : List Tmp, (restr rg ts).get t = if t ∈ ts then rg.get t else none
  | [] => by simp [restr, T.get]
  | u :: ts => by
    simp only [restr]
    split
    · rename_i v hv
      rw [T.get_set, restr_get rg t ts]
      by_cases e : t = u
      · subst e; simp [hv]
      · simp [e]
    · rename_i hv
      rw [restr_get rg t ts]
      by_cases e : t = u
      · subst e; simp [hv]
      · simp [e]
theorem opA_restr {ops : Array Oper} {rg : T AV} {h : AHeap} {o : Oper} : opA E (restr rg (o.looksAt ops)) h o = opA E rg h o := by
  refine opA_congr fun x hx => ?_
  cases x with
  | tmp t =>
    simp only [evA, restr_get]
    rw [if_pos]
    exact List.mem_append_left _ (List.mem_filterMap.2 ⟨.tmp t, hx, rfl⟩)
  | _ => rfl
theorem wantedA_restr {ops : Array Oper} {n : Nat} {rg : T AV} {o : Oper} : wantedA ops n (restr rg (o.looksAt ops)) o = wantedA ops n rg o := by
  unfold wantedA
  cases hg : o.guard with
  | none => rfl
  | some q =>
    obtain ⟨j, want⟩ := q
    simp only
    cases hd : (ops[j]?).bind (·.dst) with
    | none => rfl
    | some d =>
      have hmem : d ∈ o.looksAt ops := by
        unfold Oper.looksAt
        simp [hg, hd]
      simp only [restr_get, hmem, if_true]

/-! ### What holds when the operations of S have been carried out, in whatever order -/
structure Inv (call : CallF) (round : RoundF) (ops : Array Oper) (base : Nat) (σ : Nat → St) (κ : Nat → DK) (m : Nat) (h₀ : AHeap) (ι₀ : Inj) (w₀ : World) (S : Nat → Prop) (a : Act) (w : World) (e : Nat) (ι : Inj) : Prop where
  b0 : Base.w.heap.size ≤ w₀.heap.size
  em : e ≤ m
  e1 : ∀ f, f < e → κ f = .eff → S f
  e2 : ∀ f, e ≤ f → f < m → κ f = .eff → ¬ S f
  e3 : e < m → κ e = .eff
  sm : ∀ j, S j → j < m
  down : Down ops S
  rel : Ext ι₀ h₀ w₀ (cutI ι base ops.size e) (σ e).h w
  nx : base + ops.size ≤ (σ e).h.next
  early : ∀ j v obj, S j → e ≤ j → κ j = .alloc v obj → ∃ L, ι (base + j) = some L ∧ obj.gone = false ∧ ORel ((cutI ι base ops.size j).add (base + j) L) obj L w ∧ w₀.heap.size ≤ L.b ∧ L.b < w.heap.size ∧ ∀ i L', i ≠ base + j → ι i = some L' → L'.b ≠ L.b
  out : ∀ j, j < ops.size → ι (base + j) ≠ none → S j ∧ ∃ v obj, κ j = .alloc v obj
  late : ∀ j v obj, j < e → κ j = .alloc v obj → ¬ S j → (σ e).h.get (base + j) = some obj
  non : ∀ j, e ≤ j → j < ops.size → (σ e).h.get (base + j) = none
  reg : ∀ t i, i ≤ m → (∀ j, j < i → Writes ops j t → S j) → (∀ j, i ≤ j → Writes ops j t → ¬ S j) → ∀ x, (σ i).rg.get t = some x → ∃ y, a.tmps[t]? = some y ∧ VRel (cutI ι base ops.size (max i e)) x y
  sz : a.tmps.size = (σ 0).n
  ds : DsRel (cutI ι base ops.size e) (σ e).ds a.defers

section
variable {call : CallF} {round : RoundF} {ops : Array Oper} {base : Nat} {σ : Nat → St} {κ : Nat → DK} {m : Nat} {h₀ : AHeap} {ι₀ : Inj} {w₀ : World} {S : Nat → Prop} {a : Act} {w : World} {e : Nat} {ι : Inj}

theorem Inv.ready (hI : Inv call round ops base σ κ m h₀ ι₀ w₀ S a w e ι) (hok : drawOk ops = true) {k q : Nat} (hk : EdgesIn ops S k) (hb : (befOf ops k).testBit q = true) : S q := bef_in hok hI.down k hk hb
theorem Inv.past (hI : Inv call round ops base σ κ m h₀ ι₀ w₀ S a w e ι) (hok : drawOk ops = true) {k q : Nat} (hk : S k) (hb : (befOf ops k).testBit q = true) : S q := bef_of hok hI.down hk hb

/-- The registers that operation k looks at. -/
theorem Inv.regs (hI : Inv call round ops base σ κ m h₀ ι₀ w₀ S a w e ι) (hok : drawOk ops = true) {k : Nat} {o : Oper} (hk : EdgesIn ops S k) (hkS : ¬ S k) (hkm : k ≤ m) (ho : ops[k]? = some o) :
    RegRel (cutI ι base ops.size (max k e)) (restr (σ k).rg (o.looksAt ops)) a.tmps := by
  intro t x hx
  rw [restr_get] at hx
  split at hx
  · rename_i ht
    refine hI.reg t k hkm (fun j hj hw => ?_) (fun j hj hw hS => ?_) x hx
    · exact hI.ready hok hk ((conflict hok hw ho (.inl ht) (by omega)).1 hj)
    · rcases Nat.eq_or_lt_of_le hj with rfl | hj
      · exact hkS hS
      · exact hkS (hI.past hok hS ((conflict hok hw ho (.inl ht) (by omega)).2 hj))
  · cases hx

/-- The registers when operation k has been carried out. -/
theorem Inv.regStep (hI : Inv call round ops base σ κ m h₀ ι₀ w₀ S a w e ι) (hT : Trace E call round ops base σ κ 0 m) (hok : drawOk ops = true) {k : Nat} {o : Oper} (hk : EdgesIn ops S k) (hkS : ¬ S k) (hkm : k < m) (ho : ops[k]? = some o)
    {ι' : Inj} {e' : Nat} (hle : ∀ c, (cutI ι base ops.size (max c e)).le (cutI ι' base ops.size (max c e'))) (hle2 : ∀ c c', c ≤ c' → (cutI ι' base ops.size (max c e')).le (cutI ι' base ops.size (max c' e'))) {v : AV} {y : Value} (hv : VRel (cutI ι' base ops.size (max (k + 1) e')) v y) (hrg : (σ (k + 1)).rg = putA (σ k).rg o.dst v)
    (hd : dstOk a.tmps.size o.dst = true) {ds : List Deferred} :
    ∀ t i, i ≤ m → (∀ j, j < i → Writes ops j t → (j = k ∨ S j)) → (∀ j, i ≤ j → Writes ops j t → ¬ (j = k ∨ S j)) → ∀ x, (σ i).rg.get t = some x → ∃ z, (({ a with defers := ds } : Act).put o.dst y).tmps[t]? = some z ∧ VRel (cutI ι' base ops.size (max i e')) x z := by
  intro t i hi h1 h2 x hx
  by_cases ht : o.dst = some t
  · have hwk : Writes ops k t := ⟨o, ho, ht⟩
    have hki : k < i := by
      rcases Nat.lt_or_ge k i with h | h
      · exact h
      · exact absurd (.inl rfl) (h2 k h hwk)
    have hq := hT.quiet (t := t) (lo := k + 1) i (by omega) hi (fun j g1 g2 hw => by
      have := h1 j g2 hw
      rcases this with rfl | hS
      · omega
      · exact hkS (hI.past hok hS ((conflict hok hw ho (.inr ht) (by omega)).2 (by omega))))
    rw [hq, hrg, ht] at hx
    simp only [putA, T.get_set, if_true, Option.some.injEq] at hx
    subst hx
    rw [ht] at hd
    simp [dstOk] at hd
    refine ⟨y, ?_, hv.mono (hle2 _ _ (by omega))⟩
    rw [ht]; simp [Act.put, hd]
  · obtain ⟨z, hz, hr⟩ := hI.reg t i hi (fun j g hw => by
      rcases h1 j g hw with rfl | h
      · obtain ⟨o', ho', hd'⟩ := hw; rw [ho] at ho'; cases ho'; exact absurd hd' ht
      · exact h) (fun j g hw hS => h2 j g hw (.inr hS)) x hx
    refine ⟨z, ?_, hr.mono (hle i)⟩
    cases hd' : o.dst with
    | none => exact hz
    | some d =>
      simp only [Act.put]
      rw [Array.getElem?_setIfInBounds_ne (fun e => ht (by rw [hd', e]))]
      exact hz

theorem down_step (hS : Down ops S) {k : Nat} (hk : EdgesIn ops S k) : Down ops (fun j => j = k ∨ S j) := fun i o ho hi e he hb => by
  rcases hi with rfl | hi
  · exact .inr (hk o ho e he hb)
  · exact .inr (hS i o ho hi e he hb)

/-- A value alone. -/
theorem Inv.put (hI : Inv call round ops base σ κ m h₀ ι₀ w₀ S a w e ι) (hT : Trace E call round ops base σ κ 0 m) (hok : drawOk ops = true) {k : Nat} {o : Oper} (hk : EdgesIn ops S k) (hkS : ¬ S k) (hkm : k < m) (ho : ops[k]? = some o)
    (hne : κ k ≠ .eff) (hna : ∀ v obj, κ k ≠ .alloc v obj) {v : AV} {y : Value} (hv : VRel (cutI ι base ops.size (max k e)) v y) (hrg : (σ (k + 1)).rg = putA (σ k).rg o.dst v) (hd : dstOk a.tmps.size o.dst = true) :
    Inv call round ops base σ κ m h₀ ι₀ w₀ (fun j => j = k ∨ S j) (a.put o.dst y) w e ι where
  b0 := hI.b0
  em := hI.em
  e1 f hf hk' := .inr (hI.e1 f hf hk')
  e2 f h1 h2 h3 hS := by
    rcases hS with rfl | hS
    · exact hne h3
    · exact hI.e2 f h1 h2 h3 hS
  e3 := hI.e3
  sm j hj := by rcases hj with rfl | hj; exact hkm; exact hI.sm j hj
  down := down_step hI.down hk
  rel := hI.rel
  nx := hI.nx
  early j v obj hj he hk' := by
    rcases hj with rfl | hj
    · exact absurd hk' (hna v obj)
    · exact hI.early j v obj hj he hk'
  out j hj h := let ⟨h1, h2⟩ := hI.out j hj h; ⟨.inr h1, h2⟩
  late j v obj hj hk' hS := hI.late j v obj hj hk' fun h => hS (.inr h)
  non := hI.non
  reg := hI.regStep hT hok hk hkS hkm ho (fun c => fun _ _ h => h) (fun c c' h => cutI_le (by omega)) (hv.mono (cutI_le (by omega))) hrg hd (ds := a.defers)
  sz := by rw [put_size]; exact hI.sz
  ds := by rw [put_defers']; exact hI.ds
end
end Go.Am
