/-
  Proves the steps of a region whose order is drawn. Each theorem states its own conditions; there are no others.
-/
import Derived.Test.YtdanfdimpcldiaaGreatDoorAm25
set_option linter.unusedSimpArgs false
set_option linter.unusedVariables false
set_option linter.unusedVariables false
set_option linter.unusedSimpArgs false
set_option linter.unusedSectionVars false
namespace Go.Am
variable [Base]
variable {E : Env}

theorem cutI_mono {ι ι' : Inj} {base n c c' : Nat} (hle : ι.le ι') (h : c ≤ c') : (cutI ι base n c).le (cutI ι' base n c') := fun i L hi => by
  unfold cutI at hi ⊢
  split at hi
  · cases hi
  · rename_i hc; rw [if_neg (by omega)]; exact hle i L hi

open Classical in
noncomputable def addObjs (κ : Nat → DK) (S : Nat → Prop) (base : Nat) : List Nat → AHeap → AHeap
  | [], h => h
  | j :: js, h => match κ j with
    | .alloc _ obj => if S j then (addObjs κ S base js h).set (base + j) obj else addObjs κ S base js h
    | _ => addObjs κ S base js h
theorem addObjs_next (κ : Nat → DK) (S : Nat → Prop) (base : Nat) (h : AHeap) : ∀ js, (addObjs κ S base js h).next = h.next
  | [] => rfl
  | j :: js => by
    simp only [addObjs]
    split
    · split
      · exact addObjs_next κ S base h js
      · exact addObjs_next κ S base h js
    · exact addObjs_next κ S base h js
theorem addObjs_in (κ : Nat → DK) (S : Nat → Prop) (base : Nat) (h : AHeap) {j : Nat} {v : AV} {obj : AObj} (hk : κ j = .alloc v obj) (hS : S j) : ∀ js, j ∈ js → (addObjs κ S base js h).get (base + j) = some obj
  | [], hj => by cases hj
  | q :: js, hj => by
    simp only [addObjs]
    by_cases e : q = j
    · subst e
      simp only [hk, if_pos hS]
      simp [AHeap.get_set]
    · have hj' : j ∈ js := by rcases List.mem_cons.1 hj with h | h; exact absurd h.symm e; exact h
      have ih := addObjs_in κ S base h hk hS js hj'
      split
      · split
        · rw [AHeap.get_set, if_neg (by omega)]; exact ih
        · exact ih
      · exact ih
theorem addObjs_out (κ : Nat → DK) (S : Nat → Prop) (base : Nat) (h : AHeap) {i : Nat} : ∀ js, (∀ j ∈ js, i = base + j → ¬ (S j ∧ ∃ v obj, κ j = .alloc v obj)) → (addObjs κ S base js h).get i = h.get i
  | [], _ => rfl
  | q :: js, hj => by
    simp only [addObjs]
    have ih := addObjs_out κ S base h js (fun j hj' => hj j (by simp [hj']))
    split
    · rename_i v obj hk
      split
      · rename_i hS
        rw [AHeap.get_set, if_neg (fun e => hj q (by simp) e ⟨hS, v, obj, hk⟩)]; exact ih
      · exact ih
    · exact ih

section
variable {call : CallF} {round : RoundF} {ops : Array Oper} {base : Nat} {σ : Nat → St} {κ : Nat → DK} {m : Nat} {h₀ : AHeap} {ι₀ : Inj} {w₀ : World} {S : Nat → Prop} {a : Act} {w : World} {e : Nat} {ι : Inj}

theorem Inv.bnd (hI : Inv call round ops base σ κ m h₀ ι₀ w₀ S a w e ι) {i : Nat} {L : Loc} (hi : ι i = some L) : L.b < w.heap.size := by
  by_cases h : base + e ≤ i ∧ i < base + ops.size
  · obtain ⟨j, rfl⟩ : ∃ j, i = base + j := ⟨i - base, by omega⟩
    obtain ⟨hS, v, obj, hk⟩ := hI.out j (by omega) (by rw [hi]; simp)
    obtain ⟨L', h1, _, _, _, h2, _⟩ := hI.early j v obj hS (by omega) hk
    rw [hi] at h1; cases h1; exact h2
  · exact hI.rel.rel.bnd i L (by unfold cutI; rw [if_neg h]; exact hi)

/-- The heap at a place of the region. -/
theorem Inv.heapAt (hI : Inv call round ops base σ κ m h₀ ι₀ w₀ S a w e ι) {c : Nat} (hc : e ≤ c) (hcn : c ≤ ops.size) :
    ∃ G : AHeap, HRel (cutI ι base ops.size c) G w ∧ (σ e).h.le G ∧ (c = e → G = (σ e).h) := by
  refine ⟨addObjs κ S base (List.range' e (c - e)) (σ e).h, hI.rel.rel.addEarly (fun i => base + e ≤ i ∧ i < base + c) ?_ ?_ ?_ ?_ ?_ ?_, ?_, ?_⟩
  · intro i hi; unfold cutI
    by_cases h1 : base + c ≤ i ∧ i < base + ops.size
    · rw [if_pos h1, if_pos (by omega)]
    · rw [if_neg h1, if_neg (by omega)]
  · intro i hi
    refine ⟨?_, by have := hI.nx; omega⟩
    unfold cutI; rw [if_pos (by omega)]
  · intro i hi
    refine addObjs_out _ _ _ _ _ fun j hj e' => ?_
    simp at hj
    exact absurd ⟨by omega, by omega⟩ hi
  · exact addObjs_next _ _ _ _ _
  · intro i L hi hL
    obtain ⟨j, rfl⟩ : ∃ j, i = base + j := ⟨i - base, by omega⟩
    have hιj := cutI_sub _ _ hL
    obtain ⟨hS, v, obj, hk⟩ := hI.out j (by omega) (by rw [hιj]; simp)
    obtain ⟨L', h1, h2, h3, h4, h5, h6⟩ := hI.early j v obj hS (by omega) hk
    rw [hιj] at h1; cases h1
    refine ⟨obj, addObjs_in _ _ _ _ hk hS _ (by simp; omega), h2, h3.mono fun i Li hi' => ?_, h5, fun k L' hk' hL' => h6 k L' hk' (cutI_sub _ _ hL')⟩
    by_cases e1 : i = base + j
    · subst e1; rw [Inj.add_same] at hi'; cases hi'; exact hL
    · rw [Inj.add_other _ _ e1] at hi'
      exact cutI_le (by omega) i Li hi'
  · intro i L hi hL
    obtain ⟨j, rfl⟩ : ∃ j, i = base + j := ⟨i - base, by omega⟩
    have hιj := cutI_sub _ _ hL
    obtain ⟨hS, v, obj, hk⟩ := hI.out j (by omega) (by rw [hιj]; simp)
    obtain ⟨L', h1, _, _, h4, _, _⟩ := hI.early j v obj hS (by omega) hk
    rw [hιj] at h1; cases h1
    exact Nat.le_trans hI.b0 h4
  · intro i x hx
    rw [addObjs_out _ _ _ _ _ fun j hj e' => ?_]
    · exact hx
    · simp at hj
      subst e'
      rw [hI.non j (by omega) (by omega)] at hx; cases hx
  · intro h; subst h; simp [addObjs]

/-- A value that leaves the world. -/
theorem Inv.still (hE : E.Ok) (hI : Inv call round ops base σ κ m h₀ ι₀ w₀ S a w e ι) (hT : Trace E call round ops base σ κ 0 m) (hok : drawOk ops = true) (hmn : m ≤ ops.size) {k : Nat} {o : Oper} (hk : EdgesIn ops S k) (hkS : ¬ S k) (hkm : k < m) (ho : ops[k]? = some o)
    {v : AV} (hkk : κ k = .pure v ∨ κ k = .read v) : ∃ y, (execOp a.eval o).run E.P w = .ok (.value y) w ∧ VRel (cutI ι base ops.size (max k e)) v y := by
  have hem := hI.em
  obtain ⟨o', ho', hs⟩ := hT.stp k (Nat.zero_le _) hkm
  rw [ho] at ho'; cases ho'
  obtain ⟨G, hG, hle, heq⟩ := hI.heapAt (c := max k e) (by omega) (by omega)
  have hreg := hI.regs hok hk hkS (by omega) ho
  have hop : opA E (σ k).rg G o = some (.val v, G) ∧ (clsOf E o = .pure ∨ clsOf E o = .read) := by
    rcases hkk with hkk | hkk
    · rw [hkk] at hs
      obtain ⟨_, hc, h1, _⟩ := hs
      exact ⟨h1 G, .inl hc⟩
    · have hkk' := hkk
      rw [hkk] at hs
      obtain ⟨_, hc, h1, _⟩ := hs
      refine ⟨?_, .inr hc⟩
      rcases Nat.lt_trichotomy k e with hlt | heq' | hgt
      · have hGe := heq (by omega)
        subst hGe
        rcases prevEff κ k e with hno | ⟨f, h2, h3, h4, h5⟩
        · exact h1 _ (hT.seg (lo := k) e (by omega) hI.em hno).2.2.2.2
        · have hkf : k < f := by
            rcases Nat.eq_or_lt_of_le h2 with rfl | h; rw [hkk'] at h4; cases h4; exact h
          rcases hT.ra k f v (Nat.zero_le _) hkf (by omega) hkk' h4 with hb | hr
          · exact absurd (hI.past hok (hI.e1 f h3 h4) hb) hkS
          · exact hr o ho _ (hT.seg (lo := f + 1) e (by omega) hI.em (fun j g1 g2 => h5 j (by omega) g2)).2.2.2.2
      · subst heq'
        rw [hI.e3 hkm] at hkk'; cases hkk'
      · have he : κ e = .eff := hI.e3 (by omega)
        rcases hT.rb e k v (Nat.zero_le _) hgt hkm he hkk' with hb | hr
        · exact absurd (hI.ready hok hk hb) (hI.e2 e (Nat.le_refl _) (by omega) he)
        · exact hr o ho G hle
  have hop2 : opA E (restr (σ k).rg (o.looksAt ops)) G o = some (.val v, G) := by rw [opA_restr]; exact hop.1
  obtain ⟨v', y, hv', _, hrun, hrel⟩ := opA_still hE hreg hG hop.2 hop2
  cases hv'
  exact ⟨y, hrun, hrel⟩

/-- A new object. -/
theorem Inv.alloc (hE : E.Ok) (hI : Inv call round ops base σ κ m h₀ ι₀ w₀ S a w e ι) (hT : Trace E call round ops base σ κ 0 m) (hok : drawOk ops = true) (hmn : m ≤ ops.size) (hb0 : h₀.next ≤ base) {k : Nat} {o : Oper} (hk : EdgesIn ops S k) (hkS : ¬ S k) (hkm : k < m) (ho : ops[k]? = some o)
    {v : AV} {obj : AObj} (hkk : κ k = .alloc v obj) (hd : dstOk a.tmps.size o.dst = true) :
    ∃ y w' ι', (execOp a.eval o).run E.P w = .ok (.value y) w' ∧ Inv call round ops base σ κ m h₀ ι₀ w₀ (fun j => j = k ∨ S j) (a.put o.dst y) w' e ι' := by
  have hem := hI.em
  obtain ⟨o', ho', hs⟩ := hT.stp k (Nat.zero_le _) hkm
  rw [ho] at ho'; cases ho'
  have hs0 := hs
  rw [hkk] at hs
  obtain ⟨_, hc, ⟨v0, h2, hop, hobj, hre⟩, _, hst⟩ := hs
  have hreg := hI.regs hok hk hkS (by omega) ho
  have hop2 : opA E (restr (σ k).rg (o.looksAt ops)) (σ k).h o = some (.val v0, h2) := by rw [opA_restr]; exact hop
  obtain ⟨v0', obj', y, w', L, hv0, hh2, hgone, hrun, hsz, hold, hos, ht, hout, hL, hall⟩ := ap_any (w := w) hE hreg hc hop2
  cases hv0
  have : obj' = obj := by
    rw [hh2] at hobj
    simp [AHeap.get_alloc] at hobj
    exact hobj
  subst this
  have hnone : ι (base + k) = none := by
    cases hx : ι (base + k) with
    | none => rfl
    | some L0 => exact absurd (hI.out k (by omega) (by rw [hx]; simp)).1 hkS
  have hcn : cutI ι base ops.size (max k e) (base + k) = none := by
    unfold cutI; split
    · rfl
    · exact hnone
  obtain ⟨hO, hV⟩ := hall _ hcn
  have hV := hV v hre
  have hLlt : L.b < w'.heap.size := hO.lt hgone
  have hιle : ι.le (ι.add (base + k) L) := Inj.le_add hnone
  have hbndL : ∀ i L', ι i = some L' → L'.b ≠ L.b := fun i L' hi => by have := hI.bnd hi; omega
  have hw0 : w₀.heap.size ≤ L.b := Nat.le_trans hI.rel.size hL
  have hadd : ∀ c, max k e ≤ c → k < c → ((cutI ι base ops.size (max k e)).add (base + k) L).le (cutI (ι.add (base + k) L) base ops.size c) := fun c h1 h2 i Li hi => by
    by_cases e1 : i = base + k
    · subst e1; rw [Inj.add_same] at hi; cases hi
      unfold cutI; rw [if_neg (by omega), Inj.add_same]
    · rw [Inj.add_other _ _ e1] at hi
      exact cutI_mono hιle h1 i Li hi
  have hke : k ≠ e := fun h => by subst h; rw [hI.e3 hkm] at hkk; cases hkk
  refine ⟨y, w', ι.add (base + k) L, hrun, ?_⟩
  refine
    { b0 := hI.b0, em := hI.em, e1 := fun f hf hk' => .inr (hI.e1 f hf hk'), e2 := ?_, e3 := hI.e3, sm := ?_, down := down_step hI.down hk, rel := ?_, nx := hI.nx, early := ?_, out := ?_, late := fun j v obj hj hk' hS => hI.late j v obj hj hk' fun h => hS (.inr h), non := hI.non, reg := ?_,
      sz := by rw [put_size]; exact hI.sz, ds := ?_ }
  · intro f h1 h2 h3 hS
    rcases hS with rfl | hS
    · rw [hkk] at h3; cases h3
    · exact hI.e2 f h1 h2 h3 hS
  · intro j hj; rcases hj with rfl | hj; exact hkm; exact hI.sm j hj
  · have hgrow := hI.rel.growWorld hsz hold hos ht hout
    rcases Nat.lt_or_ge k e with hlt | hge
    · have hmax : max k e = e := by omega
      refine hgrow.addEarly (fun i => i = base + k) ?_ ?_ (fun _ _ => rfl) rfl ?_ ?_ ?_ hI.b0
      · intro i hi; unfold cutI; rw [Inj.add_other _ _ hi]
      · rintro i rfl
        refine ⟨?_, by have := hI.nx; omega⟩
        unfold cutI; rw [if_neg (by omega)]; exact hnone
      · rintro i L1 rfl hL1
        have : L1 = L := by
          have := cutI_sub _ _ hL1
          rw [Inj.add_same] at this; exact (Option.some.inj this).symm
        subst this
        refine ⟨obj', hI.late k v obj' hlt hkk hkS, hgone, hO.mono (hadd e (by omega) hlt), hLlt, fun q L' hq hq' => ?_⟩
        have := cutI_sub _ _ hq'
        rw [Inj.add_other _ _ hq] at this
        exact hbndL q L' this
      · rintro i rfl; omega
      · rintro i L1 rfl hL1
        have := cutI_sub _ _ hL1
        rw [Inj.add_same] at this; cases this
        exact hw0
    · have : cutI (ι.add (base + k) L) base ops.size e = cutI ι base ops.size e := by
        funext i
        unfold cutI
        split
        · rfl
        · rw [Inj.add_other]; omega
      rw [this]; exact hgrow
  · intro j v1 obj1 hj he hk'
    by_cases hjk : j = k
    · subst hjk
      rw [hkk] at hk'; cases hk'
      have hmax : max j e = j := by omega
      refine ⟨L, Inj.add_same _ _ _, hgone, hO.mono fun i Li hi => ?_, hw0, hLlt, fun i L' hi hL' => ?_⟩
      · by_cases e1 : i = base + j
        · subst e1; rw [Inj.add_same] at hi ⊢; exact hi
        · rw [Inj.add_other _ _ e1] at hi ⊢
          exact cutI_mono hιle (by omega) i Li hi
      · rw [Inj.add_other _ _ hi] at hL'; exact hbndL i L' hL'
    · have hSj : S j := by rcases hj with h | h; exact absurd h hjk; exact h
      obtain ⟨L1, g1, g2, g3, g4, g5, g6⟩ := hI.early j v1 obj1 hSj he hk'
      refine ⟨L1, by rw [Inj.add_other _ _ (by omega)]; exact g1, g2, (g3.mono fun i Li hi => ?_).block (hold _ g5), g4, by omega, fun i L' hi hL' => ?_⟩
      · by_cases e1 : i = base + j
        · subst e1; rw [Inj.add_same] at hi ⊢; exact hi
        · rw [Inj.add_other _ _ e1] at hi ⊢
          exact cutI_mono hιle (Nat.le_refl _) i Li hi
      · by_cases e1 : i = base + k
        · subst e1; rw [Inj.add_same] at hL'; cases hL'; omega
        · rw [Inj.add_other _ _ e1] at hL'; exact g6 i L' hi hL'
  · intro j hj h
    by_cases hjk : j = k
    · subst hjk; exact ⟨.inl rfl, v, obj', hkk⟩
    · rw [Inj.add_other _ _ (by omega)] at h
      obtain ⟨h1, h2⟩ := hI.out j hj h
      exact ⟨.inr h1, h2⟩
  · refine hI.regStep hT hok hk hkS hkm ho (fun c => cutI_mono hιle (Nat.le_refl _)) (fun c c' h => cutI_le (by omega)) (hV.mono (hadd _ (by omega) (by omega))) ?_ hd (ds := a.defers)
    rw [hst]
  · rw [put_defers']; exact hI.ds.mono (cutI_mono hιle (Nat.le_refl _))
end
end Go.Am
