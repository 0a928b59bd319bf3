/-
  Proves that a region whose order is drawn, carried out by the abstract machine, stands for the model's in every order. Each theorem states its own conditions; there are no others.
-/
import Derived.Test.YtdanfdimpcldiaaGreatDoorAm27
set_option linter.unusedSimpArgs false
set_option linter.unusedVariables false
set_option linter.unusedVariables false
set_option linter.unusedSimpArgs false
set_option linter.unusedSectionVars false
namespace Go.Am
variable [Base]
variable {E : Env}

namespace T
variable {α : Type}
theorem del_S (v : Option α) (l r : T α) (m : Nat) : (node v l r).del (m + 1) = if m % 2 = 0 then node v (l.del (m / 2)) r else node v l (r.del (m / 2)) := by
  simp only [del]
  by_cases h : m % 2 = 0
  · rw [if_pos h, h]; rfl
  · rw [if_neg h]
    have : Nat.beq (m % 2) 0 = false := by
      cases hb : Nat.beq (m % 2) 0 with
      | false => rfl
      | true => exact absurd (Nat.eq_of_beq_eq_true hb) h
    rw [this]; rfl
theorem get_del : ∀ (t : T α) (n k : Nat), (t.del n).get k = if k = n then none else t.get k := by
  intro t
  induction t with
  | nil => intro n k; simp [del, get_nil]
  | node v l r ihl ihr =>
    intro n k
    cases n with
    | zero => cases k <;> simp [del, get_node0, get_nodeS]
    | succ m =>
      rw [del_S]
      cases k with
      | zero => split <;> simp [get_node0]
      | succ k =>
        split <;> rw [get_nodeS, get_nodeS] <;> split <;> (try simp only [ihl, ihr])
        · have : (k / 2 = m / 2) ↔ (k + 1 = m + 1) := by omega
          simp only [this]
        · rw [if_neg (by omega)]
        · rw [if_neg (by omega)]
        · have : (k / 2 = m / 2) ↔ (k + 1 = m + 1) := by omega
          simp only [this]
end T

theorem delAll {t : Tmp} {x : AV} : ∀ (l : List Oper) (r : T AV), (l.foldl (fun r o => match o.dst with | some d => r.del d | none => r) r).get t = some x → r.get t = some x ∧ ∀ o ∈ l, o.dst ≠ some t
  | [], r, h => ⟨h, by simp⟩
  | o :: l, r, h => by
    simp only [List.foldl_cons] at h
    obtain ⟨h1, h2⟩ := delAll l _ h
    cases hd : o.dst with
    | none =>
      rw [hd] at h1
      exact ⟨h1, fun o' ho' => by rcases List.mem_cons.1 ho' with rfl | h; rw [hd]; simp; exact h2 o' h⟩
    | some d =>
      rw [hd] at h1
      simp only [T.get_del] at h1
      split at h1
      · cases h1
      · rename_i hne
        exact ⟨h1, fun o' ho' => by rcases List.mem_cons.1 ho' with rfl | h; rw [hd]; simp; exact fun e => hne e.symm; exact h2 o' h⟩

theorem notDefer {o : Oper} (hc : clsOf E o ≠ .eff) : ∀ c, o.op ≠ .defer c := fun c ho => hc (by simp [clsOf, ho])

section
variable {call : CallF} {round : RoundF} {ops : Array Oper} {base : Nat} {σ : Nat → St} {κ : Nat → DK} {m : Nat} {h₀ : AHeap} {ι₀ : Inj} {w₀ : World} {x : AExit} {st' : St} {ρ : Option Nat} {Q : Exit → Act → World → Prop}

/-- One operation that is ready. -/
theorem draw_step (hE : E.Ok) (hm : MachOk E call round) (hok : drawOk ops = true) (hT : Trace E call round ops base σ κ 0 m) (hEnd : EndsAt E call round ops σ κ [] 0 m x st') (hmn : m ≤ ops.size) (hb0 : h₀.next ≤ base) (hrnd : (σ 0).rnd = ρ.isSome)
    (hP : ∀ e ι' a' w', Ext ι₀ h₀ w₀ ι' st'.h w' → StRel ι' st' a' w' ρ → ExRel ι' x e → Q e a' w')
    {S : Nat → Prop} {a : Act} {w : World} {e : Nat} {ι : Inj} (hI : Inv call round ops base σ κ m h₀ ι₀ w₀ S a w e ι) {i : Nat} (hin : i < ops.size) (hk : EdgesIn ops S i) (hkS : ¬ S i) {K : Act → World → Prop}
    (hK : ∀ a' w' e' ι', Inv call round ops base σ κ m h₀ ι₀ w₀ (fun j => j = i ∨ S j) a' w' e' ι' → K a' w') : wpOpIn (wideAt ρ) 0 E.P ops Q i K a w := by
  have hem := hI.em
  obtain ⟨o, ho⟩ : ∃ o, ops[i]? = some o := ⟨ops[i], by simp [hin]⟩
  have him : i ≤ m := by
    rcases hEnd with ⟨_, h, _⟩ | ⟨_, _, _, _, _, _, _, _, _, _, _, _, h⟩
    · omega
    · rcases Nat.lt_or_ge m i with h1 | h1
      · have := hI.sm m (hI.ready hok hk (h i h1 hin)); omega
      · exact h1
  have hreg := hI.regs hok hk hkS him ho
  unfold wpOpIn
  simp only [ho]
  rcases Nat.eq_or_lt_of_le him with rfl | him
  · -- the panic
    rcases hEnd with ⟨_, h, _⟩ | ⟨v, o', r, st2, rfl, ho', hw, hop, hres, rfl, _, hee, hlast⟩
    · omega
    rw [ho] at ho'; cases ho'
    have hei : e = i := by
      rcases Nat.eq_or_lt_of_le hem with h | h
      · exact h
      · have he := hI.e3 h
        exact absurd (hI.ready hok hk (hee e (Nat.zero_le _) h he)) (hI.e2 e (Nat.le_refl _) h he)
    subst hei
    rw [Nat.max_self] at hreg
    rw [← wantedA_restr] at hw
    obtain ⟨hw, hd⟩ := wantedA_spec hw hreg
    rw [hw, if_pos rfl]
    obtain ⟨hn, hr⟩ := hT.keep e (Nat.le_refl _)
    refine step_op hE hm (ρ := ρ) hreg hI.rel.rel hI.ds (by rw [hr]; exact hrnd) (by rw [opA_restr]; exact hop) hres (fun h => by cases h) (fun v' hv ι1 chain w' hext hpan hrg hnn hrd hds => ?_)
    cases hv
    refine hP _ ι1 a w' (hI.rel.trans hext) ⟨?_, ?_, hext.rel, ?_, ?_⟩ hpan
    · intro t z hz
      have hz' : (ops.toList.foldl (fun r o => match o.dst with | some d => r.del d | none => r) (σ e).rg).get t = some z := by
        rw [Array.foldl_toList]; exact hz
      obtain ⟨h1, h2⟩ := delAll _ _ hz'
      have hnw : ∀ j, ¬ Writes ops j t := fun j ⟨o', ho', hd'⟩ => h2 o' (by
        have := Array.mem_of_getElem? ho'
        exact Array.mem_toList_iff.2 this) hd'
      obtain ⟨y, hy, hrel⟩ := hI.reg t e (Nat.le_refl _) (fun j _ hw => absurd hw (hnw j)) (fun j _ hw => absurd hw (hnw j)) z h1
      rw [Nat.max_self] at hrel
      exact ⟨y, hy, hrel.mono (hext.le hI.rel.rel)⟩
    · show a.tmps.size = st2.n
      rw [hnn, hn]; exact hI.sz
    · show DsRel ι1 st2.ds a.defers
      rw [hds]; exact hI.ds.mono (hext.le hI.rel.rel)
    · show st2.rnd = _
      rw [hrd, hr]; exact hrnd
  · obtain ⟨o', ho', hs⟩ := hT.stp i (Nat.zero_le _) him
    rw [ho] at ho'; cases ho'
    obtain ⟨hn, hr⟩ := hT.keep i (by omega)
    have hs0 := hs
    have wnt : ∀ b, wantedA ops (σ i).n (σ i).rg o = some b → Region.wanted o (yielded ops a.tmps) = b ∧ dstOk a.tmps.size o.dst = true := fun b h => by
      rw [← wantedA_restr] at h
      obtain ⟨h1, h2⟩ := wantedA_spec h hreg
      exact ⟨h1, by rw [hI.sz, ← hn]; exact h2⟩
    cases hkk : κ i with
    | skip =>
      rw [hkk] at hs
      obtain ⟨hw, hst⟩ := hs
      obtain ⟨hw, hd⟩ := wnt _ hw
      rw [hw, if_neg (by simp)]
      exact ⟨fun _ _ => trivial, hK _ _ _ _ (hI.put hT hok hk hkS him ho (by simp [hkk]) (by simp [hkk]) (nilRel _) (by rw [hst]) hd)⟩
    | pure v =>
      rw [hkk] at hs
      obtain ⟨hw, hc, _, hst⟩ := hs
      obtain ⟨hw, hd⟩ := wnt _ hw
      rw [hw, if_pos rfl]
      obtain ⟨y, hrun, hv⟩ := hI.still hE hT hok hmn hk hkS him ho (.inl hkk)
      refine ⟨fun _ _ => trivial, ?_⟩
      rw [Oper.semAt_eq _ _ _ (notDefer (E := E) (by rw [hc]; simp)), hrun, Oper.uponIn_value]
      exact hK _ _ _ _ (hI.put hT hok hk hkS him ho (by simp [hkk]) (by simp [hkk]) hv (by rw [hst]) hd)
    | read v =>
      rw [hkk] at hs
      obtain ⟨hw, hc, _, hst⟩ := hs
      obtain ⟨hw, hd⟩ := wnt _ hw
      rw [hw, if_pos rfl]
      obtain ⟨y, hrun, hv⟩ := hI.still hE hT hok hmn hk hkS him ho (.inr hkk)
      refine ⟨fun _ _ => trivial, ?_⟩
      rw [Oper.semAt_eq _ _ _ (notDefer (E := E) (by rw [hc]; simp)), hrun, Oper.uponIn_value]
      exact hK _ _ _ _ (hI.put hT hok hk hkS him ho (by simp [hkk]) (by simp [hkk]) hv (by rw [hst]) hd)
    | alloc v obj =>
      rw [hkk] at hs
      obtain ⟨hw, hc, _⟩ := hs
      obtain ⟨hw, hd⟩ := wnt _ hw
      rw [hw, if_pos rfl]
      obtain ⟨y, w', ι', hrun, hI'⟩ := hI.alloc hE hT hok hmn hb0 hk hkS him ho hkk hd
      refine ⟨fun _ _ => trivial, ?_⟩
      rw [Oper.semAt_eq _ _ _ (notDefer (E := E) (by rw [hc]; simp)), hrun, Oper.uponIn_value]
      exact hK _ _ _ _ hI'
    | eff =>
      have hie := hI.due hT hok hk hkS him hkk
      subst hie
      rw [hkk] at hs
      obtain ⟨hw, r, hop, hres⟩ := hs
      obtain ⟨hw, hd⟩ := wnt _ hw
      rw [hw, if_pos rfl]
      rw [Nat.max_self] at hreg
      refine step_op hE hm (ρ := ρ) hreg hI.rel.rel hI.ds (by rw [hr]; exact hrnd) (by rw [opA_restr]; exact hop) hres (fun _ ι1 v y ds' w' hext hv hrg _ _ hds => ?_) (fun v hv => by cases hv)
      obtain ⟨e', ι', hI'⟩ := hI.eff hT hok hmn hb0 hk him ho hd hext hv hrg hds
      exact hK _ _ _ _ hI'

theorem draw_all (hE : E.Ok) (hm : MachOk E call round) (hok : drawOk ops = true) (hT : Trace E call round ops base σ κ 0 m) (hEnd : EndsAt E call round ops σ κ [] 0 m x st') (hmn : m ≤ ops.size) (hb0 : h₀.next ≤ base) (hrnd : (σ 0).rnd = ρ.isSome)
    (hP : ∀ e ι' a' w', Ext ι₀ h₀ w₀ ι' st'.h w' → StRel ι' st' a' w' ρ → ExRel ι' x e → Q e a' w') :
    ∀ (fuel : Nat) (listed : Array Bool) (a : Act) (w : World) (e : Nat) (ι : Inj) (S : Nat → Prop), listed.size = ops.size → (∀ j, S j ↔ j < ops.size ∧ listed.getD j false = true) → (∃ l : List Nat, l.length = fuel ∧ ∀ j, j < ops.size → ¬ S j → j ∈ l) →
      Inv call round ops base σ κ m h₀ ι₀ w₀ S a w e ι → wpAnyIn (wideAt ρ) 0 E.P .any ops Q fuel listed a w := by
  -- when all is done
  have fin : ∀ (a : Act) (w : World) (e : Nat) (ι : Inj) (S : Nat → Prop), (∀ j, j < ops.size → S j) → Inv call round ops base σ κ m h₀ ι₀ w₀ S a w e ι → Q .normal a w := by
    intro a w e ι S hall hI
    have hmN : m = ops.size := by
      rcases Nat.eq_or_lt_of_le hmn with h | h
      · exact h
      · have := hI.sm m (hall m h); omega
    have hem : e = m := by
      rcases Nat.eq_or_lt_of_le hI.em with h | h
      · exact h
      · exact absurd (hall e (by omega)) (hI.e2 e (Nat.le_refl _) h (hI.e3 h))
    rcases hEnd with ⟨rfl, _, rfl⟩ | ⟨_, _, _, _, _, ho, _⟩
    · have hrel := hI.rel
      have hds := hI.ds
      rw [hem, hmN, cutI_full] at hrel hds
      obtain ⟨hn, hr⟩ := hT.keep m (Nat.le_refl _)
      rw [hmN] at hn hr
      rw [hmN] at hP
      refine hP .normal ι a w hrel ⟨?_, ?_, hrel.rel, hds, by rw [hr]; exact hrnd⟩ trivial
      · intro t z hz
        obtain ⟨y, hy, hv⟩ := hI.reg t ops.size (by omega) (fun j hj _ => hall j hj) (fun j hj hw => by obtain ⟨o, ho, _⟩ := hw; have := (Array.getElem?_eq_some_iff.1 ho).1; omega) z hz
        exact ⟨y, hy, hv.mono cutI_sub⟩
      · rw [hn]; exact hI.sz
    · have := (Array.getElem?_eq_some_iff.1 ho).1; omega
  have getD_eq : ∀ (listed : Array Bool) (j : Nat), listed.size = ops.size → j < ops.size → listed.getD j true = listed.getD j false := fun listed j h1 h2 => by
    simp [Array.getD, h1, h2]
  have least : ∀ (listed : Array Bool) (S : Nat → Prop), listed.size = ops.size → (∀ j, S j ↔ j < ops.size ∧ listed.getD j false = true) → Region.ready .any ops listed = [] → ∀ j, j < ops.size → S j := by
    intro listed S hsz hS hr j
    induction j using Nat.strongRecOn with
    | _ j ih =>
      intro hj
      refine (hS j).2 ⟨hj, ?_⟩
      cases hl : listed.getD j false with
      | true => rfl
      | false =>
        exfalso
        obtain ⟨o, ho⟩ : ∃ o, ops[j]? = some o := ⟨ops[j], by simp [hj]⟩
        have : j ∈ Region.ready .any ops listed := mem_ready.2 ⟨by rw [getD_eq listed j hsz hj]; exact hl, o, ho, fun e he hb => by
          have hlt := drawOk_edge hok ho (Array.mem_toList_iff.2 he) hb
          exact ((hS e.on).1 (ih e.on hlt (by omega))).2⟩
        rw [hr] at this; cases this
  intro fuel
  induction fuel with
  | zero =>
    intro listed a w e ι S hsz hS hl hI
    obtain ⟨l, hl0, hl⟩ := hl
    have hl0 : l = [] := List.eq_nil_of_length_eq_zero hl0
    subst hl0
    have hall : ∀ j, j < ops.size → S j := fun j hj => Classical.byContradiction fun h => by have := hl j hj h; cases this
    refine ⟨?_, fin a w e ι S hall hI⟩
    refine List.eq_nil_iff_forall_not_mem.2 fun j hj => ?_
    obtain ⟨h1, o, ho, _⟩ := mem_ready.1 hj
    have hjn := (Array.getElem?_eq_some_iff.1 ho).1
    rw [getD_eq listed j hsz hjn] at h1
    have := ((hS j).1 (hall j hjn)).2
    rw [h1] at this; cases this
  | succ fuel ih =>
    intro listed a w e ι S hsz hS hl hI
    refine ⟨fun hr => fin a w e ι S (least listed S hsz hS hr) hI, fun i hi => ?_⟩
    obtain ⟨h1, o, ho, hedge⟩ := mem_ready.1 hi
    have hin := (Array.getElem?_eq_some_iff.1 ho).1
    rw [getD_eq listed i hsz hin] at h1
    have hiS : ¬ S i := fun h => by have := ((hS i).1 h).2; rw [h1] at this; cases this
    refine draw_step hE hm hok hT hEnd hmn hb0 hrnd hP hI hin (fun o' ho' e' he' hb' => ?_) hiS (fun a' w' e' ι' hI' => ?_)
    · rw [ho] at ho'; cases ho'
      have hlt := drawOk_edge hok ho he' hb'
      exact (hS e'.on).2 ⟨by omega, hedge e' (Array.mem_toList_iff.1 he') hb'⟩
    · refine ih (listed.setIfInBounds i true) a' w' e' ι' _ (by simpa using hsz) (fun j => ?_) ?_ hI'
      · by_cases hji : j = i
        · subst hji
          simp [Array.getD, hsz, hin]
        · have : (listed.setIfInBounds i true).getD j false = listed.getD j false := by
            have := Array.getElem?_setIfInBounds_ne (xs := listed) (i := i) (j := j) (a := true) (fun h => hji h.symm)
            simp only [Array.getD_eq_getD_getElem?, this]
          rw [this, ← hS j]
          exact ⟨fun h => by rcases h with h | h; exact absurd h hji; exact h, fun h => .inr h⟩
      · obtain ⟨l, hl1, hl2⟩ := hl
        refine ⟨l.erase i, by rw [List.length_erase_of_mem (hl2 i hin hiS), hl1]; rfl, fun j hj hjS => ?_⟩
        have hji : j ≠ i := fun h => hjS (.inl h)
        exact (List.mem_erase_of_ne hji).2 (hl2 j hj fun h => hjS (.inr h))
end

theorem drawA_any (hE : E.Ok) {call : CallF} {round : RoundF} (hm : MachOk E call round) {ops : Array Oper} {ρ : Option Nat} {x : AExit} {st st' : St} {ι : Inj} {a : Act} {w : World} {Q : Exit → Act → World → Prop}
    (hok : drawOk ops = true)
    (hr : drawA E call round ops (befOf ops) st.h.next ops.toList.zipIdx { st with h := { st.h with next := st.h.next + ops.size } } [] [] = some (x, st')) (hS : StRel ι st a w ρ) (hP : Post ι st w ρ x st' Q) :
    wpAnyIn (wideAt ρ) 0 E.P .any ops Q ops.size (Array.replicate ops.size false) a { w with drawn := w.drawn + 1 } := by
  obtain ⟨σ, κ, m, hσ0, _, hT, _, hEnd⟩ := drawA_trace ops.toList.zipIdx 0 _ [] [] (fun j => by simp [List.getElem?_zipIdx]) (by simp) (by simp) hr
  have hmn : m ≤ ops.size := by
    rcases hEnd with ⟨_, h, _⟩ | ⟨_, _, _, _, _, ho, _⟩
    · omega
    · have := (Array.getElem?_eq_some_iff.1 ho).1; omega
  have hno : ∀ i, st.h.next ≤ i → ι i = none := fun i hi => by
    cases hx : ι i with
    | none => rfl
    | some L => have := hS.heap.lt i L hx; omega
  have hcut : ∀ c, cutI ι st.h.next ops.size c = ι := fun c => by
    funext i; unfold cutI; split
    · rename_i h; exact (hno i (by omega)).symm
    · rfl
  obtain ⟨e, he1, he2, he3, he4⟩ := nextEff κ 0 m (Nat.zero_le _)
  obtain ⟨sg1, sg2, sg3, sg4, sg5⟩ := hT.seg (lo := 0) e he1 he2 he3
  have h0h : (σ 0).h = { st.h with next := st.h.next + ops.size } := by rw [hσ0]
  have h0g : ∀ i, (σ 0).h.get i = st.h.get i := fun i => by rw [h0h]; rfl
  have h0n : (σ 0).h.next = st.h.next + ops.size := by rw [h0h]
  refine (draw_all hE hm hok hT hEnd hmn (h₀ := st.h) (ι₀ := ι) (w₀ := w) (Nat.le_refl _) (by rw [hσ0]; exact hS.rnd) hP ops.size (Array.replicate ops.size false) a _ e ι (fun _ => False) (by simp)
    (fun j => ⟨fun h => h.elim, fun h => by have := h.2; simp [Array.getD] at this⟩) ⟨List.range ops.size, by simp, fun j hj _ => by simpa using hj⟩ ?_)
  have hrel0 : Ext ι st.h w ι (σ 0).h { w with drawn := w.drawn + 1 } :=
    ⟨⟨fun i L hi => by
        obtain ⟨o, h1, h2⟩ := hS.heap.obj i L hi
        exact ⟨o, by rw [h0g]; exact h1, h2.block rfl⟩,
      fun i j Li Lj oi oj hij hi hj hoi hoj => hS.heap.dis i j Li Lj oi oj hij hi hj (by rw [h0g] at hoi; exact hoi) (by rw [h0g] at hoj; exact hoj),
      fun i L hi => by have := hS.heap.lt i L hi; omega,
      fun i hi => by rw [h0g]; exact hS.heap.fresh i (by omega),
      hS.heap.bnd, ⟨hS.heap.base.size, hS.heap.base.old, hS.heap.base.os, fun i L o hi ho how => hS.heap.base.own i L o hi (by rw [h0g] at ho; exact ho) how⟩⟩, fun _ _ => rfl, fun i _ _ => h0g i, by omega, Nat.le_refl _,
      fun b _ hn => ⟨rfl, fun ⟨i, L, o, hi, ho, h1, h2⟩ => hn ⟨i, L, o, hi, by rw [h0g] at ho; exact ho, h1, h2⟩⟩, rfl, rfl, rfl, fun i L hi => .inl hi⟩
  refine
    { b0 := hS.heap.base.size, em := he2, e1 := fun f hf hk => absurd hk (he3 f (Nat.zero_le _) hf), e2 := fun f h1 h2 h3 h => h.elim, e3 := he4, sm := fun j h => h.elim, down := fun i o ho h => h.elim, rel := ?_, nx := by omega, early := fun j v obj h => h.elim,
      out := fun j hj h => absurd (hno _ (by omega)) h, late := fun j v obj hj hk _ => sg4 j v obj (Nat.zero_le _) hj hk, non := fun j h1 h2 => ?_, reg := ?_, sz := by rw [hσ0]; exact hS.n, ds := ?_ }
  · rw [hcut]
    refine hrel0.addEarly (fun i => st.h.next ≤ i ∧ i < st.h.next + e) (fun _ _ => rfl) (fun i hi => ⟨hno i hi.1, by omega⟩) (fun i hi => sg3 i fun j h1 h2 e1 => hi (by omega)) sg2 (fun i L hi hL => ?_) (fun i hi => hi.1) (fun i L hi hL => ?_) hS.heap.base.size
    · rw [hno i hi.1] at hL; cases hL
    · rw [hno i hi.1] at hL; cases hL
  · rw [sg3 _ (fun q g1 g2 => by omega), h0g]
    exact hS.heap.fresh _ (by omega)
  · intro t i hi h1 h2 z hz
    rw [hT.quiet (t := t) (lo := 0) i (Nat.zero_le _) hi (fun j _ hj hw => h1 j hj hw), hσ0] at hz
    obtain ⟨y, hy, hv⟩ := hS.reg t z hz
    exact ⟨y, hy, by rw [hcut]; exact hv⟩
  · rw [hcut, sg1, hσ0]; exact hS.ds
end Go.Am
