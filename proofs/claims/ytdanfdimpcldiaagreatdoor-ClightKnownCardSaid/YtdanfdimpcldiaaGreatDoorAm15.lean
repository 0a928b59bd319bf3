/-
  Proves that a region in the order of the text, carried out by the abstract machine, stands for the model's. Each theorem states its own conditions; there are no others.
-/
import Derived.Test.YtdanfdimpcldiaaGreatDoorAm14
import Derived.Test.YtdanfdimpcldiaaGreatDoorAm2
import Derived.TacticsIn
set_option linter.unusedSimpArgs false
set_option linter.unusedVariables false
set_option linter.unusedVariables false
set_option linter.unusedSimpArgs false
set_option linter.unusedSectionVars false
namespace Go.Am
variable [Base]
variable {E : Env}

/-! ### What is known of a state -/
def wideAt (ρ : Option Nat) : Fence := { Fence.wide with round := ρ }
theorem wideAt_calls {ρ : Option Nat} {n : Nat} {P : Program} {f : FuncId} {args : Array Value} {w : World} {R : Ending → World → Prop} : CallsIn (wideAt ρ) n P f args w R = CallsIn Fence.wide n P f args w R := rfl
theorem wideAt_rounds {ρ : Option Nat} {n : Nat} {P : Program} {l : Nat} {f : FuncId} {tmps : Array Value} {as b : Code} {w : World} {R : Ending → World → Prop} : RoundIn (wideAt ρ) n P l f tmps as b w R = RoundIn Fence.wide n P l f tmps as b w R := rfl

def DRel (ι : Inj) (d : ADef) (d' : Deferred) : Prop :=
  match d with
  | .call f args => ∃ cap dargs : Array Value, d' = { target := .fn (.func f) cap, args := dargs } ∧ VsRel ι args (dargs.toList ++ cap.toList)
  | .mark r => ∃ L, ι r = some L ∧ d' = { target := .collected L.b, args := #[] }
def DsRel (ι : Inj) : List ADef → List Deferred → Prop
  | [], [] => True
  | d :: ds, d' :: ds' => DRel ι d d' ∧ DsRel ι ds ds'
  | _, _ => False
theorem DRel.mono {ι ι' : Inj} (hle : ι.le ι') {d : ADef} {d' : Deferred} (h : DRel ι d d') : DRel ι' d d' := by
  cases d with
  | call f args => obtain ⟨cap, dargs, h1, h2⟩ := h; exact ⟨cap, dargs, h1, h2.mono hle⟩
  | mark r => obtain ⟨L, h1, h2⟩ := h; exact ⟨L, hle r L h1, h2⟩
theorem DsRel.mono {ι ι' : Inj} (hle : ι.le ι') : ∀ {ds : List ADef} {ds' : List Deferred}, DsRel ι ds ds' → DsRel ι' ds ds'
  | [], [], _ => trivial
  | d :: ds, d' :: ds', h => ⟨h.1.mono hle, DsRel.mono hle h.2⟩
  | [], _ :: _, h => h.elim
  | _ :: _, [], h => h.elim

structure StRel (ι : Inj) (st : St) (a : Act) (w : World) (ρ : Option Nat) : Prop where
  reg : RegRel ι st.rg a.tmps
  n : a.tmps.size = st.n
  heap : HRel ι st.h w
  ds : DsRel ι st.ds a.defers
  rnd : st.rnd = ρ.isSome

def PanRel (ι : Inj) (v : AV) (chain : List PanicEntry) : Prop := ∃ y, chain = [{ v := y, recovered := false }] ∧ VRel ι v y
def OutRel (ι : Inj) : Out → Ending → Prop
  | .ret v, .returned y => VRel ι v y
  | .pan v, .panicked chain => PanRel ι v chain
  | _, _ => False
def ExRel (ι : Inj) : AExit → Exit → Prop
  | .nrm, .normal => True
  | .ret, .ret => True
  | .exit i, .exit j => i = j
  | .pan v, .panic chain => PanRel ι v chain
  | _, _ => False

/-- What is owed of the machine one step below. -/
structure MachOk (E : Env) (call : CallF) (round : RoundF) : Prop where
  call : ∀ {k : FuncId} {args : List AV} {h : AHeap} {out : Out} {h' : AHeap} {ι : Inj} {w : World} {args' : Array Value}, call k args h = some (out, h') → HRel ι h w → VsRel ι args args'.toList →
    CallsIn Fence.wide 0 E.P k args' w fun e w' => ∃ ι', Ext ι h w ι' h' w' ∧ OutRel ι' out e
  round : ∀ {l : Nat} {args : List AV} {h : AHeap} {v : AV} {h' : AHeap} {ι : Inj} {w : World} {L : Loc} {st : LoopState} {pd : Option Code} {n : Nat} {rg : T AV} {ps : Array Tmp} {as b : Code} {tm : Array Value} {df : Nat} {fn : FuncId} {vs : List Value},
    round l args h = some (v, h') → HRel ι h w → ι l = some L → h.get l = some (.loop st pd n rg ps as b) →
    w.heap[L.b]? = some (.loop { state := st, pending := pd, fn := fn, tmps := tm, params := ps, assign := as, body := b, defers := df }) → RegRel ι rg tm → VsRel ι args vs → vs.length = ps.size →
    RoundIn Fence.wide 0 E.P L.b fn ((ps.zip vs.toArray).foldl (fun t x => t.setIfInBounds x.1 x.2) tm) as b w fun e w' => ∃ ι' y, e = .returned y ∧ Ext ι h w ι' h' w' ∧ VRel ι' v y

/-! ### Registers -/
theorem RegRel.put {ι : Inj} {rg : T AV} {a : Act} {d : Option Tmp} {v : AV} {y : Value} (hR : RegRel ι rg a.tmps) (hd : dstOk a.tmps.size d = true) (hv : VRel ι v y) : RegRel ι (putA rg d v) (a.put d y).tmps := by
  cases d with
  | none => exact hR
  | some d =>
    simp [dstOk] at hd
    intro i x hx
    simp only [putA, T.get_set] at hx
    simp only [Act.put]
    split at hx
    · rename_i e; subst e
      cases hx
      exact ⟨y, by simp [hd], hv⟩
    · rename_i e
      obtain ⟨z, hz, hr⟩ := hR i x hx
      exact ⟨z, by rw [Array.getElem?_setIfInBounds_ne (fun h => e h.symm)]; exact hz, hr⟩
theorem put_size (a : Act) (d : Option Tmp) (y : Value) : (a.put d y).tmps.size = a.tmps.size := by
  cases d <;> simp [Act.put]
theorem put_defers' (a : Act) (d : Option Tmp) (y : Value) : (a.put d y).defers = a.defers := by
  cases d <;> simp [Act.put]
theorem nilRel (ι : Inj) : VRel ι nil' undef := VRel.undef ι

theorem wantedA_spec {ι : Inj} {ops : Array Oper} {n : Nat} {rg : T AV} {o : Oper} {b : Bool} {a : Act} (h : wantedA ops n rg o = some b) (hR : RegRel ι rg a.tmps) :
    Region.wanted o (yielded ops a.tmps) = b ∧ dstOk n o.dst = true := by
  unfold wantedA at h
  split at h
  · rename_i hd
    refine ⟨?_, hd⟩
    unfold Region.wanted
    split at h
    · rename_i hg; simp at h; subst h; simp [hg]
    · rename_i j want hg
      simp only [hg]
      split at h
      · rename_i hj
        simp at h; subst h
        simp [yielded, hj]
      · rename_i d hj
        split at h
        · rename_i b' hb
          simp at h; subst h
          obtain ⟨y, hy, hr⟩ := hR d _ hb
          have := hr.bool_inv
          subst this
          have : yielded ops a.tmps j = some b' := by simp [yielded, hj, hy]
          rw [this]
          cases b' <;> cases want <;> rfl
        · rename_i hb
          simp at h; subst h
          obtain ⟨y, hy, hr⟩ := hR d _ hb
          obtain ⟨cs, rfl, _⟩ := hr.tup_inv
          have : yielded ops a.tmps j = none := by simp [yielded, hj, hy]
          rw [this]; rfl
        · simp at h
  · simp at h

/-! ### One operation of a region -/
theorem step_op (hE : E.Ok) {call : CallF} {round : RoundF} (hm : MachOk E call round) {ι : Inj} {st st' : St} {a : Act} {w : World} {ρ : Option Nat} {rg : T AV} {o : Oper} {r : ORes × AHeap} {x : Option AV}
    (hR : RegRel ι rg a.tmps) (hH : HRel ι st.h w) (hD : DsRel ι st.ds a.defers) (hrnd : st.rnd = ρ.isSome) (hop : opA E rg st.h o = some r) (hres : resA call round o.dst st r = some (x, st'))
    {K : Act → World → Prop} {Q : Exit → Act → World → Prop}
    (hK : x = none → ∀ ι' v y ds' w', Ext ι st.h w ι' st'.h w' → VRel ι' v y → st'.rg = putA st.rg o.dst v → st'.n = st.n → st'.rnd = st.rnd → DsRel ι' st'.ds ds' → K (({ a with defers := ds' } : Act).put o.dst y) w')
    (hQ : ∀ v, x = some v → ∀ ι' chain w', Ext ι st.h w ι' st'.h w' → PanRel ι' v chain → st'.rg = st.rg → st'.n = st.n → st'.rnd = st.rnd → st'.ds = st.ds → Q (.panic chain) a w') :
    o.wpIn (wideAt ρ) 0 E.P a w K Q := by
  obtain ⟨r, h1⟩ := r
  refine ⟨fun _ _ => trivial, ?_⟩
  have hpost := opA_sound hE hR hH hop
  have hsem : (o.semAt (wideAt ρ).round a.eval).run E.P w = (execOp a.eval o).run E.P w := by
    show (o.semAt ρ a.eval).run E.P w = _
    cases ρ with
    | none => rfl
    | some l =>
      rw [Oper.semAt_some l a.eval o]
      intro c ho
      simp only [opA, ho] at hop
      split at hop
      · split at hop
        · simp at hop; obtain ⟨rfl, rfl⟩ := hop
          simp [resA, hrnd] at hres
        · simp at hop
      · simp at hop
  rw [hsem]
  revert hpost
  generalize (execOp a.eval o).run E.P w = res
  intro hpost
  cases res with
  | ok nx w' =>
    cases nx with
    | value y =>
      obtain ⟨v, ι', rfl, hv, hext⟩ := hpost
      simp [resA] at hres
      obtain ⟨rfl, rfl⟩ := hres
      rw [Oper.uponIn_value]
      exact hK rfl ι' v y a.defers w' hext hv rfl rfl rfl (hD.mono (hext.le hH))
    | skip =>
      obtain ⟨ι', rfl, hext⟩ := hpost
      simp [resA] at hres
      obtain ⟨rfl, rfl⟩ := hres
      rw [Oper.uponIn_skip]
      exact hK rfl ι' nil' undef a.defers w' hext (nilRel _) rfl rfl rfl (hD.mono (hext.le hH))
    | enter f args =>
      obtain ⟨as, rfl, hargs, rfl, rfl⟩ := hpost
      simp only [resA] at hres
      rw [Oper.uponIn_enter]
      refine ⟨fun h => by simp [wideAt, Fence.wide] at h, ?_⟩
      rw [wideAt_calls]
      split at hres
      · rename_i v h2 hc
        simp at hres; obtain ⟨rfl, rfl⟩ := hres
        refine (hm.call hc hH hargs).mono fun e w'' he => ?_
        obtain ⟨ι', hext, hout⟩ := he
        cases e with
        | returned y => exact hK rfl ι' v y a.defers w'' hext hout rfl rfl rfl (hD.mono (hext.le hH))
        | panicked chain => exact hout.elim
        | outgrown => exact hout.elim
      · rename_i v h2 hc
        simp at hres; obtain ⟨rfl, rfl⟩ := hres
        refine (hm.call hc hH hargs).mono fun e w'' he => ?_
        obtain ⟨ι', hext, hout⟩ := he
        cases e with
        | returned y => exact hout.elim
        | panicked chain => exact hQ v rfl ι' chain w'' hext hout rfl rfl rfl rfl
        | outgrown => exact hout.elim
      · simp at hres
    | round l f tmps as b =>
      obtain ⟨id, args, L, sts, pd, n, rg0, ps, tm, df, vs, rfl, hL, hl, hb, hreg, hargs, rfl, hlen, rfl, rfl, rfl⟩ := hpost
      simp only [resA] at hres
      rw [Oper.uponIn_round]
      refine ⟨fun h => by simp [wideAt, Fence.wide] at h, ?_⟩
      rw [wideAt_rounds]
      split at hres
      · rename_i v h2 hc
        simp at hres; obtain ⟨rfl, rfl⟩ := hres
        refine (hm.round hc hH hL hl hb hreg hargs hlen).mono fun e w'' he => ?_
        obtain ⟨ι', y, rfl, hext, hv⟩ := he
        exact hK rfl ι' v y a.defers w'' hext hv rfl rfl rfl (hD.mono (hext.le hH))
      · simp at hres
    | defer d =>
      obtain ⟨f, as, cap, dargs, rfl, rfl, hargs, rfl, rfl⟩ := hpost
      simp only [resA] at hres
      split at hres
      · simp at hres
      · simp at hres; obtain ⟨rfl, rfl⟩ := hres
        rw [Oper.uponIn_defer]
        exact hK rfl ι nil' undef _ w' (Ext.refl hH) (nilRel _) rfl rfl rfl ⟨⟨cap, dargs, rfl, hargs⟩, hD⟩
    | recover =>
      obtain ⟨rfl, _⟩ := hpost
      simp [resA] at hres
    | _ => exact hpost.elim
  | halt hx w' =>
    cases hx with
    | panic v =>
      obtain ⟨x', rfl, hv, rfl, rfl⟩ := hpost
      simp [resA] at hres
      obtain ⟨rfl, rfl⟩ := hres
      rw [Oper.uponIn_panic]
      exact hQ x' rfl ι _ w' (Ext.refl hH) ⟨v, rfl, hv⟩ rfl rfl rfl rfl
    | _ => exact hpost.elim

/-- What follows. -/
def Post (ι : Inj) (st : St) (w : World) (ρ : Option Nat) (x : AExit) (st' : St) (Q : Exit → Act → World → Prop) : Prop :=
  ∀ e ι' a' w', Ext ι st.h w ι' st'.h w' → StRel ι' st' a' w' ρ → ExRel ι' x e → Q e a' w'

theorem opsA_sound (hE : E.Ok) {call : CallF} {round : RoundF} (hm : MachOk E call round) {ops : Array Oper} {ρ : Option Nat} {x : AExit} {st' : St} {Q : Exit → Act → World → Prop} :
    ∀ {l : List Oper} {st : St} {ι : Inj} {a : Act} {w : World}, opsA E call round ops l st = some (x, st') → StRel ι st a w ρ → Post ι st w ρ x st' Q → wpListIn (wideAt ρ) 0 E.P ops Q l a w
  | [], st, ι, a, w, hr, hS, hP => by
    simp [opsA] at hr; obtain ⟨rfl, rfl⟩ := hr
    exact hP .normal ι a w (Ext.refl hS.heap) hS trivial
  | o :: l, st, ι, a, w, hr, hS, hP => by
    simp only [opsA] at hr
    simp only [wpListIn]
    split at hr
    · simp at hr
    · rename_i hw
      obtain ⟨hw, hd⟩ := wantedA_spec hw hS.reg
      rw [← hS.n] at hd
      rw [hw, if_neg (by simp)]
      exact ⟨fun _ _ => trivial, opsA_sound hE hm hr ⟨hS.reg.put hd (nilRel _), by rw [put_size]; exact hS.n, hS.heap, by rw [put_defers']; exact hS.ds, hS.rnd⟩ hP⟩
    · rename_i hw
      obtain ⟨hw, hd⟩ := wantedA_spec hw hS.reg
      rw [← hS.n] at hd
      rw [hw, if_pos rfl]
      split at hr
      · simp at hr
      · rename_i r hop
        split at hr
        · simp at hr
        · rename_i st1 hres
          refine step_op hE hm hS.reg hS.heap hS.ds hS.rnd hop hres (fun _ ι' v y ds' w' hext hv hrg hn hrd hds => ?_) (fun v hv => by cases hv)
          refine opsA_sound hE hm hr ⟨?_, ?_, hext.rel, ?_, ?_⟩ ?_
          · rw [hrg]; exact RegRel.put (a := { a with defers := ds' }) (hS.reg.mono (hext.le hS.heap)) hd hv
          · rw [put_size, hn]; exact hS.n
          · rw [put_defers']; exact hds
          · rw [hrd]; exact hS.rnd
          · exact fun e ι2 a2 w2 he hs hx => hP e ι2 a2 w2 (hext.trans he) hs hx
        · rename_i v st1 hres
          simp at hr; obtain ⟨rfl, rfl⟩ := hr
          refine step_op hE hm hS.reg hS.heap hS.ds hS.rnd hop hres (fun h => by cases h) (fun v' hv ι' chain w' hext hpan hrg hn hrd hds => ?_)
          cases hv
          refine hP _ ι' a w' hext ⟨?_, ?_, hext.rel, ?_, ?_⟩ hpan
          · rw [hrg]; exact hS.reg.mono (hext.le hS.heap)
          · rw [hn]; exact hS.n
          · rw [hds]; exact hS.ds.mono (hext.le hS.heap)
          · rw [hrd]; exact hS.rnd
end Go.Am
