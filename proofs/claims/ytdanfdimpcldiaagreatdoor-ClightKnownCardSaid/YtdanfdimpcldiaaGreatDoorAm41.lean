/-
  Defines a predicate transformer for the abstract machine, with enough fuel left to choose, and proves it sound. Each theorem states its own conditions; there are no others.
-/
import Derived.Test.YtdanfdimpcldiaaGreatDoorAm40
set_option linter.unusedSimpArgs false
set_option linter.unusedVariables false
set_option linter.unusedVariables false
set_option linter.unusedSimpArgs false
set_option linter.unusedSectionVars false
namespace Go.Am
variable {E : Env}

/-- With enough fuel the call ends so. -/
def WCall (E : Env) (k : FuncId) (args : List AV) (h : AHeap) (Q : Out → AHeap → Prop) : Prop := ∃ n out h', (mach E n).call k args h = some (out, h') ∧ Q out h'
def WRound (E : Env) (l : Nat) (args : List AV) (h : AHeap) (Q : AV → AHeap → Prop) : Prop := ∃ n v h', (mach E n).round l args h = some (v, h') ∧ Q v h'
theorem WCall.mono {k : FuncId} {args : List AV} {h : AHeap} {Q Q' : Out → AHeap → Prop} (hw : WCall E k args h Q) (hq : ∀ out h', Q out h' → Q' out h') : WCall E k args h Q' := by
  obtain ⟨n, out, h', h1, h2⟩ := hw
  exact ⟨n, out, h', h1, hq _ _ h2⟩

def outK (d : Option Tmp) (st : St) (K : Option AV → St → Prop) (out : Out) (h' : AHeap) : Prop :=
  match out with
  | .ret v => K none { st with rg := putA st.rg d v, h := h' }
  | .pan v => K (some v) { st with h := h' }

def wpRes (E : Env) (d : Option Tmp) (st : St) (K : Option AV → St → Prop) : ORes × AHeap → Prop
  | (.val v, h) => K none { st with rg := putA st.rg d v, h := h }
  | (.skip, h) => K none { st with rg := putA st.rg d nil', h := h }
  | (.enter f args, h) => WCall E f args h (outK d st K)
  | (.yield l args, h) => WRound E l args h fun v h' => K none { st with rg := putA st.rg d v, h := h' }
  | (.defer f args, h) => st.rnd = false ∧ K none { st with rg := putA st.rg d nil', h := h, ds := .call f args :: st.ds }
  | (.recover, _) => False
  | (.panic v, h) => K (some v) { st with h := h }

theorem wpRes_sound {d : Option Tmp} {st : St} {K : Option AV → St → Prop} {x : ORes × AHeap} (h : wpRes E d st K x) : ∃ n p st', resA (mach E n).call (mach E n).round d st x = some (p, st') ∧ K p st' := by
  obtain ⟨o, hp⟩ := x
  cases o with
  | val v => exact ⟨0, none, _, rfl, h⟩
  | skip => exact ⟨0, none, _, rfl, h⟩
  | enter f args =>
    obtain ⟨n, out, h', h1, h2⟩ := h
    cases out with
    | ret v => exact ⟨n, none, _, by simp only [resA, h1], h2⟩
    | pan v => exact ⟨n, some v, _, by simp only [resA, h1], h2⟩
  | yield l args =>
    obtain ⟨n, v, h', h1, h2⟩ := h
    exact ⟨n, none, _, by simp only [resA, h1], h2⟩
  | defer f args =>
    refine ⟨0, none, _, ?_, h.2⟩
    simp only [resA]; rw [if_neg (by rw [h.1]; simp)]
  | recover => exact h.elim
  | panic v => exact ⟨0, some v, _, rfl, h⟩

def wpOps (E : Env) (ops : Array Oper) : List Oper → (AExit → St → Prop) → St → Prop
  | [], Q, st => Q .nrm st
  | o :: rest, Q, st => match wantedA ops st.n st.rg o with
    | none => False
    | some false => wpOps E ops rest Q { st with rg := putA st.rg o.dst nil' }
    | some true => match opA E st.rg st.h o with
      | none => False
      | some r => wpRes E o.dst st (fun p st' => match p with
        | none => wpOps E ops rest Q st'
        | some v => Q (.pan v) st') r

theorem wpOps_sound {ops : Array Oper} {Q : AExit → St → Prop} : ∀ {l : List Oper} {st : St}, wpOps E ops l Q st → ∃ n e st', opsA E (mach E n).call (mach E n).round ops l st = some (e, st') ∧ Q e st'
  | [], st, h => ⟨0, _, _, rfl, h⟩
  | o :: l, st, h => by
    simp only [wpOps] at h
    split at h
    · exact h.elim
    · rename_i hw
      obtain ⟨n, e, st', h1, h2⟩ := wpOps_sound h
      exact ⟨n, e, st', by simp only [opsA, hw]; exact h1, h2⟩
    · rename_i hw
      split at h
      · exact h.elim
      · rename_i r ho
        obtain ⟨n, p, st1, h1, h2⟩ := wpRes_sound h
        cases p with
        | none =>
          obtain ⟨m, e, st', h3, h4⟩ := wpOps_sound h2
          refine ⟨max n m, e, st', ?_, h4⟩
          have a := resA_mono (mach_mono (Nat.le_max_left n m)).1 (mach_mono (Nat.le_max_left n m)).2 h1
          have b := opsA_mono (mach_mono (Nat.le_max_right n m)).1 (mach_mono (Nat.le_max_right n m)).2 h3
          simp only [opsA, hw, ho, a]; exact b
        | some v => exact ⟨n, _, _, by simp only [opsA, hw, ho, h1], h2⟩

def wpDraw (E : Env) (ops : Array Oper) (bef : Nat → Nat) (base : Nat) : List (Oper × Nat) → (AExit → St → Prop) → St → List Snap → List Rd → Prop
  | [], Q, st, _, _ => Q .nrm st
  | (o, i) :: rest, Q, st, sn, rd => match wantedA ops st.n st.rg o with
    | none => False
    | some false => wpDraw E ops bef base rest Q { st with rg := putA st.rg o.dst nil' } sn rd
    | some true => match clsOf E o, opA E st.rg st.h o with
      | _, none => False
      | .pure, some (.val v, _) => wpDraw E ops bef base rest Q { st with rg := putA st.rg o.dst v } sn rd
      | .read, some (.val v, _) => sn.all (fun s => (bef i).testBit s.idx || sameRead E s.h st.rg o v) = true ∧
          wpDraw E ops bef base rest Q { st with rg := putA st.rg o.dst v } sn ({ idx := i, o := o, rg := st.rg, v := v } :: rd)
      | .alloc, some (.val v, h2) => match h2.get st.h.next, st.h.get (base + i), reid (base + i) v with
        | some obj, none, some v' => wpDraw E ops bef base rest Q { st with rg := putA st.rg o.dst v', h := st.h.set (base + i) obj } sn rd
        | _, _, _ => False
      | .eff, some r => sn.all (fun s => (bef i).testBit s.idx) = true ∧ wpRes E o.dst st (fun p st' => match p with
          | none => rd.all (fun r => (bef i).testBit r.idx || sameRead E st'.h r.rg r.o r.v) = true ∧ wpDraw E ops bef base rest Q st' ({ idx := i, h := st.h } :: sn) rd
          | some v => rest.all (fun x => (bef x.2).testBit i) = true ∧ Q (.pan v) { st' with rg := ops.foldl (fun r o => match o.dst with | some d => r.del d | none => r) st.rg }) r
      | _, some _ => False

theorem wpDraw_sound {ops : Array Oper} {bef : Nat → Nat} {base : Nat} {Q : AExit → St → Prop} : ∀ {l : List (Oper × Nat)} {st : St} {sn : List Snap} {rd : List Rd}, wpDraw E ops bef base l Q st sn rd →
    ∃ n e st', drawA E (mach E n).call (mach E n).round ops bef base l st sn rd = some (e, st') ∧ Q e st'
  | [], st, sn, rd, h => ⟨0, _, _, rfl, h⟩
  | (o, i) :: l, st, sn, rd, h => by
    simp only [wpDraw] at h
    split at h
    · exact h.elim
    · rename_i hw
      obtain ⟨n, e, st', h1, h2⟩ := wpDraw_sound h
      exact ⟨n, e, st', by simp only [drawA, hw]; exact h1, h2⟩
    · rename_i hw
      split at h
      · exact h.elim
      · rename_i hc ho
        obtain ⟨n, e, st', h1, h2⟩ := wpDraw_sound h
        exact ⟨n, e, st', by simp only [drawA, hw, hc, ho]; exact h1, h2⟩
      · rename_i hc ho
        obtain ⟨n, e, st', h1, h2⟩ := wpDraw_sound h.2
        exact ⟨n, e, st', by simp only [drawA, hw, hc, ho]; rw [if_pos h.1]; exact h1, h2⟩
      · rename_i hc ho
        split at h
        · rename_i g1 g2 g3
          obtain ⟨n, e, st', h1, h2⟩ := wpDraw_sound h
          exact ⟨n, e, st', by simp only [drawA, hw, hc, ho, g1, g2, g3]; exact h1, h2⟩
        · exact h.elim
      · rename_i hc ho
        obtain ⟨n, p, st1, h1, h2⟩ := wpRes_sound h.2
        cases p with
        | none =>
          obtain ⟨m, e, st', h3, h4⟩ := wpDraw_sound h2.2
          refine ⟨max n m, e, st', ?_, h4⟩
          have a := resA_mono (mach_mono (Nat.le_max_left n m)).1 (mach_mono (Nat.le_max_left n m)).2 h1
          have b := drawA_mono (mach_mono (Nat.le_max_right n m)).1 (mach_mono (Nat.le_max_right n m)).2 h3
          simp only [drawA, hw, hc, ho]; rw [if_pos h.1, a]; simp only; rw [if_pos h2.1]; exact b
        | some v =>
          refine ⟨n, _, _, ?_, h2.2⟩
          simp only [drawA, hw, hc, ho]; rw [if_pos h.1, h1]; simp only; rw [if_pos h2.1]; rfl
      · exact h.elim

def exBlock (id : Nat) (Q : AExit → St → Prop) (x : AExit) (st : St) : Prop :=
  match x with
  | .exit id' => if id' = id then Q .nrm st else Q (.exit id') st
  | x => Q x st
def exThen (K : St → Prop) (Q : AExit → St → Prop) (x : AExit) (st : St) : Prop :=
  match x with
  | .nrm => K st
  | x => Q x st

def wpReg (E : Env) (ops : Array Oper) (Q : AExit → St → Prop) (st : St) : Prop :=
  drawOk ops = true ∧ wpDraw E ops (befOf ops) st.h.next ops.toList.zipIdx Q { st with h := { st.h with next := st.h.next + ops.size } } [] []
def wpCode (E : Env) : Code → (AExit → St → Prop) → St → Prop
  | .skip, Q, st => Q .nrm st
  | .region _ ops false, Q, st => wpOps E ops ops.toList Q st
  | .region _ ops true, Q, st => wpReg E (permA E ops) Q st
  | .seq a b, Q, st => wpCode E a (exThen (wpCode E b Q) Q) st
  | .cond c a b, Q, st => ∃ x, evA st.rg c = some (.bool x) ∧ (x = true → wpCode E a Q st) ∧ (x = false → wpCode E b Q st)
  | .block id b, Q, st => wpCode E b (exBlock id Q) st
  | .loop b, Q, st => ∃ (I : Nat → St → Prop) (k : Nat), I k st ∧ ∀ k st, I k st → wpCode E b (exThen (fun st' => ∃ j, j < k ∧ I j st') Q) st
  | .exit id, Q, st => Q (.exit id) st
  | .ret, Q, st => Q .ret st
  | .label _, Q, st => Q .nrm st
  | .scope b, Q, st => wpCode E b Q st
  | c, Q, st => ∃ n x st', codeA E (mach E n).call (mach E n).round n c st = some (x, st') ∧ Q x st'

noncomputable abbrev cmach (E : Env) (n : Nat) (c : Code) (st : St) : Option (AExit × St) := codeA E (mach E n).call (mach E n).round n c st
theorem cmach_mono {n m : Nat} (h : n ≤ m) {c : Code} {st : St} {r : AExit × St} (hr : cmach E n c st = some r) : cmach E m c st = some r :=
  codeA_mono (mach_mono h).1 (mach_mono h).2 h hr

theorem wpLoop_sound {b : Code} {Q : AExit → St → Prop} {I : Nat → St → Prop} (hb : ∀ {Q : AExit → St → Prop} {st : St}, wpCode E b Q st → ∃ n x st', cmach E n b st = some (x, st') ∧ Q x st')
    (hI : ∀ k st, I k st → wpCode E b (exThen (fun st' => ∃ j, j < k ∧ I j st') Q) st) : ∀ (k : Nat) (st : St), I k st → ∃ n m x st', loopA (cmach E n b) m st = some (x, st') ∧ Q x st' := by
  intro k
  induction k using Nat.strongRecOn with
  | ind k ih =>
    intro st h
    obtain ⟨n, x, st1, h1, h2⟩ := hb (hI k st h)
    cases x with
    | nrm =>
      obtain ⟨j, hj, hI'⟩ := h2
      obtain ⟨n', m, x, st', h3, h4⟩ := ih j hj st1 hI'
      refine ⟨max n n', m + 1, x, st', ?_, h4⟩
      simp only [loopA]
      rw [cmach_mono (Nat.le_max_left n n') h1]
      exact loopA_mono (fun _ _ hr => cmach_mono (Nat.le_max_right n n') hr) (Nat.le_refl _) h3
    | exit id => exact ⟨n, 1, _, _, by simp only [loopA]; rw [h1], h2⟩
    | ret => exact ⟨n, 1, _, _, by simp only [loopA]; rw [h1], h2⟩
    | pan v => exact ⟨n, 1, _, _, by simp only [loopA]; rw [h1], h2⟩

theorem wpCode_sound : ∀ {c : Code} {Q : AExit → St → Prop} {st : St}, wpCode E c Q st → ∃ n x st', cmach E n c st = some (x, st') ∧ Q x st' := by
  intro c
  induction c with
  | skip => intro Q st h; exact ⟨0, _, _, rfl, h⟩
  | region id ops d =>
    intro Q st h
    cases d with
    | false =>
      obtain ⟨n, e, st', h1, h2⟩ := wpOps_sound h
      exact ⟨n, e, st', h1, h2⟩
    | true =>
      obtain ⟨n, e, st', h1, h2⟩ := wpDraw_sound h.2
      exact ⟨n, e, st', by simp only [cmach, codeA, drawReg]; rw [if_pos h.1]; exact h1, h2⟩
  | seq a b iha ihb =>
    intro Q st h
    obtain ⟨n, x, st1, h1, h2⟩ := iha h
    cases x with
    | nrm =>
      obtain ⟨m, x, st', h3, h4⟩ := ihb h2
      refine ⟨max n m, x, st', ?_, h4⟩
      have a := cmach_mono (Nat.le_max_left n m) h1
      have b := cmach_mono (Nat.le_max_right n m) h3
      simp only [cmach, codeA] at a b ⊢
      rw [a]; exact b
    | exit id => exact ⟨n, _, _, by simp only [cmach, codeA] at h1 ⊢; rw [h1], h2⟩
    | ret => exact ⟨n, _, _, by simp only [cmach, codeA] at h1 ⊢; rw [h1], h2⟩
    | pan v => exact ⟨n, _, _, by simp only [cmach, codeA] at h1 ⊢; rw [h1], h2⟩
  | cond o a b iha ihb =>
    intro Q st h
    obtain ⟨x, hx, ht, hf⟩ := h
    cases x with
    | true =>
      obtain ⟨n, x, st', h1, h2⟩ := iha (ht rfl)
      exact ⟨n, x, st', by simp only [cmach, codeA, hx]; exact h1, h2⟩
    | false =>
      obtain ⟨n, x, st', h1, h2⟩ := ihb (hf rfl)
      exact ⟨n, x, st', by simp only [cmach, codeA, hx]; exact h1, h2⟩
  | block id b ih =>
    intro Q st h
    obtain ⟨n, x, st1, h1, h2⟩ := ih h
    cases x with
    | exit id' =>
      simp only [exBlock] at h2
      by_cases e : id' = id
      · rw [if_pos e] at h2
        exact ⟨n, _, _, by simp only [cmach, codeA] at h1 ⊢; rw [h1]; simp only; rw [if_pos e], h2⟩
      · rw [if_neg e] at h2
        exact ⟨n, _, _, by simp only [cmach, codeA] at h1 ⊢; rw [h1]; simp only; rw [if_neg e], h2⟩
    | nrm => exact ⟨n, _, _, by simp only [cmach, codeA] at h1 ⊢; rw [h1], h2⟩
    | ret => exact ⟨n, _, _, by simp only [cmach, codeA] at h1 ⊢; rw [h1], h2⟩
    | pan v => exact ⟨n, _, _, by simp only [cmach, codeA] at h1 ⊢; rw [h1], h2⟩
  | loop b ih =>
    intro Q st h
    obtain ⟨I, k, hk, hI⟩ := h
    obtain ⟨n, m, x, st', h1, h2⟩ := wpLoop_sound ih hI k st hk
    refine ⟨max n m, x, st', ?_, h2⟩
    simp only [cmach, codeA]
    exact loopA_mono (fun _ _ hr => cmach_mono (Nat.le_max_left n m) hr) (Nat.le_max_right n m) h1
  | exit id => intro Q st h; exact ⟨0, _, _, rfl, h⟩
  | ret => intro Q st h; exact ⟨0, _, _, rfl, h⟩
  | label l => intro Q st h; exact ⟨0, _, _, rfl, h⟩
  | scope b ih =>
    intro Q st h
    obtain ⟨n, x, st', h1, h2⟩ := ih h
    exact ⟨n, x, st', h1, h2⟩
  | _ => intro Q st h; exact h

/-- A body's end, where nothing was deferred. -/
def atEnd (E : Env) (fn : Func) (Q : Out → AHeap → Prop) (x : AExit) (st : St) : Prop :=
  match x with
  | .nrm | .ret => st.ds = [] ∧ ∃ vs, resultsA E st.rg st.h fn.results.toList = some vs ∧ Q (.ret (oneOf vs)) st.h
  | .pan v => st.ds = [] ∧ Q (.pan v) st.h
  | _ => False

theorem WCall.body {k : FuncId} {fn : Func} {c : Code} {args : List AV} {h : AHeap} {Q : Out → AHeap → Prop} (hp : E.prim k = none) (hf : E.fn k = some fn) (hb : fn.body = some c) (hl : args.length ≤ fn.ntmps)
    (hw : wpCode E c (atEnd E fn Q) { rg := argsA args 0 .nil, n := fn.ntmps, h := h, ds := [], rnd := false }) : WCall E k args h Q := by
  obtain ⟨n, x, st, h1, h2⟩ := wpCode_sound hw
  have key : ∀ out h', leaveA E (deferA E (mach E n).call (mach E n).round n) fn st.rg st.ds (match x with | .pan v => some v | _ => none) st.h = some (out, h') → (x = .nrm ∨ x = .ret ∨ ∃ v, x = .pan v) → Q out h' → WCall E k args h Q := by
    intro out h' hlv hx hq
    refine ⟨n + 1, out, h', ?_, hq⟩
    simp only [mach, bodyA, bodyOf, Env.told, hp, hf, hb]
    rw [if_pos hl]
    simp only [cmach] at h1
    rw [h1]
    rcases hx with rfl | rfl | ⟨v, rfl⟩ <;> exact hlv
  cases x with
  | nrm =>
    obtain ⟨hd, vs, hv, hq⟩ := h2
    exact key _ _ (by rw [hd]; simp only [leaveA, hv]) (.inl rfl) hq
  | ret =>
    obtain ⟨hd, vs, hv, hq⟩ := h2
    exact key _ _ (by rw [hd]; simp only [leaveA, hv]) (.inr (.inl rfl)) hq
  | pan v =>
    obtain ⟨hd, hq⟩ := h2
    exact key _ _ (by rw [hd]; simp only [leaveA]) (.inr (.inr ⟨v, rfl⟩)) hq
  | exit id => exact h2.elim

theorem WCall.prim {k : FuncId} {f : List AV → AHeap → Option (Out × AHeap)} {args : List AV} {h : AHeap} {Q : Out → AHeap → Prop} {out : Out} {h' : AHeap} (hp : E.prim k = some f) (hf : f args h = some (out, h')) (hq : Q out h') : WCall E k args h Q :=
  ⟨1, out, h', by simp only [mach, bodyA, Env.told, hp, hf], hq⟩

/-- From the machine to the model. -/
theorem WCall.calls [Base] (hE : E.Ok) (hpr : PrimOk E) {k : FuncId} {args : List AV} {h : AHeap} {Q : Out → AHeap → Prop} (hw : WCall E k args h Q) {ι : Inj} {w : World} {args' : Array Value} (hH : HRel ι h w) (hv : VsRel ι args args'.toList) :
    Calls E.P k args' w fun e w' => ∃ out h' ι', Q out h' ∧ Ext ι h w ι' h' w' ∧ OutRel ι' out e := by
  obtain ⟨n, out, h', h1, h2⟩ := hw
  exact (run_calls hE hpr h1 hH hv).mono fun e w' ⟨ι', he, ho⟩ => ⟨out, h', ι', h2, he, ho⟩
end Go.Am
