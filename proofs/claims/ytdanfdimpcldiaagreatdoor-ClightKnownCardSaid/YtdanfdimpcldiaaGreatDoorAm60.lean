/-
  Steps of the abstract machine's predicate transformer, for walks by hand. Each theorem states its own conditions; there are no others.
-/
import Derived.Test.YtdanfdimpcldiaaGreatDoorAm53
set_option linter.unusedSimpArgs false
set_option linter.unusedVariables false
set_option linter.unusedVariables false
namespace Go.Am
variable {E : Env}

/-- One operation that is wanted. -/
def wpOne (E : Env) (ops : Array Oper) (o : Oper) (rest : List Oper) (Q : AExit → St → Prop) (rg : T AV) (n : Nat) (h : AHeap) (ds : List ADef) (rnd : Bool) : Prop :=
  ∃ r, opK0 E rg h o = some r ∧ wpRes E o.dst ⟨rg, n, h, ds, rnd⟩ (fun p st' => match p with
        | none => wpOps E ops rest Q st'
        | some v => Q (.pan v) st') r
theorem wpOps_one {ops : Array Oper} {o : Oper} {rest : List Oper} {Q : AExit → St → Prop} {rg : T AV} {n : Nat} {h : AHeap} {ds : List ADef} {rnd : Bool}
    (hw : wantedA ops n rg o = some true) (hk : wpOne E ops o rest Q rg n h ds rnd) : wpOps E ops (o :: rest) Q ⟨rg, n, h, ds, rnd⟩ := by
  obtain ⟨r, h1, h2⟩ := hk
  simp only [wpOps, hw]
  rw [← opK0_eq, h1]
  exact h2
theorem wpOps_skip {ops : Array Oper} {o : Oper} {rest : List Oper} {Q : AExit → St → Prop} {rg : T AV} {n : Nat} {h : AHeap} {ds : List ADef} {rnd : Bool}
    (hw : wantedA ops n rg o = some false) (hk : wpOps E ops rest Q ⟨putA rg o.dst nil', n, h, ds, rnd⟩) : wpOps E ops (o :: rest) Q ⟨rg, n, h, ds, rnd⟩ := by
  simp only [wpOps, hw]; exact hk
theorem wpOps_val {ops : Array Oper} {o : Oper} {rest : List Oper} {Q : AExit → St → Prop} {rg : T AV} {n : Nat} {h h' : AHeap} {ds : List ADef} {rnd : Bool} {v : AV}
    (hw : wantedA ops n rg o = some true) (ho : opK0 E rg h o = some (.val v, h')) (hk : wpOps E ops rest Q ⟨putA rg o.dst v, n, h', ds, rnd⟩) : wpOps E ops (o :: rest) Q ⟨rg, n, h, ds, rnd⟩ :=
  wpOps_one hw ⟨_, ho, hk⟩
theorem wpOps_store {ops : Array Oper} {o : Oper} {rest : List Oper} {Q : AExit → St → Prop} {rg : T AV} {n : Nat} {h h' : AHeap} {ds : List ADef} {rnd : Bool}
    (hw : wantedA ops n rg o = some true) (ho : opK0 E rg h o = some (.skip, h')) (hk : wpOps E ops rest Q ⟨putA rg o.dst nil', n, h', ds, rnd⟩) : wpOps E ops (o :: rest) Q ⟨rg, n, h, ds, rnd⟩ :=
  wpOps_one hw ⟨_, ho, hk⟩
theorem wpOps_call {ops : Array Oper} {o : Oper} {rest : List Oper} {Q : AExit → St → Prop} {rg : T AV} {n : Nat} {h h' : AHeap} {ds : List ADef} {rnd : Bool} {f : FuncId} {args : List AV}
    (hw : wantedA ops n rg o = some true) (ho : opK0 E rg h o = some (.enter f args, h'))
    (hk : WCall E f args h' fun out h2 => match out with
      | .ret v => wpOps E ops rest Q ⟨putA rg o.dst v, n, h2, ds, rnd⟩
      | .pan v => Q (.pan v) ⟨rg, n, h2, ds, rnd⟩) : wpOps E ops (o :: rest) Q ⟨rg, n, h, ds, rnd⟩ :=
  wpOps_one hw ⟨_, ho, hk.mono fun out h2 hq => by cases out <;> exact hq⟩
/-- A guard that hangs on a test: both ways. -/
theorem wpOps_guard {ops : Array Oper} {o : Oper} {rest : List Oper} {Q : AExit → St → Prop} {rg : T AV} {n : Nat} {h : AHeap} {ds : List ADef} {rnd : Bool} {b : Bool}
    (hw : wantedA ops n rg o = some b) (ht : b = true → wpOne E ops o rest Q rg n h ds rnd) (hf : b = false → wpOps E ops rest Q ⟨putA rg o.dst nil', n, h, ds, rnd⟩) : wpOps E ops (o :: rest) Q ⟨rg, n, h, ds, rnd⟩ := by
  cases b with
  | true => exact wpOps_one hw (ht rfl)
  | false => exact wpOps_skip hw (hf rfl)
theorem wpOne_val {ops : Array Oper} {o : Oper} {rest : List Oper} {Q : AExit → St → Prop} {rg : T AV} {n : Nat} {h h' : AHeap} {ds : List ADef} {rnd : Bool} {v : AV}
    (ho : opK0 E rg h o = some (.val v, h')) (hk : wpOps E ops rest Q ⟨putA rg o.dst v, n, h', ds, rnd⟩) : wpOne E ops o rest Q rg n h ds rnd := ⟨_, ho, hk⟩

theorem aw_nil {ops : Array Oper} {Q : AExit → St → Prop} {st : St} (h : Q .nrm st) : wpOps E ops [] Q st := h
theorem aw_then {K : St → Prop} {Q : AExit → St → Prop} {st : St} (h : K st) : exThen K Q .nrm st := h
theorem aw_thenR {K : St → Prop} {Q : AExit → St → Prop} {st : St} (h : Q .ret st) : exThen K Q .ret st := h
theorem aw_thenE {K : St → Prop} {Q : AExit → St → Prop} {st : St} {id : Nat} (h : Q (.exit id) st) : exThen K Q (.exit id) st := h
theorem aw_thenP {K : St → Prop} {Q : AExit → St → Prop} {st : St} {v : AV} (h : Q (.pan v) st) : exThen K Q (.pan v) st := h
theorem aw_blockN {id : Nat} {Q : AExit → St → Prop} {st : St} (h : Q .nrm st) : exBlock id Q .nrm st := h
theorem aw_blockR {id : Nat} {Q : AExit → St → Prop} {st : St} (h : Q .ret st) : exBlock id Q .ret st := h
theorem aw_blockP {id : Nat} {Q : AExit → St → Prop} {st : St} {v : AV} (h : Q (.pan v) st) : exBlock id Q (.pan v) st := h
theorem aw_blockE {id : Nat} {Q : AExit → St → Prop} {st : St} (h : Q .nrm st) : exBlock id Q (.exit id) st := by simp only [exBlock, if_true]; exact h
theorem aw_blockE' {id id' : Nat} {Q : AExit → St → Prop} {st : St} (hne : Nat.beq id' id = false) (h : Q (.exit id') st) : exBlock id Q (.exit id') st := by
  have : ¬ id' = id := fun e => by subst e; simp at hne
  simp only [exBlock, if_neg this]; exact h
theorem aw_ret {Q : AExit → St → Prop} {st : St} (h : Q .ret st) : wpCode E .ret Q st := h
theorem aw_exit {id : Nat} {Q : AExit → St → Prop} {st : St} (h : Q (.exit id) st) : wpCode E (.exit id) Q st := h
theorem aw_skip {Q : AExit → St → Prop} {st : St} (h : Q .nrm st) : wpCode E .skip Q st := h
/-- Names kept free. -/
def AHeap.bump (h : AHeap) (k : Nat) : AHeap := { h with next := h.next + k }
theorem AHeap.get_bump (h : AHeap) (k i : Nat) : (h.bump k).get i = h.get i := rfl
theorem AHeap.next_bump (h : AHeap) (k : Nat) : (h.bump k).next = h.next + k := rfl
/-- A region whose order is drawn. -/
theorem aw_draw {id : Nat} {ops : Array Oper} {Q : AExit → St → Prop} {rg : T AV} {n : Nat} {h : AHeap} {ds : List ADef} {rnd : Bool} (hp : permNeeded E ops = false) (hd : drawOk ops = true)
    (hk : wpDraw E ops (befOf ops) h.next ops.toList.zipIdx Q ⟨rg, n, h.bump ops.size, ds, rnd⟩ [] []) : wpCode E (.region id ops true) Q ⟨rg, n, h, ds, rnd⟩ := by
  have : permA E ops = ops := by unfold permA; rw [hp]; rfl
  show wpReg E (permA E ops) Q _
  rw [this]
  exact ⟨hd, hk⟩
theorem dw_nil {ops : Array Oper} {bef : Nat → Nat} {base : Nat} {Q : AExit → St → Prop} {st : St} {sn : List Snap} {rd : List Rd} (h : Q .nrm st) : wpDraw E ops bef base [] Q st sn rd := h
theorem dw_skip {ops : Array Oper} {bef : Nat → Nat} {base : Nat} {o : Oper} {i : Nat} {rest : List (Oper × Nat)} {Q : AExit → St → Prop} {rg : T AV} {n : Nat} {h : AHeap} {ds : List ADef} {rnd : Bool} {sn : List Snap} {rd : List Rd}
    (hw : wantedA ops n rg o = some false) (hk : wpDraw E ops bef base rest Q ⟨putA rg o.dst nil', n, h, ds, rnd⟩ sn rd) : wpDraw E ops bef base ((o, i) :: rest) Q ⟨rg, n, h, ds, rnd⟩ sn rd := by
  simp only [wpDraw, hw]; exact hk
theorem dw_pure {ops : Array Oper} {bef : Nat → Nat} {base : Nat} {o : Oper} {i : Nat} {rest : List (Oper × Nat)} {Q : AExit → St → Prop} {rg : T AV} {n : Nat} {h h' : AHeap} {ds : List ADef} {rnd : Bool} {sn : List Snap} {rd : List Rd} {v : AV}
    (hw : wantedA ops n rg o = some true) (hc : clsOf E o = .pure) (ho : opK0 E rg h o = some (.val v, h')) (hk : wpDraw E ops bef base rest Q ⟨putA rg o.dst v, n, h, ds, rnd⟩ sn rd) : wpDraw E ops bef base ((o, i) :: rest) Q ⟨rg, n, h, ds, rnd⟩ sn rd := by
  simp only [wpDraw, hw, hc]
  rw [← opK0_eq, ho]; exact hk
theorem dw_read {ops : Array Oper} {bef : Nat → Nat} {base : Nat} {o : Oper} {i : Nat} {rest : List (Oper × Nat)} {Q : AExit → St → Prop} {rg : T AV} {n : Nat} {h h' : AHeap} {ds : List ADef} {rnd : Bool} {rd : List Rd} {v : AV}
    (hw : wantedA ops n rg o = some true) (hc : clsOf E o = .read) (ho : opK0 E rg h o = some (.val v, h')) (hk : wpDraw E ops bef base rest Q ⟨putA rg o.dst v, n, h, ds, rnd⟩ [] ({ idx := i, o := o, rg := rg, v := v } :: rd)) :
    wpDraw E ops bef base ((o, i) :: rest) Q ⟨rg, n, h, ds, rnd⟩ [] rd := by
  simp only [wpDraw, hw, hc]
  rw [← opK0_eq, ho]; exact ⟨rfl, hk⟩
theorem dw_alloc {ops : Array Oper} {bef : Nat → Nat} {base : Nat} {o : Oper} {i : Nat} {rest : List (Oper × Nat)} {Q : AExit → St → Prop} {rg : T AV} {n : Nat} {h h' : AHeap} {ds : List ADef} {rnd : Bool} {sn : List Snap} {rd : List Rd} {v v' : AV} {ob : AObj}
    (hw : wantedA ops n rg o = some true) (hc : clsOf E o = .alloc) (ho : opK0 E rg h o = some (.val v, h')) (h1 : h'.get h.next = some ob) (h2 : h.get (base + i) = none) (h3 : reid (base + i) v = some v')
    (hk : wpDraw E ops bef base rest Q ⟨putA rg o.dst v', n, h.set (base + i) ob, ds, rnd⟩ sn rd) : wpDraw E ops bef base ((o, i) :: rest) Q ⟨rg, n, h, ds, rnd⟩ sn rd := by
  simp only [wpDraw, hw, hc]
  rw [← opK0_eq, ho]
  simp only [h1, h2, h3]
  exact hk
/-- A store: all reads ahead of it are ordered, or read the same behind it. -/
theorem dw_store {ops : Array Oper} {bef : Nat → Nat} {base : Nat} {o : Oper} {i : Nat} {rest : List (Oper × Nat)} {Q : AExit → St → Prop} {rg : T AV} {n : Nat} {h h' : AHeap} {ds : List ADef} {rnd : Bool} {sn : List Snap} {rd : List Rd}
    (hw : wantedA ops n rg o = some true) (hc : clsOf E o = .eff) (ho : opK0 E rg h o = some (.skip, h')) (h1 : sn.all (fun s => (bef i).testBit s.idx) = true) (h2 : rd.all (fun r => (bef i).testBit r.idx || sameRead E h' r.rg r.o r.v) = true)
    (hk : wpDraw E ops bef base rest Q ⟨putA rg o.dst nil', n, h', ds, rnd⟩ ({ idx := i, h := h } :: sn) rd) : wpDraw E ops bef base ((o, i) :: rest) Q ⟨rg, n, h, ds, rnd⟩ sn rd := by
  simp only [wpDraw, hw, hc]
  rw [← opK0_eq, ho]
  exact ⟨h1, h2, hk⟩
theorem dw_guard {ops : Array Oper} {bef : Nat → Nat} {base : Nat} {o : Oper} {i : Nat} {rest : List (Oper × Nat)} {Q : AExit → St → Prop} {rg : T AV} {n : Nat} {h : AHeap} {ds : List ADef} {rnd : Bool} {sn : List Snap} {rd : List Rd} {b : Bool}
    (hw : wantedA ops n rg o = some b) (ht : b = true → wantedA ops n rg o = some true → wpDraw E ops bef base ((o, i) :: rest) Q ⟨rg, n, h, ds, rnd⟩ sn rd) (hf : b = false → wpDraw E ops bef base rest Q ⟨putA rg o.dst nil', n, h, ds, rnd⟩ sn rd) :
    wpDraw E ops bef base ((o, i) :: rest) Q ⟨rg, n, h, ds, rnd⟩ sn rd := by
  cases b with
  | true => exact ht rfl hw
  | false => exact dw_skip hw (hf rfl)

theorem aw_seq {a b : Code} {Q : AExit → St → Prop} {st : St} (h : wpCode E a (exThen (wpCode E b Q) Q) st) : wpCode E (.seq a b) Q st := h
theorem aw_region {id : Nat} {ops : Array Oper} {Q : AExit → St → Prop} {st : St} (h : wpOps E ops ops.toList Q st) : wpCode E (.region id ops false) Q st := h
theorem aw_block {id : Nat} {b : Code} {Q : AExit → St → Prop} {st : St} (h : wpCode E b (exBlock id Q) st) : wpCode E (.block id b) Q st := h
theorem aw_cond {c : Operand} {a b : Code} {Q : AExit → St → Prop} {rg : T AV} {n : Nat} {h : AHeap} {ds : List ADef} {rnd : Bool} {x : Bool} (hc : evA rg c = some (.bool x))
    (ht : x = true → wpCode E a Q ⟨rg, n, h, ds, rnd⟩) (hf : x = false → wpCode E b Q ⟨rg, n, h, ds, rnd⟩) : wpCode E (.cond c a b) Q ⟨rg, n, h, ds, rnd⟩ := ⟨x, hc, ht, hf⟩
theorem aw_condT {c : Operand} {a b : Code} {Q : AExit → St → Prop} {rg : T AV} {n : Nat} {h : AHeap} {ds : List ADef} {rnd : Bool} (hc : evA rg c = some (.bool true))
    (ht : wpCode E a Q ⟨rg, n, h, ds, rnd⟩) : wpCode E (.cond c a b) Q ⟨rg, n, h, ds, rnd⟩ := ⟨true, hc, fun _ => ht, (fun e => by cases e)⟩
theorem aw_condF {c : Operand} {a b : Code} {Q : AExit → St → Prop} {rg : T AV} {n : Nat} {h : AHeap} {ds : List ADef} {rnd : Bool} (hc : evA rg c = some (.bool false))
    (hf : wpCode E b Q ⟨rg, n, h, ds, rnd⟩) : wpCode E (.cond c a b) Q ⟨rg, n, h, ds, rnd⟩ := ⟨false, hc, (fun e => by cases e), fun _ => hf⟩

/-! ### The same, for regions as they are written -/
theorem aw_regionL {id : Nat} {l : List Oper} {Q : AExit → St → Prop} {st : St} (h : wpOps E l.toArray l Q st) : wpCode E (.region id l.toArray false) Q st := h
theorem aw_drawL {id : Nat} {l : List Oper} {zl : List (Oper × Nat)} {Q : AExit → St → Prop} {rg : T AV} {n : Nat} {h : AHeap} {ds : List ADef} {rnd : Bool} (hz : l.zipIdx = zl) (hp : permNeeded E l.toArray = false) (hd : drawOk l.toArray = true)
    (hk : wpDraw E l.toArray (befOf l.toArray) h.next zl Q ⟨rg, n, h.bump l.length, ds, rnd⟩ [] []) : wpCode E (.region id l.toArray true) Q ⟨rg, n, h, ds, rnd⟩ := by
  subst hz
  exact aw_draw hp hd hk
theorem aw_scope {b : Code} {Q : AExit → St → Prop} {st : St} (h : wpCode E b Q st) : wpCode E (.scope b) Q st := h
/-- A loop, by a measure and an invariant. -/
theorem aw_loop {b : Code} {Q : AExit → St → Prop} {st : St} (I : Nat → St → Prop) (k : Nat) (h0 : I k st) (hs : ∀ k st, I k st → wpCode E b (exThen (fun st' => ∃ j, j < k ∧ I j st') Q) st) : wpCode E (.loop b) Q st := ⟨I, k, h0, hs⟩

/-! ### Steps with the register they write -/
section
variable {ops : Array Oper} {o : Oper} {rest : List Oper} {Q : AExit → St → Prop} {rg : T AV} {n : Nat} {h h' : AHeap} {ds : List ADef} {rnd : Bool} {v : AV} {t : Tmp}
theorem wpOps_skipT (hw : wantedA ops n rg o = some false) (hd : o.dst = some t) (hk : wpOps E ops rest Q ⟨rg.set nil' t, n, h, ds, rnd⟩) : wpOps E ops (o :: rest) Q ⟨rg, n, h, ds, rnd⟩ :=
  wpOps_skip hw (by rw [hd]; exact hk)
theorem wpOps_skipN (hw : wantedA ops n rg o = some false) (hd : o.dst = none) (hk : wpOps E ops rest Q ⟨rg, n, h, ds, rnd⟩) : wpOps E ops (o :: rest) Q ⟨rg, n, h, ds, rnd⟩ :=
  wpOps_skip hw (by rw [hd]; exact hk)
theorem wpOps_valT (hw : wantedA ops n rg o = some true) (hd : o.dst = some t) (ho : opK0 E rg h o = some (.val v, h')) (hk : wpOps E ops rest Q ⟨rg.set v t, n, h', ds, rnd⟩) : wpOps E ops (o :: rest) Q ⟨rg, n, h, ds, rnd⟩ :=
  wpOps_val hw ho (by rw [hd]; exact hk)
theorem wpOps_storeN (hw : wantedA ops n rg o = some true) (hd : o.dst = none) (ho : opK0 E rg h o = some (.skip, h')) (hk : wpOps E ops rest Q ⟨rg, n, h', ds, rnd⟩) : wpOps E ops (o :: rest) Q ⟨rg, n, h, ds, rnd⟩ :=
  wpOps_store hw ho (by rw [hd]; exact hk)
theorem wpOps_callT {f : FuncId} {args : List AV} (hw : wantedA ops n rg o = some true) (hd : o.dst = some t) (ho : opK0 E rg h o = some (.enter f args, h'))
    (hk : WCall E f args h' fun out h2 => match out with
      | .ret v => wpOps E ops rest Q ⟨rg.set v t, n, h2, ds, rnd⟩
      | .pan v => Q (.pan v) ⟨rg, n, h2, ds, rnd⟩) : wpOps E ops (o :: rest) Q ⟨rg, n, h, ds, rnd⟩ :=
  wpOps_call hw ho (hk.mono fun out h2 hq => by rw [hd]; exact hq)
variable {bef : Nat → Nat} {base : Nat} {i : Nat} {restZ : List (Oper × Nat)} {sn : List Snap} {rd : List Rd}
theorem dw_skipT (hw : wantedA ops n rg o = some false) (hd : o.dst = some t) (hk : wpDraw E ops bef base restZ Q ⟨rg.set nil' t, n, h, ds, rnd⟩ sn rd) : wpDraw E ops bef base ((o, i) :: restZ) Q ⟨rg, n, h, ds, rnd⟩ sn rd :=
  dw_skip hw (by rw [hd]; exact hk)
theorem dw_pureT (hw : wantedA ops n rg o = some true) (hd : o.dst = some t) (hc : clsOf E o = .pure) (ho : opK0 E rg h o = some (.val v, h')) (hk : wpDraw E ops bef base restZ Q ⟨rg.set v t, n, h, ds, rnd⟩ sn rd) : wpDraw E ops bef base ((o, i) :: restZ) Q ⟨rg, n, h, ds, rnd⟩ sn rd :=
  dw_pure hw hc ho (by rw [hd]; exact hk)
theorem dw_readT (hw : wantedA ops n rg o = some true) (hd : o.dst = some t) (hc : clsOf E o = .read) (ho : opK0 E rg h o = some (.val v, h')) (hk : wpDraw E ops bef base restZ Q ⟨rg.set v t, n, h, ds, rnd⟩ [] ({ idx := i, o := o, rg := rg, v := v } :: rd)) :
    wpDraw E ops bef base ((o, i) :: restZ) Q ⟨rg, n, h, ds, rnd⟩ [] rd :=
  dw_read hw hc ho (by rw [hd]; exact hk)
theorem dw_allocT {v' : AV} {ob : AObj} (hw : wantedA ops n rg o = some true) (hd : o.dst = some t) (hc : clsOf E o = .alloc) (ho : opK0 E rg h o = some (.val v, h')) (h1 : h'.get h.next = some ob) (h2 : h.get (base + i) = none) (h3 : reid (base + i) v = some v')
    (hk : wpDraw E ops bef base restZ Q ⟨rg.set v' t, n, h.set (base + i) ob, ds, rnd⟩ sn rd) : wpDraw E ops bef base ((o, i) :: restZ) Q ⟨rg, n, h, ds, rnd⟩ sn rd :=
  dw_alloc hw hc ho h1 h2 h3 (by rw [hd]; exact hk)
theorem dw_storeN (hw : wantedA ops n rg o = some true) (hd : o.dst = none) (hc : clsOf E o = .eff) (ho : opK0 E rg h o = some (.skip, h')) (h1 : sn.all (fun s => (bef i).testBit s.idx) = true) (h2 : rd.all (fun r => (bef i).testBit r.idx || sameRead E h' r.rg r.o r.v) = true)
    (hk : wpDraw E ops bef base restZ Q ⟨rg, n, h', ds, rnd⟩ ({ idx := i, h := h } :: sn) rd) : wpDraw E ops bef base ((o, i) :: restZ) Q ⟨rg, n, h, ds, rnd⟩ sn rd :=
  dw_store hw hc ho h1 h2 (by rw [hd]; exact hk)
theorem dw_callT {f : FuncId} {args : List AV} (hw : wantedA ops n rg o = some true) (hd : o.dst = some t) (hc : clsOf E o = .eff) (ho : opK0 E rg h o = some (.enter f args, h')) (h1 : sn.all (fun s => (bef i).testBit s.idx) = true)
    (hk : WCall E f args h' fun out h2 => match out with
      | .ret v => rd.all (fun r => (bef i).testBit r.idx || sameRead E h2 r.rg r.o r.v) = true ∧ wpDraw E ops bef base restZ Q ⟨rg.set v t, n, h2, ds, rnd⟩ ({ idx := i, h := h } :: sn) rd
      | .pan _ => False) : wpDraw E ops bef base ((o, i) :: restZ) Q ⟨rg, n, h, ds, rnd⟩ sn rd := by
  simp only [wpDraw, hw, hc]
  rw [← opK0_eq, ho]
  refine ⟨h1, hk.mono fun out h2 hq => ?_⟩
  cases out with
  | ret v => simp only [outK, hd]; exact hq
  | pan v => exact hq.elim
end

/-! ### Integers in a walk -/
section
variable {t : TypeId} {k : IntKind} {a b : Int}
theorem bin_eql : pureAV (Go.binOp .eql t (.int k a) (.int k b)) = some (.bool (a == b)) := by simp [Go.binOp, Op.intCmp, pureAV, toAV0, pure, Sem.pure]
theorem bin_neq : pureAV (Go.binOp .neq t (.int k a) (.int k b)) = some (.bool (a != b)) := by simp [Go.binOp, Op.intCmp, pureAV, toAV0, pure, Sem.pure]
theorem bin_lss : pureAV (Go.binOp .lss t (.int k a) (.int k b)) = some (.bool (decide (a < b))) := by simp [Go.binOp, Op.intCmp, pureAV, toAV0, pure, Sem.pure]
theorem bin_leq : pureAV (Go.binOp .leq t (.int k a) (.int k b)) = some (.bool (decide (a ≤ b))) := by simp [Go.binOp, Op.intCmp, pureAV, toAV0, pure, Sem.pure]
theorem bin_gtr : pureAV (Go.binOp .gtr t (.int k a) (.int k b)) = some (.bool (decide (b < a))) := by simp [Go.binOp, Op.intCmp, pureAV, toAV0, pure, Sem.pure]
theorem bin_geq : pureAV (Go.binOp .geq t (.int k a) (.int k b)) = some (.bool (decide (b ≤ a))) := by simp [Go.binOp, Op.intCmp, pureAV, toAV0, pure, Sem.pure]
theorem bin_add : pureAV (Go.binOp .add t (.int .i64 a) (.int .i64 b)) = some (.int .i64 (IntKind.wrap .i64 (a + b))) := by simp [Go.binOp, Op.intArith, pureAV, toAV0, pure, Sem.pure]
theorem bin_sub : pureAV (Go.binOp .sub t (.int .i64 a) (.int .i64 b)) = some (.int .i64 (IntKind.wrap .i64 (a - b))) := by simp [Go.binOp, Op.intArith, pureAV, toAV0, pure, Sem.pure]
theorem bin_mul : pureAV (Go.binOp .mul t (.int .i64 a) (.int .i64 b)) = some (.int .i64 (IntKind.wrap .i64 (a * b))) := by simp [Go.binOp, Op.intArith, pureAV, toAV0, pure, Sem.pure]
theorem bin_quo (hb : b ≠ 0) : pureAV (Go.binOp .quo t (.int .i64 a) (.int .i64 b)) = some (.int .i64 (IntKind.wrap .i64 (a.tdiv b))) := by simp [Go.binOp, Op.intDiv, hb, pureAV, toAV0, pure, Sem.pure]
theorem bin_rem (hb : b ≠ 0) : pureAV (Go.binOp .rem t (.int .i64 a) (.int .i64 b)) = some (.int .i64 (a.tmod b)) := by simp [Go.binOp, Op.intDiv, hb, pureAV, toAV0, pure, Sem.pure]
theorem un_not {b : Bool} : pureAV (Op.unary .not (.bool b)) = some (.bool (!b)) := by simp [Op.unary, pureAV, toAV0, pure, Sem.pure]
end
/-! ### Less asked, more told -/
theorem wpRes_mono {d : Option Tmp} {st : St} {K K' : Option AV → St → Prop} (hK : ∀ p st', K p st' → K' p st') {x : ORes × AHeap} (h : wpRes E d st K x) : wpRes E d st K' x := by
  obtain ⟨o, hp⟩ := x
  cases o with
  | val v => exact hK _ _ h
  | skip => exact hK _ _ h
  | enter f args => exact WCall.mono h fun out h' hq => by cases out <;> exact hK _ _ hq
  | yield l args =>
    obtain ⟨n, v, h', h1, h2⟩ := h
    exact ⟨n, v, h', h1, hK _ _ h2⟩
  | defer f args => exact ⟨h.1, hK _ _ h.2⟩
  | recover => exact h
  | panic v => exact hK _ _ h
theorem wpOps_mono {ops : Array Oper} {Q Q' : AExit → St → Prop} (hQ : ∀ x st', Q x st' → Q' x st') : ∀ {l : List Oper} {st : St}, wpOps E ops l Q st → wpOps E ops l Q' st
  | [], st, h => hQ _ _ h
  | o :: l, st, h => by
    simp only [wpOps] at h ⊢
    split at h
    · exact h.elim
    · exact wpOps_mono hQ h
    · split at h
      · exact h.elim
      · refine wpRes_mono (fun p st' hp => ?_) h
        cases p with
        | none => exact wpOps_mono hQ hp
        | some v => exact hQ _ _ hp
theorem wpDraw_mono {ops : Array Oper} {bef : Nat → Nat} {base : Nat} {Q Q' : AExit → St → Prop} (hQ : ∀ x st', Q x st' → Q' x st') : ∀ {l : List (Oper × Nat)} {st : St} {sn : List Snap} {rd : List Rd},
    wpDraw E ops bef base l Q st sn rd → wpDraw E ops bef base l Q' st sn rd
  | [], st, sn, rd, h => hQ _ _ h
  | (o, i) :: l, st, sn, rd, h => by
    simp only [wpDraw] at h ⊢
    split at h
    · exact h.elim
    · exact wpDraw_mono hQ h
    · split at h
      · exact h.elim
      · exact wpDraw_mono hQ h
      · exact ⟨h.1, wpDraw_mono hQ h.2⟩
      · split at h
        · exact wpDraw_mono hQ h
        · exact h.elim
      · refine ⟨h.1, wpRes_mono (fun p st' hp => ?_) h.2⟩
        cases p with
        | none => exact ⟨hp.1, wpDraw_mono hQ hp.2⟩
        | some v => exact ⟨hp.1, hQ _ _ hp.2⟩
      · exact h.elim
theorem wpCode_mono : ∀ {c : Code} {Q Q' : AExit → St → Prop} {st : St}, (∀ x st', Q x st' → Q' x st') → wpCode E c Q st → wpCode E c Q' st := by
  intro c
  induction c with
  | skip => intro Q Q' st hQ h; exact hQ _ _ h
  | region id ops d =>
    intro Q Q' st hQ h
    cases d with
    | false => exact wpOps_mono hQ h
    | true => exact ⟨h.1, wpDraw_mono hQ h.2⟩
  | seq a b iha ihb =>
    intro Q Q' st hQ h
    refine iha (fun x st' hx => ?_) h
    cases x with
    | nrm => exact ihb hQ hx
    | exit id => exact hQ _ _ hx
    | ret => exact hQ _ _ hx
    | pan v => exact hQ _ _ hx
  | cond o a b iha ihb =>
    intro Q Q' st hQ h
    obtain ⟨x, hx, ht, hf⟩ := h
    exact ⟨x, hx, fun e => iha hQ (ht e), fun e => ihb hQ (hf e)⟩
  | block id b ih =>
    intro Q Q' st hQ h
    refine ih (fun x st' hx => ?_) h
    cases x with
    | exit id' =>
      simp only [exBlock] at hx ⊢
      split
      · rename_i e; rw [if_pos e] at hx; exact hQ _ _ hx
      · rename_i e; rw [if_neg e] at hx; exact hQ _ _ hx
    | nrm => exact hQ _ _ hx
    | ret => exact hQ _ _ hx
    | pan v => exact hQ _ _ hx
  | loop b ih =>
    intro Q Q' st hQ h
    obtain ⟨I, k, hk, hI⟩ := h
    refine ⟨I, k, hk, fun k st hi => ih (fun x st' hx => ?_) (hI k st hi)⟩
    cases x with
    | nrm => exact hx
    | exit id => exact hQ _ _ hx
    | ret => exact hQ _ _ hx
    | pan v => exact hQ _ _ hx
  | exit id => intro Q Q' st hQ h; exact hQ _ _ h
  | ret => intro Q Q' st hQ h; exact hQ _ _ h
  | label l => intro Q Q' st hQ h; exact hQ _ _ h
  | scope b ih => intro Q Q' st hQ h; exact ih hQ h
  | _ =>
    intro Q Q' st hQ h
    obtain ⟨n, x, st', h1, h2⟩ := h
    exact ⟨n, x, st', h1, hQ _ _ h2⟩
/-- A cut: what is known of the state, and nothing else. -/
theorem aw_cutK {c : Code} {K : St → Prop} {Q : AExit → St → Prop} {st : St} (R : St → Prop) (h1 : wpCode E c (exThen R Q) st) (h2 : ∀ st', R st' → K st') : wpCode E c (exThen K Q) st :=
  wpCode_mono (fun x st' hx => by
    cases x with
    | nrm => exact h2 _ hx
    | exit id => exact hx
    | ret => exact hx
    | pan v => exact hx) h1
theorem aw_cut {c : Code} {Q : AExit → St → Prop} {st : St} (R : AExit → St → Prop) (h1 : wpCode E c R st) (h2 : ∀ x st', R x st' → Q x st') : wpCode E c Q st := wpCode_mono h2 h1
/-! ### Guards, where the registers are not told -/
section
variable {ops : Array Oper} {o : Oper} {rg : T AV} {n : Nat} {j : Nat} {want b : Bool} {d : Tmp}
theorem wantedN (hd : dstOk n o.dst = true) (hg : o.guard = none) : wantedA ops n rg o = some true := by
  simp only [wantedA, hd, hg, if_true]
theorem wantedG (hd : dstOk n o.dst = true) (hg : o.guard = some (j, want)) (hj : (ops[j]?).bind (·.dst) = some d) (hr : rg.get d = some (.bool b)) : wantedA ops n rg o = some (b == want) := by
  simp only [wantedA, hd, hg, hj, hr, if_true]
theorem wantedGT (hd : dstOk n o.dst = true) (hg : o.guard = some (j, want)) (hj : (ops[j]?).bind (·.dst) = some d) (hr : rg.get d = some (.bool want)) : wantedA ops n rg o = some true := by
  rw [wantedG hd hg hj hr]; simp
theorem wantedGF (hd : dstOk n o.dst = true) (hg : o.guard = some (j, want)) (hj : (ops[j]?).bind (·.dst) = some d) (hr : rg.get d = some (.bool (!want))) : wantedA ops n rg o = some false := by
  rw [wantedG hd hg hj hr]; cases want <;> rfl
theorem wantedZ (hd : dstOk n o.dst = true) (hg : o.guard = some (j, want)) (hj : (ops[j]?).bind (·.dst) = some d) (hr : rg.get d = some (.tup [])) : wantedA ops n rg o = some false := by
  simp only [wantedA, hd, hg, hj, hr, if_true]
end
theorem same_or {a b : Bool} (h : b = true) : (a || b) = true := by rw [h, Bool.or_true]
theorem same_of {h : AHeap} {rg : T AV} {o : Oper} {v : AV} {x : AHeap} (ho : opK0 E rg h o = some (.val v, x)) : sameRead E h rg o v = true := by
  simp only [sameRead]
  rw [← opK0_eq, ho]; exact (AV.beq_iff _ _).2 rfl
/-- The heap forgotten but for what is told of it. -/
theorem wpOps_heap {ops l : _} {Q : AExit → St → Prop} {rg : T AV} {n : Nat} {h : AHeap} {ds : List ADef} {rnd : Bool} (K : AHeap → Prop) (hK : K h) (hk : ∀ H, K H → wpOps E ops l Q ⟨rg, n, H, ds, rnd⟩) : wpOps E ops l Q ⟨rg, n, h, ds, rnd⟩ := hk h hK
theorem wpCode_heap {c : Code} {Q : AExit → St → Prop} {rg : T AV} {n : Nat} {h : AHeap} {ds : List ADef} {rnd : Bool} (K : AHeap → Prop) (hK : K h) (hk : ∀ H, K H → wpCode E c Q ⟨rg, n, H, ds, rnd⟩) : wpCode E c Q ⟨rg, n, h, ds, rnd⟩ := hk h hK
theorem WCall_heap {f : FuncId} {args : List AV} {Q : Out → AHeap → Prop} {h : AHeap} (K : AHeap → Prop) (hK : K h) (hk : ∀ H, K H → WCall E f args H Q) : WCall E f args h Q := hk h hK
/-- A loop whose first round never comes to its end. -/
theorem aw_loop0 {b : Code} {Q : AExit → St → Prop} {st : St} (h : wpCode E b (exThen (fun _ => False) Q) st) : wpCode E (.loop b) Q st :=
  ⟨fun k x => k = 0 ∧ x = st, 0, ⟨rfl, rfl⟩, fun k x hx => by
    obtain ⟨rfl, rfl⟩ := hx
    refine wpCode_mono (fun e st' he => ?_) h
    cases e with
    | nrm => exact he.elim
    | exit id => exact he
    | ret => exact he
    | pan v => exact he⟩
/-- An operation that panics. -/
theorem wpOps_panN {ops : Array Oper} {o : Oper} {rest : List Oper} {Q : AExit → St → Prop} {rg : T AV} {n : Nat} {h h' : AHeap} {ds : List ADef} {rnd : Bool} {v : AV} (hw : wantedA ops n rg o = some true) (ho : opK0 E rg h o = some (.panic v, h')) (hk : Q (.pan v) ⟨rg, n, h', ds, rnd⟩) :
    wpOps E ops (o :: rest) Q ⟨rg, n, h, ds, rnd⟩ :=
  wpOps_one hw ⟨_, ho, hk⟩
/-- A call that panics in a region that draws its order. -/
theorem dw_callP {ops : Array Oper} {bef : Nat → Nat} {base : Nat} {o : Oper} {i : Nat} {restZ : List (Oper × Nat)} {Q : AExit → St → Prop} {rg : T AV} {n : Nat} {h h' : AHeap} {ds : List ADef} {rnd : Bool} {sn : List Snap} {rd : List Rd} {f : FuncId} {args : List AV}
    (hw : wantedA ops n rg o = some true) (hc : clsOf E o = .eff) (ho : opK0 E rg h o = some (.enter f args, h')) (h1 : sn.all (fun s => (bef i).testBit s.idx) = true) (hr : restZ.all (fun x => (bef x.2).testBit i) = true)
    (hk : WCall E f args h' fun out h2 => ∃ v, out = .pan v ∧ ∀ rg', Q (.pan v) ⟨rg', n, h2, ds, rnd⟩) : wpDraw E ops bef base ((o, i) :: restZ) Q ⟨rg, n, h, ds, rnd⟩ sn rd := by
  simp only [wpDraw, hw, hc]
  rw [← opK0_eq, ho]
  refine ⟨h1, hk.mono fun out h2 hq => ?_⟩
  obtain ⟨v, rfl, hq⟩ := hq
  exact ⟨hr, hq _⟩
end Go.Am
