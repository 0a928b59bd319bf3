/-
  Defines how the abstract machine carries out regions, code, rounds and calls; nothing is proved here. Each theorem states its own conditions; there are no others.
-/
import Derived.Test.YtdanfdimpcldiaaGreatDoorAm1
import Derived.Orders
set_option linter.unusedSimpArgs false
set_option linter.unusedVariables false
namespace Go.Am
noncomputable section

inductive ADef where
  | call (f : FuncId) (args : List AV)
  | mark (r : Nat)

structure St where
  rg : T AV
  n : Nat
  h : AHeap
  ds : List ADef
  rnd : Bool

inductive AExit where
  | nrm
  | exit (id : Nat)
  | ret
  | pan (v : AV)

/-- The value that stands for none. -/
abbrev nil' : AV := .tup []

def dstOk (n : Nat) : Option Tmp → Bool
  | some d => d < n
  | none => true

/-- Is an operation wanted? (None: its temporary is none of the frame's, or its guard is no boolean.) -/
def wantedA (ops : Array Oper) (n : Nat) (rg : T AV) (o : Oper) : Option Bool :=
  if dstOk n o.dst then
    match o.guard with
    | none => some true
    | some (j, want) => match (ops[j]?).bind (·.dst) with
      | none => some false
      | some d => match rg.get d with
        | some (.bool b) => some (b == want)
        | some (.tup []) => some false
        | _ => none
  else none

abbrev CallF := FuncId → List AV → AHeap → Option (Out × AHeap)
abbrev RoundF := Nat → List AV → AHeap → Option (AV × AHeap)

/-- What an operation's result makes of the state: the state, or a panic's value. -/
def resA (call : CallF) (round : RoundF) (d : Option Tmp) (st : St) : ORes × AHeap → Option (Option AV × St)
  | (.val v, h) => some (none, { st with rg := putA st.rg d v, h := h })
  | (.skip, h) => some (none, { st with rg := putA st.rg d nil', h := h })
  | (.enter f args, h) => match call f args h with
    | some (.ret v, h') => some (none, { st with rg := putA st.rg d v, h := h' })
    | some (.pan v, h') => some (some v, { st with h := h' })
    | none => none
  | (.yield l args, h) => match round l args h with
    | some (v, h') => some (none, { st with rg := putA st.rg d v, h := h' })
    | none => none
  | (.defer f args, h) => if st.rnd then none else some (none, { st with rg := putA st.rg d nil', h := h, ds := .call f args :: st.ds })
  | (.recover, _) => none
  | (.panic v, h) => some (some v, { st with h := h })

def opsA (E : Env) (call : CallF) (round : RoundF) (ops : Array Oper) : List Oper → St → Option (AExit × St)
  | [], st => some (.nrm, st)
  | o :: rest, st => match wantedA ops st.n st.rg o with
    | none => none
    | some false => opsA E call round ops rest { st with rg := putA st.rg o.dst nil' }
    | some true => match opA E st.rg st.h o with
      | none => none
      | some r => match resA call round o.dst st r with
        | none => none
        | some (none, st') => opsA E call round ops rest st'
        | some (some v, st') => some (.pan v, st')

/-! ### Regions that draw their order -/
inductive Cls where
  | pure | read | alloc | eff
  deriving DecidableEq

def clsOf (E : Env) (o : Oper) : Cls :=
  match o.op with
  | .move _ | .assign _ | .pick .. | .build .. | .nilCheck _ | .unOp .. | .makeInterface .. | .makeFunc .. | .fieldAddr .. | .field .. | .indexAddr .. | .index .. | .extract .. | .typeAssert .. => .pure
  | .binOp .. | .load .. | .lookup .. => .read
  | .slice .. => .read
  | .alloc _ | .box .. | .buildSlice .. | .makeMap .. | .makeSlice .. => .alloc
  | .convert _ d _ => match E.und d with
    | some (.slice _) => .alloc
    | _ => .pure
  | .call c => match c.callee with
    | .builtin .len => .read
    | .builtin .max | .builtin .min => .pure
    | _ => .eff
  | _ => .eff

/-- What comes ahead of an operation in each order (as bits), of those of 'acc'. -/
def maskOf (acc : List Nat) (o : Oper) : Nat :=
  o.after.toList.foldl (fun s e => if Region.binds .any e then s ||| 2 ^ e.on ||| acc.getD e.on 0 else s) 0
def masks : List Oper → List Nat → List Nat
  | [], acc => acc
  | o :: r, acc => match maskOf acc o with
    | 0 => masks r (acc ++ [0])
    | k + 1 => masks r (acc ++ [k + 1])
def befOf (ops : Array Oper) : Nat → Nat :=
  let ms := masks ops.toList []
  fun i => ms.getD i 0
/-- The order is told forwards, and who names the same temporary is ordered. -/
def drawOk (ops : Array Oper) : Bool :=
  ops.toList.zipIdx.all fun x =>
    x.1.after.toList.all (fun e => !Region.binds .any e || e.on < x.2) &&
    (ops.toList.take x.2).zipIdx.all fun y => Oper.apart ops y.1 x.1 || (befOf ops x.2).testBit y.2

/-- A value at a new object's start, the object called otherwise. -/
def reid (n : Nat) : AV → Option AV
  | .ptr (some (_, 0)) => some (.ptr (some (n, 0)))
  | .slice (some (_, 0)) len => some (.slice (some (n, 0)) len)
  | .map (some _) => some (.map (some n))
  | _ => none

structure Snap where
  idx : Nat
  h : AHeap
structure Rd where
  idx : Nat
  o : Oper
  rg : T AV
  v : AV

/-- Does a read give the same in another heap? -/
def sameRead (E : Env) (h : AHeap) (rg : T AV) (o : Oper) (v : AV) : Bool :=
  match opA E rg h o with
  | some (.val v', _) => AV.beq v' v
  | _ => false

/-- The operations of such a region, in the order of the text. 'bef i': a set (its bits) of operations that come ahead of operation i in each order; 'base': new objects are called 'base + i'. -/
def drawA (E : Env) (call : CallF) (round : RoundF) (ops : Array Oper) (bef : Nat → Nat) (base : Nat) :
    List (Oper × Nat) → St → List Snap → List Rd → Option (AExit × St)
  | [], st, _, _ => some (.nrm, st)
  | (o, i) :: rest, st, sn, rd => match wantedA ops st.n st.rg o with
    | none => none
    | some false => drawA E call round ops bef base rest { st with rg := putA st.rg o.dst nil' } sn rd
    | some true => match clsOf E o, opA E st.rg st.h o with
      | _, none => none
      | .pure, some (.val v, _) => drawA E call round ops bef base rest { st with rg := putA st.rg o.dst v } sn rd
      | .read, some (.val v, _) =>
        if sn.all (fun s => (bef i).testBit s.idx || sameRead E s.h st.rg o v) then
          drawA E call round ops bef base rest { st with rg := putA st.rg o.dst v } sn ({ idx := i, o := o, rg := st.rg, v := v } :: rd)
        else none
      | .alloc, some (.val v, h2) => match h2.get st.h.next, st.h.get (base + i), reid (base + i) v with
        | some obj, none, some v' => drawA E call round ops bef base rest { st with rg := putA st.rg o.dst v', h := st.h.set (base + i) obj } sn rd
        | _, _, _ => none
      | .eff, some r =>
        if sn.all (fun s => (bef i).testBit s.idx) then
          match resA call round o.dst st r with
          | none => none
          | some (none, st') =>
            if rd.all (fun r => (bef i).testBit r.idx || sameRead E st'.h r.rg r.o r.v) then
              drawA E call round ops bef base rest st' ({ idx := i, h := st.h } :: sn) rd
            else none
          | some (some v, st') =>
            if rest.all (fun x => (bef x.2).testBit i) then
              some (.pan v, { st' with rg := ops.foldl (fun r o => match o.dst with | some d => r.del d | none => r) st.rg })
            else none
        else none
      | _, some _ => none

/-! ### A region's operations in another order: what reads and makes, ahead of what calls -/
/-- Where a number stands in a list (its length: nowhere). -/
def idxIn : List Nat → Nat → Nat
  | [], _ => 0
  | x :: r, i => if x = i then 0 else idxIn r i + 1
def renOper (p : List Nat) (o : Oper) : Oper :=
  { o with after := o.after.map (fun e => { e with on := idxIn p e.on }), guard := o.guard.map fun g => (idxIn p g.1, g.2) }
def permOps (ops : Array Oper) (p : List Nat) : Array Oper :=
  (p.filterMap fun i => (ops[i]?).map (renOper p)).toArray
def noDup : List Nat → Bool
  | [] => true
  | x :: r => !r.contains x && noDup r
def permOk (ops : Array Oper) (p : List Nat) : Bool := p.length == ops.size && noDup p && p.all (fun i => i < ops.size) && (List.range ops.size).all fun i => p.contains i

def predsDone (done : List Nat) (o : Oper) : Bool :=
  o.after.toList.all (fun e => !Region.binds .any e || done.contains e.on) && match o.guard with
    | none => true
    | some g => done.contains g.1
def isEff (E : Env) (o : Oper) : Bool :=
  match clsOf E o with
  | .eff => true
  | _ => false
def pickOp (E : Env) (eff : Bool) (done : List Nat) : List (Oper × Nat) → Option Nat
  | [] => none
  | (o, i) :: r => bif (isEff E o == eff) && predsDone done o && !done.contains i then some i else pickOp E eff done r
def topo (E : Env) (ops : Array Oper) : Nat → List (Oper × Nat) → List Nat → List Nat
  | 0, _, done => done.reverse
  | n + 1, l, done => match pickOp E false done l with
    | some i => topo E ops n l (i :: done)
    | none => match pickOp E true done l with
      | some i => topo E ops n l (i :: done)
      | none => done.reverse
def isCall (o : Oper) : Bool :=
  match o.op with
  | .call c => match c.callee with
    | .value _ => true
    | _ => false
  | _ => false
/-- Does something that is no effect stand behind a call, unordered? -/
def permNeeded (E : Env) (ops : Array Oper) : Bool :=
  ops.toList.zipIdx.any fun x => isCall x.1 && (ops.toList.zipIdx.drop (x.2 + 1)).any fun y => !isEff E y.1 && !(befOf ops y.2).testBit x.2
def permA (E : Env) (ops : Array Oper) : Array Oper :=
  bif permNeeded E ops then bif permOk ops (topo E ops ops.size ops.toList.zipIdx []) then permOps ops (topo E ops ops.size ops.toList.zipIdx []) else ops else ops

def drawReg (E : Env) (call : CallF) (round : RoundF) (ops : Array Oper) (st : St) : Option (AExit × St) :=
  if drawOk ops then drawA E call round ops (befOf ops) st.h.next ops.toList.zipIdx { st with h := { st.h with next := st.h.next + ops.size } } [] []
  else none

/-! ### Code -/
def loopA (f : St → Option (AExit × St)) : Nat → St → Option (AExit × St)
  | 0, _ => none
  | n + 1, st => match f st with
    | some (.nrm, st') => loopA f n st'
    | r => r

def hasBody (E : Env) (k : FuncId) : Bool :=
  match E.fn k with
  | some fn => fn.body.isSome
  | none => false

def codeA (E : Env) (call : CallF) (round : RoundF) (fuel : Nat) : Code → St → Option (AExit × St)
  | .skip, st => some (.nrm, st)
  | .region _ ops false, st => opsA E call round ops ops.toList st
  | .region _ ops true, st => drawReg E call round (permA E ops) st
  | .seq a b, st => match codeA E call round fuel a st with
    | some (.nrm, st') => codeA E call round fuel b st'
    | r => r
  | .cond c a b, st => match evA st.rg c with
    | some (.bool true) => codeA E call round fuel a st
    | some (.bool false) => codeA E call round fuel b st
    | _ => none
  | .block id b, st => match codeA E call round fuel b st with
    | some (.exit id', st') => if id' = id then some (.nrm, st') else some (.exit id', st')
    | r => r
  | .loop b, st => loopA (codeA E call round fuel b) fuel st
  | .exit id, st => some (.exit id, st)
  | .ret, st => some (.ret, st)
  | .label _, st => some (.nrm, st)
  | .scope b, st => codeA E call round fuel b st
  | .rangeFunc f ps as b, st => match evA st.rg f with
    | some (.func g caps) => if st.rnd || !hasBody E g then none else
      let h0 := (st.h.alloc .dblk).2
      match call g (.yld h0.next :: caps) (h0.alloc (.loop .ready none st.n st.rg ps as b)).2 with
      | some (.ret _, h2) => match h2.get h0.next with
        | some (.loop .busy ..) => none
        | some (.loop _ pend n rg ps as b) =>
          let st' : St := { st with h := h2.set h0.next (.loop .exhausted pend n rg ps as b), ds := .mark st.h.next :: st.ds }
          match pend with
          | none => some (.nrm, st')
          | some .ret => some (.ret, st')
          | some (.exit id) => some (.exit id, st')
          | _ => none
        | _ => none
      | _ => none
    | _ => none
  | _, _ => none

/-- One round of a range over a function. -/
def roundA (E : Env) (call : CallF) (round : RoundF) (fuel : Nat) : RoundF := fun l args h =>
  match h.get l with
  | some (.loop .ready _ n rg ps as b) =>
    if ps.size = args.length ∧ ps.all (fun p => p < n) then
      match codeA E call round fuel as { rg := (ps.toList.zip args).foldl (fun r x => r.set x.2 x.1) rg, n := n, h := h, ds := [], rnd := true } with
      | some (.nrm, st1) => match st1.h.get l with
        | some (.loop .ready pd n' rg' ps' as' b') =>
          match codeA E call round fuel b { st1 with h := st1.h.set l (.loop .busy pd n' rg' ps' as' b') } with
          | some (e, st2) => match st2.ds, st2.h.get l with
            | [], some (.loop _ _ n'' rg'' ps'' as'' b'') => match e with
              | .nrm => some (.bool true, st2.h.set l (.loop .ready none n'' rg'' ps'' as'' b''))
              | .ret => some (.bool false, st2.h.set l (.loop .done (some .ret) n'' rg'' ps'' as'' b''))
              | .exit id => some (.bool false, st2.h.set l (.loop .done (some (.exit id)) n'' rg'' ps'' as'' b''))
              | .pan _ => none
            | _, _ => none
          | none => none
        | _ => none
      | _ => none
    else none
  | _ => none

/-! ### Calls -/
def resultA (E : Env) (rg : T AV) (h : AHeap) : ResultVar → Option AV
  | .tmp t => rg.get t
  | .cell a t => match rg.get a, E.isAgg t, E.siz t with
    | some (.ptr (some (i, off))), some true, some n => (h.loadCells i off n).map .agg
    | some (.ptr (some (i, off))), some false, some _ => h.load1 i off
    | _, _, _ => none
def resultsA (E : Env) (rg : T AV) (h : AHeap) : List ResultVar → Option (List AV)
  | [] => some []
  | r :: rs => match resultA E rg h r, resultsA E rg h rs with
    | some v, some vs => some (v :: vs)
    | _, _ => none
def oneOf : List AV → AV
  | [v] => v
  | vs => .tup vs

def argsA : List AV → Nat → T AV → T AV
  | [], _, t => t
  | v :: r, i, t => argsA r (i + 1) (t.set v i)

/-- A function that is called in a deferred call and may recover: the value that can be recovered is a part of the state. -/
def opsS (E : Env) (ops : Array Oper) : List Oper → St → Option AV → Option (AExit × St × Option AV)
  | [], st, p => some (.nrm, st, p)
  | o :: rest, st, p => match wantedA ops st.n st.rg o with
    | none => none
    | some false => opsS E ops rest { st with rg := putA st.rg o.dst nil' } p
    | some true => match opA E st.rg st.h o with
      | some (.val v, h) => opsS E ops rest { st with rg := putA st.rg o.dst v, h := h } p
      | some (.skip, h) => opsS E ops rest { st with rg := putA st.rg o.dst nil', h := h } p
      | some (.recover, h) => opsS E ops rest { st with rg := putA st.rg o.dst (p.getD .nilIface), h := h } none
      | _ => none

def isRec (o : Oper) : Bool :=
  match o.op with
  | .call { callee := .builtin .recover, .. } => true
  | _ => false
def hasRec : Code → Bool
  | .region _ ops _ => ops.any isRec
  | .seq a b | .cond _ a b => hasRec a || hasRec b
  | .block _ b | .loop b | .scope b => hasRec b
  | .rangeFunc _ _ a b => hasRec a || hasRec b
  | _ => false

def codeS (E : Env) (call : CallF) (round : RoundF) (fuel : Nat) : Code → St → Option AV → Option (AExit × St × Option AV)
  | .seq a b, st, p => match codeS E call round fuel a st p with
    | some (.nrm, st', p') => codeS E call round fuel b st' p'
    | r => r
  | .region id ops false, st, p =>
    if ops.any isRec then opsS E ops ops.toList st p
    else match codeA E call round fuel (.region id ops false) st with
      | some (e, st') => some (e, st', p)
      | none => none
  | .cond c a b, st, p => match evA st.rg c with
    | some (.bool true) => codeS E call round fuel a st p
    | some (.bool false) => codeS E call round fuel b st p
    | _ => none
  | c, st, p => match codeA E call round fuel c st with
    | some (e, st') => some (e, st', p)
    | none => none

/-- A deferred call: its ending, and what can still be recovered. -/
abbrev DeferF := FuncId → List AV → AHeap → Option AV → Option (Out × AHeap × Option AV)

def deferA (E : Env) (call : CallF) (round : RoundF) (fuel : Nat) : DeferF := fun k args h p =>
  match E.fn k with
  | none => none
  | some fn => match fn.body with
    | none => none
    | some c =>
      if args.length ≤ fn.ntmps then
        match codeS E call round fuel c { rg := argsA args 0 .nil, n := fn.ntmps, h := h, ds := [], rnd := false } p with
        | some (.nrm, st, p') | some (.ret, st, p') => match st.ds, resultsA E st.rg st.h fn.results.toList with
          | [], some vs => some (.ret (oneOf vs), st.h, p')
          | _, _ => none
        | _ => none
      else none

/-- The way out: the deferred calls, the last one first. -/
def leaveA (E : Env) (dfr : DeferF) (fn : Func) (rg : T AV) : List ADef → Option AV → AHeap → Option (Out × AHeap)
  | [], none, h => match resultsA E rg h fn.results.toList with
    | some vs => some (.ret (oneOf vs), h)
    | none => none
  | [], some v, h => some (.pan v, h)
  | .mark r :: ds, p, h => match h.get r with
    | some .dblk => leaveA E dfr fn rg ds p (h.set r .dead)
    | _ => none
  | .call f args :: ds, p, h => match dfr f args h p with
    | some (.ret _, h', p') => leaveA E dfr fn rg ds p' h'
    | _ => none

structure Mach where
  call : CallF
  round : RoundF

def bodyOf (E : Env) (m : Mach) (n : Nat) : CallF := fun k args h =>
  match E.fn k with
    | none => none
    | some fn => match fn.body with
      | none => none
      | some c =>
        if args.length ≤ fn.ntmps then
          match codeA E m.call m.round n c { rg := argsA args 0 .nil, n := fn.ntmps, h := h, ds := [], rnd := false } with
          | some (.nrm, st) | some (.ret, st) => leaveA E (deferA E m.call m.round n) fn st.rg st.ds none st.h
          | some (.pan v, st) => leaveA E (deferA E m.call m.round n) fn st.rg st.ds (some v) st.h
          | _ => none
        else none
/-- What a function of one's own tells of a call. -/
def Env.told (E : Env) (k : FuncId) (args : List AV) (h : AHeap) : Option (Out × AHeap) :=
  match E.prim k with
  | some f => f args h
  | none => none
def bodyA (E : Env) (m : Mach) (n : Nat) : CallF := fun k args h =>
  match E.told k args h with
  | some r => some r
  | none => bodyOf E m n k args h

def mach (E : Env) : Nat → Mach
  | 0 => { call := fun _ _ _ => none, round := fun _ _ _ => none }
  | n + 1 => { call := bodyA E (mach E n) n, round := roundA E (mach E n).call (mach E n).round n }

end
end Go.Am
