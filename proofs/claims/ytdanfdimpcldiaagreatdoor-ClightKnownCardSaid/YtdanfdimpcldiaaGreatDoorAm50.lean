/-
  Proves that a second form of the abstract machine, its arms definitions of their own (the kernel carries it out quicker), answers as the first. No condition.
-/
import Derived.Test.YtdanfdimpcldiaaGreatDoorAm41
set_option linter.unusedSimpArgs false
set_option linter.unusedVariables false
set_option linter.unusedVariables false
set_option linter.unusedSimpArgs false
namespace Go.Am
variable {E : Env}
noncomputable section

def kMove (E : Env) (rg : T AV) (h : AHeap) (x : Operand) : Option (ORes × AHeap) :=
  match evA rg x with
    | some v => some (.val v, h)
    | none => none
def kPick (E : Env) (rg : T AV) (h : AHeap) (c : Operand) (a : Operand) (b : Operand) : Option (ORes × AHeap) :=
  match evA rg c with
    | some (.bool true) => match evA rg a with
      | some v => some (.val v, h)
      | none => none
    | some (.bool false) => match evA rg b with
      | some v => some (.val v, h)
      | none => none
    | _ => none
def kAlloc (E : Env) (rg : T AV) (h : AHeap) (t : TypeId) : Option (ORes × AHeap) :=
  match E.zer t with
    | some cs => some (.val (.ptr (some (h.next, 0))), (h.alloc (.cells true 0 cs)).2)
    | _ => none
def kBox (E : Env) (rg : T AV) (h : AHeap) (x : Operand) : Option (ORes × AHeap) :=
  match evA rg x with
    | some v => if v.cells.all AV.scalar then some (.val (.ptr (some (h.next, 0))), (h.alloc (.cells true 0 v.cells)).2) else none
    | _ => none
def kBuild (E : Env) (rg : T AV) (h : AHeap) (t : TypeId) (parts : Array (Nat × Operand)) : Option (ORes × AHeap) :=
  match E.zer t, E.und t, evParts rg parts.toList with
    | some z, some (.struct fs), some ps => match placesA E fs.toList with
      | some pl => match fillA (pl[·]?) z ps with
        | some cs => some (.val (.agg cs), h)
        | none => none
      | none => none
    | some z, some (.array _ e), some ps => match E.siz e with
      | some s => match fillA (fun i => some (i * s, s)) z ps with
        | some cs => some (.val (.agg cs), h)
        | none => none
      | none => none
    | _, _, _ => none
def kBuildSlice (E : Env) (rg : T AV) (h : AHeap) (t : TypeId) (len : Nat) (parts : Array (Nat × Operand)) : Option (ORes × AHeap) :=
  match E.und t, evParts rg parts.toList with
    | some (.slice e), some ps => match E.siz e, E.zer e with
      | some (s + 1), some z =>
        if len ≤ 1000 ∧ s ≤ 1000 ∧ z.length = s + 1 then
          match fillA (fun i => some (i * (s + 1), s + 1)) (List.replicate len z).flatten ps with
          | some cs => some (.val (.slice (some (h.next, 0)) len), (h.alloc (.cells true (s + 1) cs)).2)
          | none => none
        else none
      | _, _ => none
    | _, _ => none
def kLoad (E : Env) (rg : T AV) (h : AHeap) (t : TypeId) (a : Operand) : Option (ORes × AHeap) :=
  match evA rg a with
    | some (.ptr (some (i, off))) => match E.isAgg t, E.siz t with
      | some true, some n => match h.loadCells i off n with
        | some cs => some (.val (.agg cs), h)
        | none => none
      | some false, some _ => match h.load1 i off with
        | some v => some (.val v, h)
        | none => none
      | _, _ => none
    | _ => none
def kStore (E : Env) (rg : T AV) (h : AHeap) (t : TypeId) (a : Operand) (x : Operand) : Option (ORes × AHeap) :=
  match evA rg a, evA rg x with
    | some (.ptr (some (i, off))), some v =>
      if some v.cells.length = E.siz t then match h.storeCells i off v.cells with
        | some h' => some (.skip, h')
        | none => none
      else none
    | _, _ => none
def kNilCheck (E : Env) (rg : T AV) (h : AHeap) (x : Operand) : Option (ORes × AHeap) :=
  match evA rg x with
    | some (.ptr (some p)) => some (.val (.ptr (some p)), h)
    | some (.func f cs) => some (.val (.func f cs), h)
    | some (.yld l) => some (.val (.yld l), h)
    | _ => none
def kBinOp (E : Env) (rg : T AV) (h : AHeap) (op : BinOp) (t : TypeId) (x : Operand) (y : Operand) : Option (ORes × AHeap) :=
  match evA rg x, evA rg y with
    | some a, some b => match binA E h op t (isConstO x || isConstO y) a b with
      | some v => some (.val v, h)
      | none => none
    | _, _ => none
def kUnOp (E : Env) (rg : T AV) (h : AHeap) (op : UnOp) (x : Operand) : Option (ORes × AHeap) :=
  match evA rg x with
    | some a => match unA op a with
      | some v => some (.val v, h)
      | none => none
    | none => none
def kConvert (E : Env) (rg : T AV) (h : AHeap) (s : TypeId) (d : TypeId) (x : Operand) : Option (ORes × AHeap) :=
  match E.und s, E.und d, evA rg x with
    | some _, some (.int k), some (.int _ n) => match pureAV (Conv.intToInt k n) with
      | some v => some (.val v, h)
      | none => none
    | some .string, some .string, some (.str l) => some (.val (.str l), h)
    | some .string, some (.slice e), some (.str l) => match E.und e with
      | some (.int .u8) => if roomy < l.length then none else
        some (.val (.slice (some (h.next, 0)) l.length), (h.alloc (.cells false 1 (l.map fun b => .int .u8 b.toNat))).2)
      | _ => none
    | _, _, _ => none
def kMakeInterface (E : Env) (rg : T AV) (h : AHeap) (t : TypeId) (x : Operand) : Option (ORes × AHeap) :=
  match E.und t, evA rg x with
    | some (.interface _), _ => none
    | some _, some v => some (.val (.iface t v), h)
    | _, _ => none
def kMakeFunc (E : Env) (rg : T AV) (h : AHeap) (f : FuncId) (first : Array Operand) (caps : Array Operand) : Option (ORes × AHeap) :=
  match first.toList, evAs rg caps.toList with
    | [], some cs => some (.val (.func f cs), h)
    | _, _ => none
def kMakeMap (E : Env) (rg : T AV) (h : AHeap) : Option (ORes × AHeap) :=
  some (.val (.map (some h.next)), (h.alloc (.map [])).2)
def kMakeSlice (E : Env) (rg : T AV) (h : AHeap) (t : TypeId) (l : Operand) (c : Operand) : Option (ORes × AHeap) :=
  match E.und t, evA rg l, evA rg c with
    | some (.slice e), some (.int .i64 n), some (.int .i64 n') => match E.siz e, E.byt e, E.zer e with
      | some (s + 1), some b, some z =>
        if n = n' ∧ 0 ≤ n ∧ n.toNat * (b + 1) ≤ roomy ∧ z.length = s + 1 then
          some (.val (.slice (some (h.next, 0)) n.toNat), (h.alloc (.cells true (s + 1) (List.replicate n.toNat z).flatten)).2)
        else none
      | _, _, _ => none
    | _, _, _ => none
def kSlice (E : Env) (rg : T AV) (h : AHeap) (t : TypeId) (x : Operand) (lo : Option Operand) (hi : Option Operand) : Option (ORes × AHeap) :=
  match E.und t, evA rg x with
    | some .string, some (.str s) => match boundsA rg s.length s.length lo hi with
      | some (l, r) => some (.val (.str ((s.take r).drop l)), h)
      | none => none
    | some (.slice e), some (.slice a len) => match E.siz e, boundsA rg len len lo hi with
      | some (s + 1), some (l, r) => match a with
        | some (i, off) => match h.get i with
          | some (.cells rw es _) => if rw = false ∨ es = 0 ∨ es = s + 1 then some (.val (.slice (some (i, off + l * (s + 1))) (r - l)), h) else none
          | _ => none
        | none => some (.val (.slice none 0), h)
      | _, _ => none
    | some (.array n e), some (.ptr (some (i, off))) => match E.siz e, boundsA rg n n lo hi, h.get i with
      | some (s + 1), some (l, r), some (.cells rw es _) =>
        if rw = false ∨ es = 0 then some (.val (.slice (some (i, off + l * (s + 1))) (r - l)), h) else none
      | _, _, _ => none
    | _, _ => none
def kFieldAddr (E : Env) (rg : T AV) (h : AHeap) (t : TypeId) (x : Operand) (f : Nat) : Option (ORes × AHeap) :=
  match E.und t, evA rg x with
    | some (.struct fs), some (.ptr (some (i, off))) => match fs[f]? with
      | some fd => match E.siz fd.type with
        | some (_ + 1) => some (.val (.ptr (some (i, off + fd.offset))), h)
        | _ => none
      | none => none
    | _, _ => none
def kField (E : Env) (rg : T AV) (h : AHeap) (t : TypeId) (x : Operand) (f : Nat) : Option (ORes × AHeap) :=
  match E.und t, evA rg x with
    | some (.struct fs), some (.agg cs) => match fs[f]? with
      | some fd => match partA E fd.type cs fd.offset with
        | some v => some (.val v, h)
        | none => none
      | none => none
    | _, _ => none
def kIndexAddr (E : Env) (rg : T AV) (h : AHeap) (t : TypeId) (x : Operand) (ix : Operand) : Option (ORes × AHeap) :=
  match E.und t, evA rg x, evA rg ix with
    | some (.slice e), some (.slice (some (i, off)) len), some (.int _ n) => match E.siz e with
      | some s => if 0 ≤ n ∧ n < len then some (.val (.ptr (some (i, off + n.toNat * s))), h) else none
      | none => none
    | some (.array len e), some (.ptr (some (i, off))), some (.int _ n) => match E.siz e with
      | some s => if 0 ≤ n ∧ n < len then some (.val (.ptr (some (i, off + n.toNat * s))), h) else none
      | none => none
    | _, _, _ => none
def kIndex (E : Env) (rg : T AV) (h : AHeap) (t : TypeId) (x : Operand) (ix : Operand) : Option (ORes × AHeap) :=
  match E.und t, evA rg x, evA rg ix with
    | some .string, some (.str s), some (.int _ n) => if 0 ≤ n then match s[n.toNat]? with
        | some b => some (.val (.int .u8 b.toNat), h)
        | none => none
      else none
    | some (.array len e), some (.agg cs), some (.int _ n) => match E.siz e with
      | some s => if 0 ≤ n ∧ n < len then match partA E e cs (n.toNat * s) with
          | some v => some (.val v, h)
          | none => none
        else none
      | none => none
    | _, _, _ => none
def kLookup (E : Env) (rg : T AV) (h : AHeap) (t : TypeId) (x : Operand) (ix : Operand) (ok : Bool) : Option (ORes × AHeap) :=
  match E.und t, evA rg x, evA rg ix with
    | some (.map kt vt), some (.map m), some k =>
      if keyOk E kt k then
        match h.ents m with
        | some es => match findA h k es 0, E.zer vt, E.isAgg vt with
          | some (some (_, v)), _, _ => some (.val (if ok then .tup [v, .bool true] else v), h)
          | some none, some z, some ag =>
            match (if ag then some (.agg z) else z[0]?) with
            | some v => some (.val (if ok then .tup [v, .bool false] else v), h)
            | none => none
          | _, _, _ => none
        | none => none
      else none
    | _, _, _ => none
def kMapUpdate (E : Env) (rg : T AV) (h : AHeap) (t : TypeId) (m : Operand) (k : Operand) (x : Operand) : Option (ORes × AHeap) :=
  match E.und t, evA rg m, evA rg k, evA rg x with
    | some (.map kt _), some (.map (some r)), some k, some v =>
      if keyOk E kt k then match h.get r with
        | some (.map es) => match findA h k es 0 with
          | some (some (i, _)) => some (.skip, h.set r (.map (es.modify i fun _ => (k, v))))
          | some none => some (.skip, h.set r (.map (es ++ [(k, v)])))
          | none => none
        | _ => none
      else none
    | _, _, _, _ => none
def kTypeAssert (E : Env) (rg : T AV) (h : AHeap) (x : Operand) (t : TypeId) (ok : Bool) : Option (ORes × AHeap) :=
  match E.und t, evA rg x with
    | some (.interface _), _ => none
    | some _, some (.iface u v) =>
      if u = t then some (.val (if ok then .tup [v, .bool true] else v), h)
      else if ok then match E.zer t, E.isAgg t with
        | some z, some ag => match (if ag then some (.agg z) else z[0]?) with
          | some v => some (.val (.tup [v, .bool false]), h)
          | none => none
        | _, _ => none
      else none
    | _, _ => none
def kExtract (E : Env) (rg : T AV) (h : AHeap) (x : Operand) (i : Nat) : Option (ORes × AHeap) :=
  match evA rg x with
    | some (.tup vs) => match vs[i]? with
      | some v => some (.val v, h)
      | none => none
    | _ => none
def kCall (E : Env) (rg : T AV) (h : AHeap) (c : Call) : Option (ORes × AHeap) :=
  match evAs rg c.args.toList with
    | none => none
    | some args => match c.callee with
      | .value f => match evA rg f with
        | some (.func k caps) => match E.fn k with
          | some fn => if fn.body.isSome then some (.enter k (args ++ caps), h) else match E.ext k with
            | some f => match f (args ++ caps) with
              | some v => some (.val v, h)
              | none => none
            | none => none
          | none => none
        | some (.yld l) => match h.get l with
          | some (.loop _ _ _ _ ps _ _) => if args.length = ps.size then some (.yield l args, h) else none
          | _ => none
        | _ => none
      | .invoke _ _ => none
      | .builtin b => match b, args with
        | .len, [x] => match c.argTypes[0]? with
          | some t => match lenA E h t x with
            | some v => some (.val v, h)
            | none => none
          | none => none
        | .append, [s, x] => match c.argTypes[0]?, c.argTypes[1]? with
          | some t, some u => match E.und u with
            | some (.slice _) | some .string => match appendA E h t s x with
              | some (v, h') => some (.val v, h')
              | none => none
            | _ => none
          | _, _ => none
        | .copy, [d, x] => match c.argTypes[0]? with
          | some t => match copyA E h t d x with
            | some (v, h') => some (.val v, h')
            | none => none
          | none => none
        | .max, [.int k a, .int _ b] => some (.val (.int k (if b > a then b else a)), h)
        | .min, [.int k a, .int _ b] => some (.val (.int k (if b < a then b else a)), h)
        | .recover, [] => some (.recover, h)
        | _, _ => none
def kDefer (E : Env) (rg : T AV) (h : AHeap) (c : Call) : Option (ORes × AHeap) :=
  match evAs rg c.args.toList, c.callee with
    | some args, .value f => match evA rg f with
      | some (.func k caps) => some (.defer k (args ++ caps), h)
      | _ => none
    | _, _ => none
def kPanic (E : Env) (rg : T AV) (h : AHeap) (x : Operand) : Option (ORes × AHeap) :=
  match evA rg x with
    | some (.iface t v) => some (.panic (.iface t v), h)
    | _ => none
def kRange (E : Env) (rg : T AV) (h : AHeap) (t : TypeId) (x : Operand) : Option (ORes × AHeap) :=
  match E.und t, evA rg x with
    | some (.map _ _), some (.map (some m)) => match h.get m with
      | some (.map []) => some (.val (.ptr (some (h.next, 0))), (h.alloc (.miter m)).2)
      | _ => none
    | _, _ => none
def kNext (E : Env) (rg : T AV) (h : AHeap) (x : Operand) : Option (ORes × AHeap) :=
  match evA rg x with
    | some (.ptr (some (i, 0))) => match h.get i with
      | some (.miter m) => match h.get m with
        | some (.map []) => some (.val (.tup [.bool false]), h)
        | _ => none
      | _ => none
    | _ => none
def opK0 (E : Env) (rg : T AV) (h : AHeap) (o : Oper) : Option (ORes × AHeap) :=
  match o.op with
  | .move x | .assign x => kMove E rg h x
  | .pick c a b => kPick E rg h c a b
  | .alloc t => kAlloc E rg h t
  | .box _ x => kBox E rg h x
  | .build t parts => kBuild E rg h t parts
  | .buildSlice t len parts => kBuildSlice E rg h t len parts
  | .load t a => kLoad E rg h t a
  | .store t a x => kStore E rg h t a x
  | .nilCheck x => kNilCheck E rg h x
  | .binOp op t x y _ => kBinOp E rg h op t x y
  | .unOp op _ x => kUnOp E rg h op x
  | .convert s d x => kConvert E rg h s d x
  | .makeInterface t x => kMakeInterface E rg h t x
  | .makeFunc (.func f) first caps => kMakeFunc E rg h f first caps
  | .makeMap _ none => kMakeMap E rg h
  | .makeSlice t l c => kMakeSlice E rg h t l c
  | .slice t x lo hi none => kSlice E rg h t x lo hi
  | .fieldAddr t x f => kFieldAddr E rg h t x f
  | .field t x f => kField E rg h t x f
  | .indexAddr t x ix => kIndexAddr E rg h t x ix
  | .index t x ix => kIndex E rg h t x ix
  | .lookup t x ix ok => kLookup E rg h t x ix ok
  | .mapUpdate t m k x => kMapUpdate E rg h t m k x
  | .typeAssert x _ t ok => kTypeAssert E rg h x t ok
  | .extract x i => kExtract E rg h x i
  | .call c => kCall E rg h c
  | .defer c => kDefer E rg h c
  | .panic x => kPanic E rg h x
  | .range t x => kRange E rg h t x
  | .next x false => kNext E rg h x
  | _ => none
theorem opK0_eq (E : Env) (rg : T AV) (h : AHeap) (o : Oper) : opK0 E rg h o = opA E rg h o := by
  unfold opK0 opA
  cases o.op <;> rfl

/-! ### Arithmetic -/
def kSame : IntKind → IntKind → Bool
  | .i64, .i64 | .u8, .u8 | .i32, .i32 | .u64, .u64 | .u32, .u32 => true
  | _, _ => false
theorem kSame_eq {k k' : IntKind} (h : kSame k k' = true) : k = k' := by
  cases k <;> cases k' <;> simp [kSame] at h <;> rfl
def iBeq : Int → Int → Bool
  | .ofNat a, .ofNat b => Nat.beq a b
  | .negSucc a, .negSucc b => Nat.beq a b
  | _, _ => false
def iLt : Int → Int → Bool
  | .ofNat a, .ofNat b => Nat.blt a b
  | .negSucc a, .negSucc b => Nat.blt b a
  | .negSucc _, .ofNat _ => true
  | .ofNat _, .negSucc _ => false
def iLe : Int → Int → Bool
  | .ofNat a, .ofNat b => Nat.ble a b
  | .negSucc a, .negSucc b => Nat.ble b a
  | .negSucc _, .ofNat _ => true
  | .ofNat _, .negSucc _ => false
theorem iBeq_eq (a b : Int) : iBeq a b = (a == b) := by
  rw [Bool.eq_iff_iff]
  cases a <;> cases b <;> simp [iBeq] <;> (try omega)
theorem iLt_eq (a b : Int) : iLt a b = decide (a < b) := by
  rw [Bool.eq_iff_iff]
  cases a <;> cases b <;> simp [iLt, Nat.blt_eq] <;> (try omega)
theorem iLe_eq (a b : Int) : iLe a b = decide (a ≤ b) := by
  rw [Bool.eq_iff_iff]
  cases a <;> cases b <;> simp [iLe] <;> (try omega)
def fix64 : Int → Option AV
  | .ofNat n => bif Nat.blt n 9223372036854775808 then some (.int .i64 (.ofNat n)) else none
  | .negSucc n => bif Nat.blt n 9223372036854775808 then some (.int .i64 (.negSucc n)) else none
theorem wrap64 {n : Int} (h0 : -9223372036854775808 ≤ n) (h1 : n < 9223372036854775808) : IntKind.wrap .i64 n = n := by
  have e1 : ((2 ^ IntKind.bits .i64 : Int)) = 18446744073709551616 := by decide
  have e2 : ((2 ^ (IntKind.bits .i64 - 1) : Int)) = 9223372036854775808 := by decide
  unfold IntKind.wrap
  simp only [e1, e2, IntKind.signed, Bool.true_and, decide_eq_true_eq]
  split <;> omega
theorem fix64_eq {n : Int} {v : AV} (h : fix64 n = some v) : v = .int .i64 (IntKind.wrap .i64 n) := by
  cases n with
  | ofNat m =>
    simp only [fix64] at h
    cases hb : Nat.blt m 9223372036854775808 with
    | false => rw [hb] at h; cases h
    | true =>
      rw [hb] at h
      rw [Nat.blt_eq] at hb
      rw [wrap64 (by simp <;> omega) (by simp <;> omega)]
      exact (Option.some.inj h).symm
  | negSucc m =>
    simp only [fix64] at h
    cases hb : Nat.blt m 9223372036854775808 with
    | false => rw [hb] at h; cases h
    | true =>
      rw [hb] at h
      rw [Nat.blt_eq] at hb
      rw [wrap64 (by omega) (by omega)]
      exact (Option.some.inj h).symm
def both64 : IntKind → IntKind → Bool
  | .i64, .i64 => true
  | _, _ => false
theorem both64_eq {k k' : IntKind} (h : both64 k k' = true) : k = .i64 ∧ k' = .i64 := by
  cases k <;> cases k' <;> simp [both64] at h <;> exact ⟨rfl, rfl⟩
def fastI (op : BinOp) (k k' : IntKind) (a b : Int) : Option AV :=
  match op with
  | .add => bif both64 k k' then fix64 (a + b) else none
  | .sub => bif both64 k k' then fix64 (a - b) else none
  | .mul => bif both64 k k' then fix64 (a * b) else none
  | .eql => bif kSame k k' then some (.bool (iBeq a b)) else none
  | .neq => bif kSame k k' then some (.bool (!iBeq a b)) else none
  | .lss => bif kSame k k' then some (.bool (iLt a b)) else none
  | .leq => bif kSame k k' then some (.bool (iLe a b)) else none
  | .gtr => bif kSame k k' then some (.bool (iLt b a)) else none
  | .geq => bif kSame k k' then some (.bool (iLe b a)) else none
  | _ => none
theorem fastI_eq {op : BinOp} {k k' : IntKind} {a b : Int} {v : AV} {t : TypeId} (h : fastI op k k' a b = some v) : pureAV (Go.binOp op t (.int k a) (.int k' b)) = some v := by
  cases op <;> simp only [fastI] at h <;> try cases h
  all_goals first
    | (cases hk : both64 k k' with
       | false => rw [hk] at h; cases h
       | true =>
         rw [hk] at h
         obtain ⟨rfl, rfl⟩ := both64_eq hk
         rw [fix64_eq h]; rfl)
    | (cases hk : kSame k k' with
       | false => rw [hk] at h; cases h
       | true =>
         rw [hk] at h
         have := kSame_eq hk
         subst this
         simp only [cond_true, Option.some.injEq] at h
         subst h
         simp [Go.binOp, Op.intCmp, pureAV, toAV0, iBeq_eq, iLt_eq, iLe_eq, pure, Sem.pure, bne])
def kIntBin (op : BinOp) (t : TypeId) (k k' : IntKind) (a b : Int) : Option AV → Option AV
  | some v => some v
  | none => pureAV (Go.binOp op t (.int k a) (.int k' b))
def sBeq : List UInt8 → List UInt8 → Bool
  | [], [] => true
  | a :: l, b :: r => bif Nat.beq a.toNat b.toNat then sBeq l r else false
  | _, _ => false
theorem sBeq_eq : ∀ (a b : List UInt8), sBeq a b = (a == b)
  | [], [] => rfl
  | [], b :: r => rfl
  | a :: l, [] => rfl
  | a :: l, b :: r => by
    simp only [sBeq, sBeq_eq l r]
    by_cases h : a = b
    · subst h; simp
    · have : Nat.beq a.toNat b.toNat = false := by
        rw [Bool.eq_false_iff]; intro hb
        exact h (UInt8.toNat_inj.1 (Nat.eq_of_beq_eq_true hb))
      rw [this]; simp [h]
def kStrBin (op : BinOp) (a b : List UInt8) : Option AV :=
  match op with
  | .add => if a.length + b.length ≤ 4611686018427387904 then some (.str (a ++ b)) else none
  | .eql => some (.bool (sBeq a b))
  | .neq => some (.bool (!sBeq a b))
  | .lss => some (.bool (Op.bytesLess a b))
  | .leq => some (.bool (Op.bytesLess a b || a == b))
  | .gtr => some (.bool (!(Op.bytesLess a b || a == b)))
  | .geq => some (.bool (!Op.bytesLess a b))
  | _ => none
def kOthBin (E : Env) (h : AHeap) (op : BinOp) (t : TypeId) (c : Bool) (x y : AV) : Option AV :=
  match op with
  | .eql => (eqA E h t c x y).map .bool
  | .neq => (eqA E h t c x y).map fun b => .bool (!b)
  | _ => none
def binK (E : Env) (h : AHeap) (op : BinOp) (t : TypeId) (c : Bool) (x y : AV) : Option AV :=
  match x, y with
  | .int k a, .int k' b => kIntBin op t k k' a b (fastI op k k' a b)
  | .str a, .str b => kStrBin op a b
  | x, y => kOthBin E h op t c x y
theorem binK_eq (E : Env) (h : AHeap) (op : BinOp) (t : TypeId) (c : Bool) (x y : AV) : binK E h op t c x y = binA E h op t c x y := by
  have hi : ∀ k k' a b, kIntBin op t k k' a b (fastI op k k' a b) = pureAV (Go.binOp op t (.int k a) (.int k' b)) := by
    intro k k' a b
    cases hf : fastI op k k' a b with
    | none => rfl
    | some v => exact (fastI_eq hf).symm
  have hs : ∀ a b, kStrBin op a b = binA E h op t c (.str a) (.str b) := by
    intro a b
    cases op <;> simp [kStrBin, binA, sBeq_eq]
  cases x <;> cases y <;> first | exact hi _ _ _ _ | exact hs _ _ | rfl
def isTmp : Operand → Bool
  | .tmp _ => true
  | _ => false
def tmpOf : Operand → Tmp
  | .tmp t => t
  | _ => 0
def evK (rg : T AV) (x : Operand) : Option AV := Bool.rec (motive := fun _ => Option AV) (evA rg x) (rg.get (tmpOf x)) (isTmp x)
theorem evK_eq (rg : T AV) (x : Operand) : evK rg x = evA rg x := by cases x <;> rfl
def isMv : Op → Bool
  | .move _ | .assign _ => true
  | _ => false
def isLd : Op → Bool
  | .load .. => true
  | _ => false
def isBin : Op → Bool
  | .binOp .. => true
  | _ => false
def isFa : Op → Bool
  | .fieldAddr .. => true
  | _ => false
def arg1 : Op → Operand
  | .move x | .assign x => x
  | .load _ x => x
  | .binOp _ _ x _ _ => x
  | .fieldAddr _ x _ => x
  | .extract x _ => x
  | .pick x _ _ => x
  | .unOp _ _ x => x
  | _ => .const .nilFunc
def arg2 : Op → Operand
  | .binOp _ _ _ y _ => y
  | .pick _ y _ => y
  | _ => .const .nilFunc
def ty1 : Op → TypeId
  | .load t _ => t
  | .binOp _ t _ _ _ => t
  | .fieldAddr t _ _ => t
  | _ => 0
def bop : Op → BinOp
  | .binOp op _ _ _ _ => op
  | _ => .add
def fdOf (E : Env) : Op → Option Nat
  | .fieldAddr t _ f => match E.und t with
    | some (.struct fs) => match fs[f]? with
      | some fd => match E.siz fd.type with
        | some (_ + 1) => some fd.offset
        | _ => none
      | none => none
    | _ => none
  | _ => none
/-! Accessors: their arms are closed terms. -/
def asPtr (v : AV) : Option (Nat × Nat) := AV.rec (motive_1 := fun _ => Option (Nat × Nat)) (motive_2 := fun _ => Unit) (fun _ => none) (fun _ _ => none) (fun _ => none) (fun a => a) (fun _ _ => none) (fun _ => none) (fun _ _ _ => none) (fun _ => none) none (fun _ _ _ => none) none (fun _ _ => none) (fun _ _ => none) () (fun _ _ _ _ => ()) v
def asBool (v : AV) : Option Bool := AV.rec (motive_1 := fun _ => Option Bool) (motive_2 := fun _ => Unit) (fun b => some b) (fun _ _ => none) (fun _ => none) (fun _ => none) (fun _ _ => none) (fun _ => none) (fun _ _ _ => none) (fun _ => none) none (fun _ _ _ => none) none (fun _ _ => none) (fun _ _ => none) () (fun _ _ _ _ => ()) v
def asTup (v : AV) : Option (List AV) := AV.rec (motive_1 := fun _ => Option (List AV)) (motive_2 := fun _ => Unit) (fun _ => none) (fun _ _ => none) (fun _ => none) (fun _ => none) (fun _ _ => none) (fun _ => none) (fun _ _ _ => none) (fun _ => none) none (fun _ _ _ => none) none (fun _ _ => none) (fun vs _ => some vs) () (fun _ _ _ _ => ()) v
/-- The element at a place. -/
def nthK (l : List AV) : Nat → Option AV :=
  List.rec (motive := fun _ => Nat → Option AV) (fun _ => none) (fun a _ r n => Nat.rec (motive := fun _ => Option AV) (some a) (fun m _ => r m) n) l
theorem nthK_eq : ∀ (l : List AV) (n : Nat), nthK l n = l[n]?
  | [], n => by simp [nthK]
  | a :: l, 0 => rfl
  | a :: l, n + 1 => by
    have : nthK (a :: l) (n + 1) = nthK l n := rfl
    rw [this, nthK_eq l n]; simp
def isEx : Op → Bool
  | .extract .. => true
  | _ => false
def isPk : Op → Bool
  | .pick .. => true
  | _ => false
def isUn : Op → Bool
  | .unOp .. => true
  | _ => false
def exIx : Op → Nat
  | .extract _ i => i
  | _ => 0
def unop : Op → UnOp
  | .unOp op _ _ => op
  | _ => .not
def arg3 : Op → Operand
  | .pick _ _ b => b
  | _ => .const .nilFunc
def exK (i : Nat) : Option AV → Option AV
  | some v => match asTup v with
    | some vs => nthK vs i
    | none => none
  | none => none
def pkK (a b : Option AV) : Option AV → Option AV
  | some v => match asBool v with
    | some x => Bool.rec (motive := fun _ => Option AV) b a x
    | none => none
  | none => none
def unK (op : UnOp) : Option AV → Option AV
  | some v => unA op v
  | none => none
def ldOne (E : Env) (t : TypeId) : Option (Option Nat) :=
  match E.isAgg t, E.siz t with
  | some true, some n => some (some n)
  | some false, some _ => some none
  | _, _ => none
def ld1 (off : Nat) : Option AObj → Option AV
  | some (.cells _ _ cs) => nthK cs off
  | _ => none
theorem ld1_eq (h : AHeap) (i off : Nat) : ld1 off (h.get i) = h.load1 i off := by
  unfold AHeap.load1
  cases h.get i with
  | none => rfl
  | some o => cases o <;> first | rfl | exact nthK_eq _ _
def ldAt (h : AHeap) (i off : Nat) : Option (Option Nat) → Option AV
  | some (some n) => match h.loadCells i off n with
    | some cs => some (.agg cs)
    | none => none
  | some none => ld1 off (h.get i)
  | none => none
def ldK2 (h : AHeap) (m : Option (Option Nat)) : Option (Nat × Nat) → Option AV
  | some (i, off) => ldAt h i off m
  | none => none
def ldK (h : AHeap) (m : Option (Option Nat)) : Option AV → Option AV
  | some v => ldK2 h m (asPtr v)
  | none => none
def faK2 (m : Option Nat) : Option (Nat × Nat) → Option AV
  | some (i, off) => match m with
    | some o => some (.ptr (some (i, off + o)))
    | none => none
  | none => none
def faK (m : Option Nat) : Option AV → Option AV
  | some v => faK2 m (asPtr v)
  | none => none
def biK (E : Env) (h : AHeap) (op : BinOp) (t : TypeId) (c : Bool) : Option AV → Option AV → Option AV
  | some a, some b => binK E h op t c a b
  | _, _ => none
/-- The value of a common operation; none: it is another one, or it fails. -/
def valK (E : Env) (rg : T AV) (h : AHeap) (o : Op) : Option AV :=
  Bool.rec (motive := fun _ => Option AV)
    (Bool.rec (motive := fun _ => Option AV)
      (Bool.rec (motive := fun _ => Option AV)
        (Bool.rec (motive := fun _ => Option AV)
          (Bool.rec (motive := fun _ => Option AV)
            (Bool.rec (motive := fun _ => Option AV) (faK (fdOf E o) (evK rg (arg1 o)))
              (unK (unop o) (evK rg (arg1 o))) (isUn o))
            (pkK (evK rg (arg2 o)) (evK rg (arg3 o)) (evK rg (arg1 o))) (isPk o))
          (exK (exIx o) (evK rg (arg1 o))) (isEx o))
        (biK E h (bop o) (ty1 o) (isConstO (arg1 o) || isConstO (arg2 o)) (evK rg (arg1 o)) (evK rg (arg2 o))) (isBin o))
      (ldK h (ldOne E (ty1 o)) (evK rg (arg1 o))) (isLd o))
    (evK rg (arg1 o)) (isMv o)
def isVal : Op → Bool
  | .move _ | .assign _ | .load .. | .binOp .. | .fieldAddr .. | .extract .. | .pick .. | .unOp .. => true
  | _ => false
def mapVal (h : AHeap) : Option AV → Option (ORes × AHeap)
  | some v => some (.val v, h)
  | none => none
theorem valK_eq (E : Env) (rg : T AV) (h : AHeap) (o : Oper) (hv : isVal o.op = true) : mapVal h (valK E rg h o.op) = opA E rg h o := by
  rw [← opK0_eq]
  cases ho : o.op <;> rw [ho] at hv <;> try (cases hv)
  · rename_i x
    simp only [opK0, ho, kMove]
    show mapVal h (evK rg x) = _
    rw [evK_eq]; cases evA rg x <;> rfl
  · rename_i x
    simp only [opK0, ho, kMove]
    show mapVal h (evK rg x) = _
    rw [evK_eq]; cases evA rg x <;> rfl
  · rename_i c x y
    simp only [opK0, ho, kPick]
    show mapVal h (pkK (evK rg x) (evK rg y) (evK rg c)) = _
    rw [evK_eq, evK_eq, evK_eq]
    cases evA rg c with
    | none => rfl
    | some v => cases v with
      | bool b => cases b with
        | true => show mapVal h (evA rg x) = _; cases evA rg x <;> rfl
        | false => show mapVal h (evA rg y) = _; cases evA rg y <;> rfl
      | _ => rfl
  · rename_i t x
    simp only [opK0, ho, kLoad]
    show mapVal h (ldK h (ldOne E t) (evK rg x)) = _
    rw [evK_eq]
    cases evA rg x with
    | none => rfl
    | some v =>
      cases v with
      | ptr p =>
        cases p with
        | none => rfl
        | some p =>
          obtain ⟨i, off⟩ := p
          show mapVal h (ldAt h i off (ldOne E t)) = _
          simp only [ldOne]
          cases E.isAgg t with
          | none => rfl
          | some ag =>
            cases E.siz t with
            | none => cases ag <;> rfl
            | some n =>
              cases ag with
              | true => simp only [ldAt]; cases h.loadCells i off n <;> rfl
              | false => simp only [ldAt, ld1_eq]; cases h.load1 i off <;> rfl
      | _ => rfl
  · rename_i op t x y u
    simp only [opK0, ho, kBinOp]
    show mapVal h (biK E h op t (isConstO x || isConstO y) (evK rg x) (evK rg y)) = _
    rw [evK_eq, evK_eq]
    cases evA rg x with
    | none => rfl
    | some a => cases evA rg y with
      | none => rfl
      | some b =>
        simp only [biK, binK_eq]
        cases binA E h op t (isConstO x || isConstO y) a b <;> rfl
  · rename_i op t x
    simp only [opK0, ho, kUnOp]
    show mapVal h (unK op (evK rg x)) = _
    rw [evK_eq]
    cases evA rg x with
    | none => rfl
    | some v => simp only [unK]; cases unA op v <;> rfl
  · rename_i t x f
    simp only [opK0, ho, kFieldAddr]
    show mapVal h (faK (fdOf E (.fieldAddr t x f)) (evK rg x)) = _
    rw [evK_eq]
    simp only [fdOf]
    cases hx : evA rg x with
    | none => cases E.und t with
      | none => rfl
      | some d => cases d <;> rfl
    | some v =>
      cases E.und t with
      | none => cases v <;> first | rfl | (rename_i p; cases p <;> rfl)
      | some d =>
        cases d with
        | struct fs =>
          simp only []
          cases v with
          | ptr p =>
            cases p with
            | none => rfl
            | some p =>
              obtain ⟨i, off⟩ := p
              show mapVal h (faK2 _ (some (i, off))) = _
              simp only [faK2]
              cases fs[f]? with
              | none => rfl
              | some fd =>
                simp only []
                cases E.siz fd.type with
                | none => rfl
                | some n => cases n <;> rfl
          | _ => rfl
        | _ => cases v <;> first | rfl | (rename_i p; cases p <;> rfl)
  · rename_i x i
    simp only [opK0, ho, kExtract]
    show mapVal h (exK i (evK rg x)) = _
    rw [evK_eq]
    cases evA rg x with
    | none => rfl
    | some v => cases v with
      | tup vs => show mapVal h (nthK vs i) = _; rw [nthK_eq]; simp only []; cases vs[i]? <;> rfl
      | _ => rfl
def opK (E : Env) (rg : T AV) (h : AHeap) (o : Oper) : Option (ORes × AHeap) :=
  Bool.rec (motive := fun _ => Option (ORes × AHeap)) (opK0 E rg h o) (mapVal h (valK E rg h o.op)) (isVal o.op)
theorem opK_eq (E : Env) (rg : T AV) (h : AHeap) (o : Oper) : opK E rg h o = opA E rg h o := by
  unfold opK
  cases hv : isVal o.op with
  | true => exact valK_eq E rg h o hv
  | false => exact opK0_eq E rg h o

/-! ### Regions -/
def dstK (n : Nat) : Option Tmp → Bool
  | some d => Nat.blt d n
  | none => true
theorem dstK_eq (n : Nat) (d : Option Tmp) : dstK n d = dstOk n d := by
  cases d with
  | none => rfl
  | some d => rw [Bool.eq_iff_iff]; simp [dstK, dstOk, Nat.blt_eq]
def guardK (ops : Array Oper) (rg : T AV) : Option (Nat × Bool) → Option Bool
  | none => some true
  | some (j, want) => match (ops[j]?).bind (·.dst) with
      | none => some false
      | some d => match rg.get d with
        | some (.bool b) => some (b == want)
        | some (.tup []) => some false
        | _ => none
def wantedK (ops : Array Oper) (n : Nat) (rg : T AV) (o : Oper) : Option Bool := bif dstK n o.dst then guardK ops rg o.guard else none
theorem wantedK_eq (ops : Array Oper) (n : Nat) (rg : T AV) (o : Oper) : wantedK ops n rg o = wantedA ops n rg o := by
  unfold wantedK wantedA
  rw [dstK_eq]
  cases dstOk n o.dst with
  | false => rfl
  | true =>
    simp only [cond_true, if_true]
    unfold guardK
    cases o.guard with
    | none => rfl
    | some g => obtain ⟨j, want⟩ := g; rfl

abbrev Kont := T AV → Nat → AHeap → List ADef → Bool → Option (AExit × St)
abbrev SKont := St → Option (AExit × St)
def kont (k : Kont) : SKont := fun st => k st.rg st.n st.h st.ds st.rnd
def kOut (d : Option Tmp) (rg : T AV) (n : Nat) (ds : List ADef) (rnd : Bool) (k : Kont) : Option (Out × AHeap) → Option (AExit × St)
  | some (.ret v, h) => k (putA rg d v) n h ds rnd
  | some (.pan v, h) => some (.pan v, ⟨rg, n, h, ds, rnd⟩)
  | none => none
def kYl (d : Option Tmp) (rg : T AV) (n : Nat) (ds : List ADef) (rnd : Bool) (k : Kont) : Option (AV × AHeap) → Option (AExit × St)
  | some (v, h) => k (putA rg d v) n h ds rnd
  | none => none
def kRes (call : CallF) (round : RoundF) (d : Option Tmp) (rg : T AV) (n : Nat) (ds : List ADef) (rnd : Bool) (k : Kont) : Option (ORes × AHeap) → Option (AExit × St)
  | none => none
  | some (.val v, h) => k (putA rg d v) n h ds rnd
  | some (.skip, h) => k (putA rg d nil') n h ds rnd
  | some (.enter f args, h) => kOut d rg n ds rnd k (call f args h)
  | some (.yield l args, h) => kYl d rg n ds rnd k (round l args h)
  | some (.defer f args, h) => bif rnd then none else k (putA rg d nil') n h (.call f args :: ds) rnd
  | some (.recover, _) => none
  | some (.panic v, h) => some (.pan v, ⟨rg, n, h, ds, rnd⟩)
/-- The same with the first form's step. -/
def after (k : SKont) : Option (Option AV × St) → Option (AExit × St)
  | none => none
  | some (none, st') => k st'
  | some (some v, st') => some (.pan v, st')
theorem kRes_eq (call : CallF) (round : RoundF) (d : Option Tmp) (rg : T AV) (n : Nat) (h : AHeap) (ds : List ADef) (rnd : Bool) (k : Kont) (r : ORes × AHeap) :
    kRes call round d rg n ds rnd k (some r) = after (kont k) (resA call round d ⟨rg, n, h, ds, rnd⟩ r) := by
  obtain ⟨r, h2⟩ := r
  cases r with
  | enter f args =>
    simp only [kRes, resA]
    cases call f args h2 with
    | none => rfl
    | some x => obtain ⟨out, h3⟩ := x; cases out <;> rfl
  | yield l args =>
    simp only [kRes, resA]
    cases round l args h2 with
    | none => rfl
    | some x => rfl
  | defer f args => cases rnd <;> rfl
  | _ => rfl
def kVal (d : Option Tmp) (rg : T AV) (n : Nat) (h : AHeap) (ds : List ADef) (rnd : Bool) (k : Kont) : Option AV → Option (AExit × St)
  | some v => k (putA rg d v) n h ds rnd
  | none => none
def callOf (E : Env) : Op → Option FuncId
  | .call c => match c.callee with
    | .value (.func k) => bif hasBody E k then some k else none
    | _ => none
  | _ => none
def callArgs : Op → List Operand
  | .call c => c.args.toList
  | _ => []
def evsK (rg : T AV) (l : List Operand) : Option (List AV) :=
  List.rec (motive := fun _ => Option (List AV)) (some []) (fun x _ r => Option.rec (motive := fun _ => Option (List AV)) none (fun a => Option.rec (motive := fun _ => Option (List AV)) none (fun b => some (a :: b)) r) (evK rg x)) l
theorem evsK_eq (rg : T AV) : ∀ l, evsK rg l = evAs rg l
  | [] => rfl
  | x :: l => by
    show Option.rec (motive := fun _ => Option (List AV)) none (fun a => Option.rec (motive := fun _ => Option (List AV)) none (fun b => some (a :: b)) (evsK rg l)) (evK rg x) = _
    rw [evK_eq, evsK_eq]
    simp only [evAs]
    cases evA rg x with
    | none => rfl
    | some a => cases evAs rg l <;> rfl
def kArgs (call : CallF) (d : Option Tmp) (rg : T AV) (n : Nat) (h : AHeap) (ds : List ADef) (rnd : Bool) (k : Kont) (f : FuncId) : Option (List AV) → Option (AExit × St)
  | some args => kOut d rg n ds rnd k (call f args h)
  | none => none
def kOth (E : Env) (call : CallF) (round : RoundF) (o : Oper) (rg : T AV) (n : Nat) (h : AHeap) (ds : List ADef) (rnd : Bool) (k : Kont) : Option FuncId → Option (AExit × St)
  | some f => kArgs call o.dst rg n h ds rnd k f (evsK rg (callArgs o.op))
  | none => kRes call round o.dst rg n ds rnd k (opK0 E rg h o)
theorem kOth_eq (E : Env) (call : CallF) (round : RoundF) (o : Oper) (rg : T AV) (n : Nat) (h : AHeap) (ds : List ADef) (rnd : Bool) (k : Kont) : kOth E call round o rg n h ds rnd k (callOf E o.op) = kRes call round o.dst rg n ds rnd k (opA E rg h o) := by
  cases hc : callOf E o.op with
  | none => simp only [kOth, opK0_eq]
  | some f =>
    unfold callOf at hc
    split at hc
    · rename_i c ho
      split at hc
      · rename_i f' hcal
        cases hb : hasBody E f' with
        | false => rw [hb] at hc; cases hc
        | true =>
          rw [hb] at hc
          simp only [cond_true, Option.some.injEq] at hc
          subst hc
          simp only [kOth, ho, callArgs, evsK_eq]
          unfold hasBody at hb
          simp only [opA, ho]
          cases evAs rg c.args.toList with
          | none => rfl
          | some args =>
            cases hfn : E.fn f' with
            | none => rw [hfn] at hb; cases hb
            | some fn =>
              rw [hfn] at hb
              simp only [hcal, evA, hfn, hb, if_true, List.append_nil]
              rfl
      · cases hc
    · cases hc
def kDo (E : Env) (call : CallF) (round : RoundF) (o : Oper) (rg : T AV) (n : Nat) (h : AHeap) (ds : List ADef) (rnd : Bool) (k : Kont) : Option (AExit × St) :=
  Bool.rec (motive := fun _ => Option (AExit × St)) (kOth E call round o rg n h ds rnd k (callOf E o.op)) (kVal o.dst rg n h ds rnd k (valK E rg h o.op)) (isVal o.op)
theorem kDo_eq (E : Env) (call : CallF) (round : RoundF) (o : Oper) (rg : T AV) (n : Nat) (h : AHeap) (ds : List ADef) (rnd : Bool) (k : Kont) : kDo E call round o rg n h ds rnd k = kRes call round o.dst rg n ds rnd k (opA E rg h o) := by
  unfold kDo
  cases hv : isVal o.op with
  | true =>
    rw [← valK_eq E rg h o hv]
    simp only []
    cases valK E rg h o.op <;> rfl
  | false => exact kOth_eq E call round o rg n h ds rnd k
def kSkip (rg : T AV) (n : Nat) (h : AHeap) (ds : List ADef) (rnd : Bool) (d : Option Tmp) (k : Kont) (go : Option (AExit × St)) : Option Bool → Option (AExit × St)
  | none => none
  | some false => k (putA rg d nil') n h ds rnd
  | some true => go
def noGuard : Option (Nat × Bool) → Bool
  | none => true
  | _ => false
/-- One operation; 'Bool.rec' ahead of all: its temporary is one of the frame's and it bears no guard. -/
def kStep (E : Env) (call : CallF) (round : RoundF) (ops : Array Oper) (o : Oper) (k : Kont) : Kont := fun rg n h ds rnd =>
  Bool.rec (motive := fun _ => Option (AExit × St))
    (kSkip rg n h ds rnd o.dst k (kDo E call round o rg n h ds rnd k) (wantedK ops n rg o))
    (Bool.rec (motive := fun _ => Option (AExit × St)) none (kDo E call round o rg n h ds rnd k) (dstK n o.dst))
    (noGuard o.guard)
theorem kStep_eq (E : Env) (call : CallF) (round : RoundF) (ops : Array Oper) (o : Oper) (k : Kont) (rg : T AV) (n : Nat) (h : AHeap) (ds : List ADef) (rnd : Bool) :
    kStep E call round ops o k rg n h ds rnd = kSkip rg n h ds rnd o.dst k (kDo E call round o rg n h ds rnd k) (wantedA ops n rg o) := by
  unfold kStep
  rw [← wantedK_eq]
  cases hg : o.guard with
  | some g => rfl
  | none =>
    simp only [noGuard, wantedK, hg, guardK]
    cases dstK n o.dst <;> rfl
def opsK (E : Env) (call : CallF) (round : RoundF) (ops : Array Oper) (l : List Oper) : Kont :=
  List.rec (motive := fun _ => Kont) (fun rg n h ds rnd => some (.nrm, ⟨rg, n, h, ds, rnd⟩)) (fun o _ k => kStep E call round ops o k) l
theorem opsK_cons (E : Env) (call : CallF) (round : RoundF) (ops : Array Oper) (o : Oper) (l : List Oper) : opsK E call round ops (o :: l) = kStep E call round ops o (opsK E call round ops l) := rfl
theorem opsK_eq (E : Env) (call : CallF) (round : RoundF) (ops : Array Oper) : ∀ (l : List Oper) (st : St), kont (opsK E call round ops l) st = opsA E call round ops l st
  | [], st => rfl
  | o :: l, st => by
    obtain ⟨rg, n, h, ds, rnd⟩ := st
    have ih : kont (opsK E call round ops l) = opsA E call round ops l := funext (opsK_eq E call round ops l)
    rw [opsK_cons]
    simp only [kont, kStep_eq, opsA]
    cases wantedA ops n rg o with
    | none => rfl
    | some b => cases b with
      | false => exact congrFun ih { rg := putA rg o.dst nil', n := n, h := h, ds := ds, rnd := rnd }
      | true =>
        simp only [kSkip, kDo_eq]
        cases opA E rg h o with
        | none => rfl
        | some r =>
          show kRes call round o.dst rg n ds rnd (opsK E call round ops l) (some r) = (match resA call round o.dst ⟨rg, n, h, ds, rnd⟩ r with
            | none => none
            | some (none, st') => opsA E call round ops l st'
            | some (some v, st') => some (.pan v, st'))
          rw [kRes_eq (h := h), ih]
          cases resA call round o.dst ⟨rg, n, h, ds, rnd⟩ r with
          | none => rfl
          | some x => obtain ⟨p, st'⟩ := x; cases p <;> rfl

def kSame2 (v' : Option (ORes × AHeap)) (v : AV) : Bool :=
  match v' with
  | some (.val v', _) => AV.beq v' v
  | _ => false
def sameReadK (E : Env) (h : AHeap) (rg : T AV) (o : Oper) (v : AV) : Bool := kSame2 (opK E rg h o) v
theorem sameReadK_eq (E : Env) (h : AHeap) (rg : T AV) (o : Oper) (v : AV) : sameReadK E h rg o v = sameRead E h rg o v := by
  unfold sameReadK sameRead; rw [opK_eq]; rfl
abbrev DKont := T AV → Nat → AHeap → List ADef → Bool → List Snap → List Rd → Option (AExit × St)
abbrev DSKont := St → List Snap → List Rd → Option (AExit × St)
def dkont (k : DKont) : DSKont := fun st => k st.rg st.n st.h st.ds st.rnd
def dPure (o : Oper) (rg : T AV) (n : Nat) (h : AHeap) (ds : List ADef) (rnd : Bool) (sn : List Snap) (rd : List Rd) (k : DKont) : Option (ORes × AHeap) → Option (AExit × St)
  | some (.val v, _) => k (putA rg o.dst v) n h ds rnd sn rd
  | _ => none
def dRead (E : Env) (bef : Nat → Nat) (o : Oper) (i : Nat) (rg : T AV) (n : Nat) (h : AHeap) (ds : List ADef) (rnd : Bool) (sn : List Snap) (rd : List Rd) (k : DKont) : Option (ORes × AHeap) → Option (AExit × St)
  | some (.val v, _) => bif sn.all (fun s => (bef i).testBit s.idx || sameReadK E s.h rg o v) then
      k (putA rg o.dst v) n h ds rnd sn ({ idx := i, o := o, rg := rg, v := v } :: rd) else none
  | _ => none
def dAlloc2 (base : Nat) (o : Oper) (i : Nat) (rg : T AV) (n : Nat) (h : AHeap) (ds : List ADef) (rnd : Bool) (sn : List Snap) (rd : List Rd) (k : DKont) : Option AObj → Option AObj → Option AV → Option (AExit × St)
  | some obj, none, some v' => k (putA rg o.dst v') n (h.set (base + i) obj) ds rnd sn rd
  | _, _, _ => none
def dAlloc (base : Nat) (o : Oper) (i : Nat) (rg : T AV) (n : Nat) (h : AHeap) (ds : List ADef) (rnd : Bool) (sn : List Snap) (rd : List Rd) (k : DKont) : Option (ORes × AHeap) → Option (AExit × St)
  | some (.val v, h2) => dAlloc2 base o i rg n h ds rnd sn rd k (h2.get h.next) (h.get (base + i)) (reid (base + i) v)
  | _ => none
def dEff3 (E : Env) (bef : Nat → Nat) (i : Nat) (h0 : AHeap) (rg : T AV) (n : Nat) (h : AHeap) (ds : List ADef) (rnd : Bool) (sn : List Snap) (rd : List Rd) (k : DKont) : Bool → Option (AExit × St)
  | true => k rg n h ds rnd ({ idx := i, h := h0 } :: sn) rd
  | false => none
def dEff2 (E : Env) (ops : Array Oper) (bef : Nat → Nat) (i : Nat) (rg0 : T AV) (h0 : AHeap) (sn : List Snap) (rd : List Rd) (rest : List (Oper × Nat)) (k : DKont) : Option (Option AV × St) → Option (AExit × St)
  | none => none
  | some (none, ⟨rg, n, h, ds, rnd⟩) => dEff3 E bef i h0 rg n h ds rnd sn rd k (rd.all (fun r => (bef i).testBit r.idx || sameReadK E h r.rg r.o r.v))
  | some (some v, st') => bif rest.all (fun x => (bef x.2).testBit i) then some (.pan v, { st' with rg := ops.foldl (fun r o => match o.dst with | some d => r.del d | none => r) rg0 }) else none
def dEff (E : Env) (call : CallF) (round : RoundF) (ops : Array Oper) (bef : Nat → Nat) (o : Oper) (i : Nat) (rg : T AV) (n : Nat) (h : AHeap) (ds : List ADef) (rnd : Bool) (sn : List Snap) (rd : List Rd) (rest : List (Oper × Nat)) (k : DKont) : Option (ORes × AHeap) → Option (AExit × St)
  | some r => bif sn.all (fun s => (bef i).testBit s.idx) then dEff2 E ops bef i rg h sn rd rest k (resA call round o.dst ⟨rg, n, h, ds, rnd⟩ r) else none
  | none => none
def dTrue (E : Env) (call : CallF) (round : RoundF) (ops : Array Oper) (bef : Nat → Nat) (base : Nat) (o : Oper) (i : Nat) (rg : T AV) (n : Nat) (h : AHeap) (ds : List ADef) (rnd : Bool) (sn : List Snap) (rd : List Rd) (rest : List (Oper × Nat)) (k : DKont) : Cls → Option (AExit × St)
  | .pure => dPure o rg n h ds rnd sn rd k (opK E rg h o)
  | .read => dRead E bef o i rg n h ds rnd sn rd k (opK E rg h o)
  | .alloc => dAlloc base o i rg n h ds rnd sn rd k (opK E rg h o)
  | .eff => dEff E call round ops bef o i rg n h ds rnd sn rd rest k (opK E rg h o)
def dStep (E : Env) (call : CallF) (round : RoundF) (ops : Array Oper) (bef : Nat → Nat) (base : Nat) (o : Oper) (i : Nat) (rg : T AV) (n : Nat) (h : AHeap) (ds : List ADef) (rnd : Bool) (sn : List Snap) (rd : List Rd) (rest : List (Oper × Nat)) (k : DKont) : Option Bool → Option (AExit × St)
  | none => none
  | some false => k (putA rg o.dst nil') n h ds rnd sn rd
  | some true => dTrue E call round ops bef base o i rg n h ds rnd sn rd rest k (clsOf E o)
def drawK (E : Env) (call : CallF) (round : RoundF) (ops : Array Oper) (bef : Nat → Nat) (base : Nat) : List (Oper × Nat) → DKont
  | [], rg, n, h, ds, rnd, _, _ => some (.nrm, ⟨rg, n, h, ds, rnd⟩)
  | (o, i) :: rest, rg, n, h, ds, rnd, sn, rd => dStep E call round ops bef base o i rg n h ds rnd sn rd rest (drawK E call round ops bef base rest) (wantedK ops n rg o)
theorem drawK_eq (E : Env) (call : CallF) (round : RoundF) (ops : Array Oper) (bef : Nat → Nat) (base : Nat) : ∀ (l : List (Oper × Nat)) (st : St) (sn : List Snap) (rd : List Rd), dkont (drawK E call round ops bef base l) st sn rd = drawA E call round ops bef base l st sn rd
  | [], st, sn, rd => rfl
  | (o, i) :: l, st, sn, rd => by
    obtain ⟨rg, n, h, ds, rnd⟩ := st
    have ih := drawK_eq E call round ops bef base l
    have ih' : ∀ rg n h ds rnd sn rd, drawK E call round ops bef base l rg n h ds rnd sn rd = drawA E call round ops bef base l ⟨rg, n, h, ds, rnd⟩ sn rd := fun rg n h ds rnd sn rd => ih ⟨rg, n, h, ds, rnd⟩ sn rd
    simp only [dkont, drawK, drawA, wantedK_eq]
    cases wantedA ops n rg o with
    | none => rfl
    | some b => cases b with
      | false => exact ih' _ _ _ _ _ _ _
      | true =>
        simp only [dStep]
        cases hcl : clsOf E o with
        | pure =>
          simp only [dTrue, opK_eq]
          cases hop : opA E rg h o with
          | none => rfl
          | some r => obtain ⟨r, h2⟩ := r; cases r <;> first | rfl | exact ih' _ _ _ _ _ _ _
        | read =>
          simp only [dTrue, opK_eq]
          cases hop : opA E rg h o with
          | none => rfl
          | some r => obtain ⟨r, h2⟩ := r; cases r <;> first | rfl | simp only [dRead, ih', sameReadK_eq, cond_eq_ite]
        | alloc =>
          simp only [dTrue, opK_eq]
          cases hop : opA E rg h o with
          | none => rfl
          | some r =>
            obtain ⟨r, h2⟩ := r
            cases r with
            | val v =>
              simp only [dAlloc]
              cases h2.get h.next with
              | none => rfl
              | some obj => cases h.get (base + i) with
                | some x => rfl
                | none => cases reid (base + i) v with
                  | none => rfl
                  | some v' => exact ih' _ _ _ _ _ _ _
            | _ => rfl
        | eff =>
          simp only [dTrue, opK_eq]
          cases hop : opA E rg h o with
          | none => rfl
          | some r =>
            simp only [dEff, cond_eq_ite]
            split
            · cases resA call round o.dst ⟨rg, n, h, ds, rnd⟩ r with
              | none => rfl
              | some x =>
                obtain ⟨p, st'⟩ := x
                obtain ⟨rg', n', h', ds', rnd'⟩ := st'
                cases p with
                | none =>
                  simp only [dEff2, sameReadK_eq]
                  cases rd.all (fun r => (bef i).testBit r.idx || sameRead E h' r.rg r.o r.v) with
                  | true => simp only [dEff3, ih', if_true]
                  | false => rfl
                | some v => simp only [dEff2, cond_eq_ite]; rfl
            · rfl

/-! ### The order of a region, by bits -/
def maskT : List Tmp → Nat
  | [] => 0
  | t :: r => Nat.lor (2 ^ t) (maskT r)
def dstM : Option Tmp → Nat
  | some d => 2 ^ d
  | none => 0
theorem maskT_bit : ∀ (l : List Tmp) (t : Nat), (maskT l).testBit t = l.contains t
  | [], t => by simp [maskT]
  | x :: r, t => by
    have : maskT (x :: r) = (2 ^ x ||| maskT r) := rfl
    rw [this, Nat.testBit_or, maskT_bit r t, Nat.testBit_two_pow]
    simp only [List.contains_cons]
    by_cases h : x = t
    · subst h; simp
    · have h' : ¬ t = x := fun e => h e.symm
      simp [h, h']
theorem dstM_bit (d : Option Tmp) (t : Nat) : (dstM d).testBit t = (d == some t) := by
  cases d with
  | none => simp [dstM]
  | some x => rw [Bool.eq_iff_iff]; simp [dstM, Nat.testBit_two_pow]
theorem land_zero {d m : Nat} (h : Nat.beq (Nat.land (2 ^ d) m) 0 = true) : m.testBit d = false := by
  have h1 : (2 ^ d &&& m) = 0 := Nat.eq_of_beq_eq_true h
  have h2 : (2 ^ d &&& m).testBit d = false := by rw [h1]; simp
  rw [Nat.testBit_and, Nat.testBit_two_pow] at h2
  simpa using h2
def apartK (wi li wj lj : Nat) : Bool := bif Nat.beq (Nat.land wj (Nat.lor li wi)) 0 then Nat.beq (Nat.land wi lj) 0 else false
theorem apartK_ok {ops : Array Oper} {x y : Oper} (h : apartK (dstM y.dst) (maskT (y.looksAt ops)) (dstM x.dst) (maskT (x.looksAt ops)) = true) : Oper.apart ops x y = true := by
  unfold apartK at h
  cases h1 : Nat.beq (Nat.land (dstM x.dst) (Nat.lor (maskT (y.looksAt ops)) (dstM y.dst))) 0 with
  | false => rw [h1] at h; cases h
  | true =>
    rw [h1] at h
    unfold Oper.apart
    rw [Bool.and_eq_true]
    constructor
    · cases hx : x.dst with
      | none => rfl
      | some d =>
        rw [hx] at h1
        have h2 := land_zero h1
        have h3 : (maskT (y.looksAt ops) ||| dstM y.dst).testBit d = false := h2
        rw [Nat.testBit_or, maskT_bit, dstM_bit] at h3
        simp only [Bool.or_eq_false_iff] at h3
        simp only [h3.1, bne, h3.2]
        rfl
    · cases hy : y.dst with
      | none => rfl
      | some d =>
        rw [hy] at h
        have h2 := land_zero h
        rw [maskT_bit] at h2
        simp only [h2]; rfl
def rowsK (ops : Array Oper) : List Oper → List (Nat × Nat)
  | [] => []
  | o :: r => (dstM o.dst, maskT (o.looksAt ops)) :: rowsK ops r
def chk1 (wi li b : Nat) : List (Nat × Nat) → Nat → Bool
  | [], _ => true
  | (wj, lj) :: r, j => bif apartK wi li wj lj || b.testBit j then chk1 wi li b r (j + 1) else false
def chk2 : List (Nat × Nat) → List Nat → List (Nat × Nat) → Bool
  | [], _, _ => true
  | (wi, li) :: r, b :: bs, prev => bif chk1 wi li b prev 0 then chk2 r bs (prev ++ [(wi, li)]) else false
  | _ :: _, [], _ => false
def edgesK : List Oper → Nat → Bool
  | [], _ => true
  | o :: r, i => bif o.after.toList.all (fun e => !Region.binds .any e || Nat.blt e.on i) then edgesK r (i + 1) else false
def drawOkK (ops : Array Oper) : Bool := edgesK ops.toList 0 && chk2 (rowsK ops ops.toList) (masks ops.toList []) []
theorem rowsK_get (ops : Array Oper) : ∀ (l : List Oper) (i : Nat), (rowsK ops l)[i]? = (l[i]?).map fun o => (dstM o.dst, maskT (o.looksAt ops))
  | [], i => by simp [rowsK]
  | o :: r, 0 => by simp [rowsK]
  | o :: r, i + 1 => by simpa [rowsK] using rowsK_get ops r i
theorem rowsK_take (ops : Array Oper) (l : List Oper) (k : Nat) : (rowsK ops l).take k = rowsK ops (l.take k) := by
  induction l generalizing k with
  | nil => simp [rowsK]
  | cons o r ih => cases k <;> simp [rowsK, ih]
theorem chk1_ok {wi li b : Nat} : ∀ {l : List (Nat × Nat)} {j : Nat}, chk1 wi li b l j = true → ∀ (q : Nat) (x : Nat × Nat), l[q]? = some x → apartK wi li x.1 x.2 = true ∨ b.testBit (j + q) = true
  | [], j, h, q, x, hx => by simp at hx
  | (wj, lj) :: r, j, h, q, x, hx => by
    simp only [chk1] at h
    cases hc : (apartK wi li wj lj || b.testBit j) with
    | false => rw [hc] at h; cases h
    | true =>
      rw [hc] at h
      cases q with
      | zero => simp at hx; subst hx; simpa using hc
      | succ q =>
        have := chk1_ok h q x (by simpa using hx)
        rwa [show j + (q + 1) = j + 1 + q by omega]
theorem chk2_ok : ∀ {l : List (Nat × Nat)} {bs : List Nat} {prev : List (Nat × Nat)}, chk2 l bs prev = true → ∀ (i : Nat) (x : Nat × Nat), l[i]? = some x → ∃ b, bs[i]? = some b ∧ chk1 x.1 x.2 b (prev ++ l.take i) 0 = true
  | [], bs, prev, h, i, x, hx => by simp at hx
  | (wi, li) :: r, [], prev, h, i, x, hx => by simp [chk2] at h
  | (wi, li) :: r, b :: bs, prev, h, i, x, hx => by
    simp only [chk2] at h
    cases hc : chk1 wi li b prev 0 with
    | false => rw [hc] at h; cases h
    | true =>
      rw [hc] at h
      cases i with
      | zero => simp at hx; subst hx; exact ⟨b, rfl, by simpa using hc⟩
      | succ i =>
        obtain ⟨b', h1, h2⟩ := chk2_ok h i x (by simpa using hx)
        exact ⟨b', by simpa using h1, by simpa using h2⟩
theorem edgesK_ok : ∀ {l : List Oper} {j : Nat}, edgesK l j = true → ∀ (i : Nat) (o : Oper), l[i]? = some o → o.after.toList.all (fun e => !Region.binds .any e || decide (e.on < j + i)) = true
  | [], j, h, i, o, ho => by simp at ho
  | x :: r, j, h, i, o, ho => by
    simp only [edgesK] at h
    cases hc : x.after.toList.all (fun e => !Region.binds .any e || Nat.blt e.on j) with
    | false => rw [hc] at h; cases h
    | true =>
      rw [hc] at h
      cases i with
      | zero =>
        simp at ho; subst ho
        refine List.all_eq_true.2 fun e he => ?_
        have := List.all_eq_true.1 hc e he
        simpa [Nat.blt_eq] using this
      | succ i =>
        have := edgesK_ok h i o (by simpa using ho)
        rwa [show j + (i + 1) = j + 1 + i by omega]
theorem drawOkK_ok {ops : Array Oper} (h : drawOkK ops = true) : drawOk ops = true := by
  unfold drawOkK at h
  rw [Bool.and_eq_true] at h
  obtain ⟨he, hc⟩ := h
  unfold drawOk
  refine List.all_eq_true.2 fun x hx => ?_
  obtain ⟨o, i⟩ := x
  rw [List.mem_zipIdx_iff_getElem?] at hx
  simp only [Bool.and_eq_true]
  constructor
  · have := edgesK_ok he i o (by simpa using hx)
    simpa using this
  · refine List.all_eq_true.2 fun y hy => ?_
    obtain ⟨o', j⟩ := y
    rw [List.mem_zipIdx_iff_getElem?] at hy
    have hj : j < i := by
      have := (List.getElem?_eq_some_iff.1 hy).1
      simp at this; omega
    have hy' : ops.toList[j]? = some o' := by simpa [List.getElem?_take, hj] using hy
    obtain ⟨b, hb, h1⟩ := chk2_ok hc i _ (by rw [rowsK_get, show ops.toList[i]? = some o by simpa using hx]; rfl)
    have h2 := chk1_ok h1 j (dstM o'.dst, maskT (o'.looksAt ops)) (by simp [List.getElem?_take, hj, rowsK_get, hy'])
    have hbef : befOf ops i = b := by simp only [befOf, List.getD_eq_getElem?_getD, hb]; rfl
    rcases h2 with h2 | h2
    · rw [apartK_ok h2]; rfl
    · rw [hbef]; simp at h2; rw [h2]; simp

/-! ### Code -/
def drawRegK (E : Env) (call : CallF) (round : RoundF) (ops : Array Oper) : Kont := fun rg n h ds rnd =>
  bif drawOkK ops || drawOk ops then drawK E call round ops (befOf ops) h.next ops.toList.zipIdx rg n { h with next := h.next + ops.size } ds rnd [] [] else none
theorem drawRegK_eq (E : Env) (call : CallF) (round : RoundF) (ops : Array Oper) (st : St) : kont (drawRegK E call round ops) st = drawReg E call round ops st := by
  obtain ⟨rg, n, h, ds, rnd⟩ := st
  have : (drawOkK ops || drawOk ops) = drawOk ops := by
    cases h : drawOkK ops with
    | false => rfl
    | true => rw [drawOkK_ok h]; rfl
  simp only [kont, drawRegK, drawReg, cond_eq_ite, this]
  rw [show drawK E call round ops (befOf ops) h.next ops.toList.zipIdx rg n { h with next := h.next + ops.size } ds rnd [] [] = _ from drawK_eq E call round ops (befOf ops) h.next ops.toList.zipIdx ⟨rg, n, { h with next := h.next + ops.size }, ds, rnd⟩ [] []]
def kSeq (g : Kont) : Option (AExit × St) → Option (AExit × St)
  | some (.nrm, ⟨rg, n, h, ds, rnd⟩) => g rg n h ds rnd
  | r => r
def kCond (f g : Kont) (rg : T AV) (n : Nat) (h : AHeap) (ds : List ADef) (rnd : Bool) : Option AV → Option (AExit × St)
  | some (.bool true) => f rg n h ds rnd
  | some (.bool false) => g rg n h ds rnd
  | _ => none
def kExit (id' : Nat) (st' : St) : Bool → Option (AExit × St)
  | true => some (.nrm, st')
  | false => some (.exit id', st')
def kBlock (id : Nat) : Option (AExit × St) → Option (AExit × St)
  | some (.exit id', st') => kExit id' st' (Nat.beq id' id)
  | r => r
def loopK (f : Kont) (m : Nat) : Kont :=
  Nat.rec (motive := fun _ => Kont) (fun _ _ _ _ _ => none) (fun _ g rg n h ds rnd => kSeq g (f rg n h ds rnd)) m
theorem kSeq_eq (g : Kont) (r : Option (AExit × St)) : kSeq g r = match r with | some (.nrm, st') => kont g st' | r => r := by
  cases r with
  | none => rfl
  | some x => obtain ⟨e, st'⟩ := x; cases e <;> rfl
theorem loopK_eq {f : Kont} {f' : SKont} (hf : kont f = f') : ∀ (m : Nat) (st : St), kont (loopK f m) st = loopA f' m st
  | 0, st => rfl
  | m + 1, st => by
    obtain ⟨rg, n, h, ds, rnd⟩ := st
    show kSeq (loopK f m) (f rg n h ds rnd) = _
    simp only [loopA, kSeq_eq]
    rw [show f rg n h ds rnd = f' ⟨rg, n, h, ds, rnd⟩ from congrFun hf ⟨rg, n, h, ds, rnd⟩]
    cases f' ⟨rg, n, h, ds, rnd⟩ with
    | none => rfl
    | some x => obtain ⟨e, st'⟩ := x; cases e with
      | nrm => exact loopK_eq hf m st'
      | _ => rfl
def rgK (E : Env) (call : CallF) (round : RoundF) (ops : Array Oper) (d : Bool) : Kont :=
  Bool.rec (motive := fun _ => Kont) (opsK E call round ops ops.toList) (drawRegK E call round (permA E ops)) d
def seqK (f g : Kont) : Kont := fun rg n h ds rnd => kSeq g (f rg n h ds rnd)
def cnd3 (a : Option (AExit × St)) (b : Option (AExit × St)) : Option Bool → Option (AExit × St)
  | some x => Bool.rec (motive := fun _ => Option (AExit × St)) b a x
  | none => none
def cnd2 (a : Option (AExit × St)) (b : Option (AExit × St)) : Option AV → Option (AExit × St)
  | some v => cnd3 a b (asBool v)
  | none => none
def cndK (c : Operand) (f g : Kont) : Kont := fun rg n h ds rnd => cnd2 (f rg n h ds rnd) (g rg n h ds rnd) (evK rg c)
def blkK (id : Nat) (f : Kont) : Kont := fun rg n h ds rnd => kBlock id (f rg n h ds rnd)
def skpK : Kont := fun rg n h ds rnd => some (.nrm, ⟨rg, n, h, ds, rnd⟩)
def extK (id : Nat) : Kont := fun rg n h ds rnd => some (.exit id, ⟨rg, n, h, ds, rnd⟩)
def retK : Kont := fun rg n h ds rnd => some (.ret, ⟨rg, n, h, ds, rnd⟩)
def othK (E : Env) (call : CallF) (round : RoundF) (fuel : Nat) (c : Code) : Kont := fun rg n h ds rnd => codeA E call round fuel c ⟨rg, n, h, ds, rnd⟩
def codeK (E : Env) (call : CallF) (round : RoundF) (fuel : Nat) (c : Code) : Kont :=
  Code.rec (motive := fun _ => Kont) skpK (fun _ ops d => rgK E call round ops d) (fun _ _ f g => seqK f g) (fun c _ _ f g => cndK c f g) (fun id _ f => blkK id f) (fun _ f => loopK f fuel)
    (fun f ps a b _ _ => othK E call round fuel (.rangeFunc f ps a b)) (fun id => extK id) (fun _ f => f) (fun _ => skpK) (fun l => othK E call round fuel (.goto l)) retK (fun why => othK E call round fuel (.refuse why)) c
theorem codeK_eq (E : Env) (call : CallF) (round : RoundF) (fuel : Nat) : ∀ (c : Code) (st : St), kont (codeK E call round fuel c) st = codeA E call round fuel c st := by
  intro c
  induction c with
  | region id ops d =>
    intro st
    cases d with
    | false => exact opsK_eq E call round ops _ st
    | true => exact drawRegK_eq E call round _ st
  | seq a b iha ihb =>
    intro st
    have h1 : kont (codeK E call round fuel a) st = _ := iha st
    show kSeq (codeK E call round fuel b) (kont (codeK E call round fuel a) st) = _
    rw [kSeq_eq, h1]
    simp only [codeA]
    cases codeA E call round fuel a st with
    | none => rfl
    | some x => obtain ⟨e, st'⟩ := x; cases e with
      | nrm => exact ihb st'
      | _ => rfl
  | cond c a b iha ihb =>
    intro st
    show cnd2 (kont (codeK E call round fuel a) st) (kont (codeK E call round fuel b) st) (evK st.rg c) = _
    rw [evK_eq, iha st, ihb st]
    simp only [codeA]
    cases evA st.rg c with
    | none => rfl
    | some v => cases v with
      | bool x => cases x <;> rfl
      | _ => rfl
  | block id b ih =>
    intro st
    show kBlock id (kont (codeK E call round fuel b) st) = _
    rw [ih st]
    simp only [codeA]
    cases codeA E call round fuel b st with
    | none => rfl
    | some x => obtain ⟨e, st'⟩ := x; cases e with
      | exit id' =>
        simp only [kBlock]
        by_cases h : id' = id
        · subst h; simp [kExit]
        · have : Nat.beq id' id = false := by rw [Bool.eq_false_iff]; intro hb; exact h (Nat.eq_of_beq_eq_true hb)
          rw [this, if_neg h]; rfl
      | _ => rfl
  | loop b ih =>
    intro st
    exact loopK_eq (funext ih) fuel st
  | scope b ih => intro st; exact ih st
  | _ => intro st; rfl

/-! ### Calls -/
def leaveK (E : Env) (call : CallF) (round : RoundF) (n : Nat) (fn : Func) : Option (AExit × St) → Option (Out × AHeap)
  | some (.nrm, st) => leaveA E (deferA E call round n) fn st.rg st.ds none st.h
  | some (.ret, st) => leaveA E (deferA E call round n) fn st.rg st.ds none st.h
  | some (.pan v, st) => leaveA E (deferA E call round n) fn st.rg st.ds (some v) st.h
  | _ => none
def bodyK2 (E : Env) (call : CallF) (round : RoundF) (n : Nat) (args : List AV) (h : AHeap) (fn : Func) : Option Code → Option (Out × AHeap)
  | none => none
  | some c => bif Nat.ble args.length fn.ntmps then leaveK E call round n fn (codeK E call round n c (argsA args 0 .nil) fn.ntmps h [] false) else none
def bodyK1 (E : Env) (call : CallF) (round : RoundF) (n : Nat) (args : List AV) (h : AHeap) : Option Func → Option (Out × AHeap)
  | none => none
  | some fn => bodyK2 E call round n args h fn fn.body
def bodyK0 (E : Env) (call : CallF) (round : RoundF) (n : Nat) (k : FuncId) (args : List AV) (h : AHeap) : Option (Out × AHeap) → Option (Out × AHeap)
  | some r => some r
  | none => bodyK1 E call round n args h (E.fn k)
def bodyK (E : Env) (m : Mach) (n : Nat) : CallF := fun k args h => bodyK0 E m.call m.round n k args h (E.told k args h)
theorem bodyK_eq (E : Env) (m : Mach) (n : Nat) : bodyK E m n = bodyA E m n := by
  funext k args h
  simp only [bodyK, bodyA]
  cases E.told k args h with
  | some r => rfl
  | none =>
    simp only [bodyK0, bodyOf]
    cases E.fn k with
    | none => rfl
    | some fn =>
      simp only [bodyK1]
      cases fn.body with
      | none => rfl
      | some c =>
        simp only [bodyK2, cond_eq_ite, Nat.ble_eq]
        rw [show codeK E m.call m.round n c (argsA args 0 .nil) fn.ntmps h [] false = _ from codeK_eq E m.call m.round n c { rg := argsA args 0 .nil, n := fn.ntmps, h := h, ds := [], rnd := false }]
        split
        · cases codeA E m.call m.round n c { rg := argsA args 0 .nil, n := fn.ntmps, h := h, ds := [], rnd := false } with
          | none => rfl
          | some x => obtain ⟨e, st⟩ := x; cases e <;> rfl
        · rfl
/-- A round, with the code's second form. -/
def roundK (E : Env) (call : CallF) (round : RoundF) (fuel : Nat) : RoundF := fun l args h =>
  match h.get l with
  | some (.loop .ready _ n rg ps as b) =>
    if ps.size = args.length ∧ ps.all (fun p => p < n) then
      match kont (codeK E call round fuel as) { rg := (ps.toList.zip args).foldl (fun r x => r.set x.2 x.1) rg, n := n, h := h, ds := [], rnd := true } with
      | some (.nrm, st1) => match st1.h.get l with
        | some (.loop .ready pd n' rg' ps' as' b') =>
          match kont (codeK E call round fuel b) { st1 with h := st1.h.set l (.loop .busy pd n' rg' ps' as' b') } with
          | some (e, st2) => match st2.ds, st2.h.get l with
            | [], some (.loop _ _ n'' rg'' ps'' as'' b'') => match e with
              | .nrm => some (.bool true, st2.h.set l (.loop .ready none n'' rg'' ps'' as'' b''))
              | .ret => some (.bool false, st2.h.set l (.loop .done (some .ret) n'' rg'' ps'' as'' b''))
              | .exit id => some (.bool false, st2.h.set l (.loop .done (some (.exit id)) n'' rg'' ps'' as'' b''))
              | .pan _ => none
            | _, _ => none
          | none => none
        | _ => none
      | _ => none
    else none
  | _ => none
theorem roundK_eq (E : Env) (call : CallF) (round : RoundF) (n : Nat) : roundK E call round n = roundA E call round n := by
  funext l args h
  simp only [roundK, roundA, codeK_eq]; rfl
def machK (E : Env) : Nat → Mach
  | 0 => { call := fun _ _ _ => none, round := fun _ _ _ => none }
  | n + 1 => { call := bodyK E (machK E n) n, round := roundK E (machK E n).call (machK E n).round n }
theorem machK_eq (E : Env) : ∀ n, machK E n = mach E n
  | 0 => rfl
  | n + 1 => by simp only [machK, mach, machK_eq E n, bodyK_eq, roundK_eq]
end
end Go.Am

