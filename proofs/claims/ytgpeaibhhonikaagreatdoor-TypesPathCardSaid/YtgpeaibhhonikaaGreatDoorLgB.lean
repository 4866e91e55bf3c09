/-
  The operations of the plain logic: the model's operations with all types looked up ('tr'), and what each gives in a logical state ('lop').
-/
import Derived.Test.YtgpeaibhhonikaaGreatDoorLgA
set_option linter.unusedSimpArgs false
set_option linter.unusedVariables false
namespace Go.Lg
open Go Go.RowKit

def ofVal0 : Value → V
  | .int k n => .int k n
  | .bool b => .bool b
  | .string s => .str s
  | .pointer none => .nilp
  | .nilIface => .nili
  | .nilFunc => .nilf
  | .map none => .nilm
  | .slice _ 0 0 => .e0
  | _ => .junk
def ofVal1 : Value → V
  | .iface t v => .ifc t (ofVal0 v)
  | v => ofVal0 v
def ofVal : Value → V
  | .agg cs => .agg (cs.toList.map ofVal1)
  | v => ofVal1 v

inductive Rd where
  | tmp (t : Nat)
  | con (v : V)

def rdOf : Operand → Rd
  | .tmp t => if t < HB then .tmp t else .con .junk
  | .const v => .con (ofVal v)
  | .func f => .con (.fn f [])
  | .global _ => .con .junk

def Rd.get (tm : Nat → V) : Rd → V
  | .tmp t => tm t
  | .con v => v

/-- What a map's keys are. -/
inductive KT where
  | int (q : IntKind)
  | str
  | bool
  | arr (n : Nat) (q : IntKind)

inductive IOp where
  | mov (x : Rd)
  | mvs (x : Rd)
  | pick (c a b : Rd)
  | new (zs : List V)
  | box (x : Rd)
  | build (zs : List V) (parts : List (Nat × Nat × Rd))
  | bsl (n : Nat) (zs : List V) (parts : List (Nat × Nat × Rd))
  | load (agg : Bool) (n : Nat) (a : Rd)
  | store (n : Nat) (a x : Rd)
  | nilchk (x : Rd)
  | bin (op : BinOp) (x y : Rd)
  | eqb (neg : Bool) (x y : Rd)
  | eqp (neg : Bool) (x y : Rd)
  | eqf (neg : Bool) (x y : Rd)
  | eqi (neg lit : Bool) (x y : Rd)
  | un (op : UnOp) (x : Rd)
  | convI (k : IntKind) (x : Rd)
  | mkifc (t : TypeId) (x : Rd)
  | mkfn (f : FuncId) (cap : List Rd)
  | mksl (esz bytes : Nat) (zs : List V) (len cap : Rd)
  | slS (x : Rd) (lo hi : Option Rd)
  | slV (esz : Nat) (x : Rd) (lo hi : Option Rd)
  | slA (len esz : Nat) (x : Rd) (lo hi : Option Rd)
  | fad (off : Nat) (x : Rd)
  | fld (agg : Bool) (n off : Nat) (x : Rd)
  | iaA (len esz : Nat) (x i : Rd)
  | iaS (esz : Nat) (x i : Rd)
  | ixS (x i : Rd)
  | ixA (agg : Bool) (len n : Nat) (x i : Rd)
  | tas (t : TypeId) (zero : V) (x : Rd)
  | ext (x : Rd) (i : Nat)
  | call (f : FuncId) (args : List Rd)
  | callv (f : Rd) (args : List Rd)
  | len (isStr : Bool) (x : Rd)
  | app (esz bytes : Nat) (x y : Rd)
  | appE (esz bytes : Nat) (x y : Rd)
  | cpy (esz : Nat) (x y : Rd)
  | mn (mx : Bool) (x y : Rd)
  | mx3 (x y z : Rd)
  | mkmap
  | mlk (kt : KT) (ok : Bool) (z : V) (x i : Rd)
  | mset (kt : KT) (x i v : Rd)
  | mlen (x : Rd)
  | s2b (x : Rd)
  | b2s (x : Rd)
  | eqa (n : Nat) (q : IntKind) (neg : Bool) (x y : Rd)
  | bslo (n : Nat) (zs : List V) (parts : List (Nat × Nat × Rd))
  | msb (x : Rd)
  | bad

def isConstO : Operand → Bool
  | .const _ => true
  | _ => false
def isAggT (P : Program) (t : TypeId) : Bool := match P.underlying t with | some (.struct _) | some (.array ..) => true | _ => false
def aggOf (P : Program) (t : TypeId) : Option Bool := match P.underlying t with | some (.struct _) | some (.array ..) => some true | some _ => some false | none => none
def szT (P : Program) (t : TypeId) : Option Nat := (P.info? t).map (·.size)
def bytesT (P : Program) (t : TypeId) : Option Nat := (P.info? t).map (·.bytes)
def zeroT (P : Program) (t : TypeId) : Option V := ((P.info? t).bind (·.zero)).map ofVal
def plainT (P : Program) (t : TypeId) : Bool := match P.underlying t with | some (.int _) | some .bool | some .string => true | _ => false
/-- A struct or array of numbers, bools and texts: compared cell by cell. -/
def flatT (P : Program) : Nat → TypeId → Bool
  | 0, _ => false
  | d + 1, t => plainT P t || match P.underlying t with
    | some (.struct fs) => !P.stoodInHeld t && fs.toList.all (fun f => f.name != "_" && flatT P d f.type) && (fs.toList.foldl (fun (o : Option Nat) f => o.bind fun o => if f.offset = o then (szT P f.type).map (o + ·) else none) (some 0)) == szT P t
    | some (.array n e) => flatT P d e && ((szT P e).map (n * ·)) == szT P t
    | _ => false

/-- The keys of a map: numbers, texts, bools, arrays of numbers. -/
def ktOf (P : Program) (k : TypeId) : Option KT := match P.underlying k with
  | some (.int q) => some (.int q)
  | some .string => some .str
  | some .bool => some .bool
  | some (.array n e) => match P.underlying e with
    | some (.int q) => if szT P e = some 1 then some (.arr n q) else none
    | _ => none
  | _ => none
/-- An array of numbers. -/
def arrIT (P : Program) (t : TypeId) : Option (Nat × IntKind) := match P.underlying t with
  | some (.array n e) => match P.underlying e with
    | some (.int q) => if szT P e = some 1 ∧ P.eqGuardType P.depth t = false then some (n, q) else none
    | _ => none
  | _ => none
def isU8 (P : Program) (e : TypeId) : Bool := match P.underlying e with
  | some (.int .u8) => true
  | _ => false

def trParts (P : Program) (t : TypeId) (parts : Array (Nat × Operand)) : Option (List (Nat × Nat × Rd)) :=
  match P.underlying t with
  | some (.struct fs) => if fs.toList.all (fun f => (szT P f.type).isSome) then parts.toList.mapM fun (i, x) => do
      let f ← fs[i]?
      let s ← szT P f.type
      pure (f.offset, s, rdOf x) else none
  | some (.array _ e) => do
      let s ← szT P e
      parts.toList.mapM fun (i, x) => pure (i * s, s, rdOf x)
  | _ => none

def orBad (o : Option IOp) : IOp := o.getD .bad

/-- A function that a call enters. -/
def entersOk (P : Program) (f : FuncId) : Bool := match P.funcs[f]? with
  | some fn => !(fn.body.isNone || fn.name == "runtime.NumGoroutine")
  | none => false

def trCall (P : Program) (c : Call) : IOp :=
  match c.callee with
  | .value (.func f) => .call f (c.args.toList.map rdOf)
  | .value (.tmp t) => .callv (rdOf (.tmp t)) (c.args.toList.map rdOf)
  | .builtin .len => match c.args.toList, (c.argTypes[0]?).bind P.underlying with
    | [x], some .string => .len true (rdOf x)
    | [x], some (.slice _) => .len false (rdOf x)
    | [_], some (.array n _) => .mov (.con (.int .i64 n))
    | [x], some (.map _ _) => .mlen (rdOf x)
    | _, _ => .bad
  | .builtin .append => match c.args.toList, (c.argTypes[0]?).bind P.underlying, (c.argTypes[1]?).bind P.underlying with
    | [x, y], some (.slice e), some (.slice _) | [x, y], some (.slice e), some .string => orBad do
      let s ← szT P e
      let b ← bytesT P e
      let z ← zeroT P e
      if s = 0 || z.cells.length != s then none else pure (.app s b (rdOf x) (rdOf y))
    | _, _, _ => .bad
  | .builtin .min => match c.args.toList with | [x, y] => .mn false (rdOf x) (rdOf y) | _ => .bad
  | .builtin .max => match c.args.toList with | [x, y] => .mn true (rdOf x) (rdOf y) | [x, y, z] => .mx3 (rdOf x) (rdOf y) (rdOf z) | _ => .bad
  | _ => .bad

/-- A model's operation with its types looked up. -/
def tr (P : Program) (o : Oper) : IOp :=
  match o.op with
  | .move x | .assign x => .mov (rdOf x)
  | .pick c a b => .pick (rdOf c) (rdOf a) (rdOf b)
  | .alloc t => orBad ((zeroT P t).map fun z => .new z.cells)
  | .box _ x => .box (rdOf x)
  | .build t parts => orBad do
      let z ← zeroT P t
      let ps ← trParts P t parts
      pure (.build z.cells ps)
  | .buildSlice t n parts => match P.underlying t with
    | some (.slice e) => orBad do
      let s ← szT P e
      let z ← zeroT P e
      if n * s > 2 ^ 24 || z.cells.length != s || s == 0 || (n == 0 && !parts.isEmpty) then none else
      pure (.bsl n ((List.replicate n z.cells).flatten) (parts.toList.map fun (i, x) => (i * s, s, rdOf x)))
    | _ => .bad
  | .load t a => orBad do
      let s ← szT P t
      let g ← aggOf P t
      pure (.load g s (rdOf a))
  | .store t a x => orBad ((szT P t).map fun s => .store s (rdOf a) (rdOf x))
  | .nilCheck x => .nilchk (rdOf x)
  | .binOp .eql t x y _ => match P.underlying t with
    | some (.int _) | some .string => .bin .eql (rdOf x) (rdOf y)
    | some .bool => .eqb false (rdOf x) (rdOf y)
    | some (.pointer _) => .eqp false (rdOf x) (rdOf y)
    | some (.interface _) => .eqi false (isConstO x || isConstO y) (rdOf x) (rdOf y)
    | some (.array _ _) => orBad ((arrIT P t).map fun nq => .eqa nq.1 nq.2 false (rdOf x) (rdOf y))
    | _ => .bad
  | .binOp .neq t x y _ => match P.underlying t with
    | some (.int _) | some .string => .bin .neq (rdOf x) (rdOf y)
    | some .bool => .eqb true (rdOf x) (rdOf y)
    | some (.pointer _) => .eqp true (rdOf x) (rdOf y)
    | some (.interface _) => .eqi true (isConstO x || isConstO y) (rdOf x) (rdOf y)
    | some (.array _ _) => orBad ((arrIT P t).map fun nq => .eqa nq.1 nq.2 true (rdOf x) (rdOf y))
    | _ => .bad
  | .binOp op _ x y _ => .bin op (rdOf x) (rdOf y)
  | .unOp op _ x => .un op (rdOf x)
  | .convert s d x => match P.underlying s, P.underlying d with
    | some (.int _), some (.int k) => .convI k (rdOf x)
    | some .string, some .string => .mvs (rdOf x)
    | some .string, some (.slice e) => if isU8 P e && szT P e == some 1 then .s2b (rdOf x) else .bad
    | some (.slice e), some .string => if isU8 P e then .b2s (rdOf x) else .bad
    | some (.slice _), some (.slice e) => if isU8 P e && s == d then .msb (rdOf x) else .bad
    | _, _ => .bad
  | .makeInterface t x => match P.underlying t with
    | some (.interface _) | none => .bad
    | _ => .mkifc t (rdOf x)
  | .makeFunc (.func f) first cap => if first.isEmpty then .mkfn f (cap.toList.map rdOf) else .bad
  | .makeSlice t l c => match P.underlying t with
    | some (.slice e) => orBad do
      let s ← szT P e
      let b ← bytesT P e
      let z ← zeroT P e
      if z.cells.length != s || s == 0 then none else pure (.mksl s b z.cells (rdOf l) (rdOf c))
    | _ => .bad
  | .slice t x lo hi none => match P.underlying t with
    | some .string => .slS (rdOf x) (lo.map rdOf) (hi.map rdOf)
    | some (.slice e) => orBad do
      let s ← szT P e
      if s = 0 then none else pure (.slV s (rdOf x) (lo.map rdOf) (hi.map rdOf))
    | some (.array n e) => orBad do
      let s ← szT P e
      if s = 0 then none else pure (.slA n s (rdOf x) (lo.map rdOf) (hi.map rdOf))
    | _ => .bad
  | .fieldAddr t x f => match P.underlying t with
    | some (.struct fs) => orBad do
      let f ← fs[f]?
      let s ← szT P f.type
      if s = 0 then none else pure (.fad f.offset (rdOf x))
    | _ => .bad
  | .field t x f => match P.underlying t with
    | some (.struct fs) => orBad do
      let f ← fs[f]?
      let s ← szT P f.type
      let g ← aggOf P f.type
      pure (.fld g s f.offset (rdOf x))
    | _ => .bad
  | .indexAddr t x i => match P.underlying t with
    | some (.array n e) => orBad ((szT P e).map fun s => .iaA n s (rdOf x) (rdOf i))
    | some (.slice e) => orBad ((szT P e).map fun s => .iaS s (rdOf x) (rdOf i))
    | _ => .bad
  | .index t x i => match P.underlying t with
    | some .string => .ixS (rdOf x) (rdOf i)
    | some (.array n e) => orBad do
      let s ← szT P e
      let g ← aggOf P e
      pure (.ixA g n s (rdOf x) (rdOf i))
    | _ => .bad
  | .typeAssert x _ t true => match P.underlying t with
    | some (.interface _) | none => .bad
    | _ => orBad ((zeroT P t).map fun z => .tas t z (rdOf x))
  | .extract x i => .ext (rdOf x) i
  | .makeMap _ none => .mkmap
  | .lookup t x i ok => match P.underlying t with
    | some (.map k e) => orBad do
      let kt ← ktOf P k
      let z ← zeroT P e
      pure (.mlk kt ok z (rdOf x) (rdOf i))
    | _ => .bad
  | .mapUpdate t x i v => match P.underlying t with
    | some (.map k _) => orBad ((ktOf P k).map fun kt => .mset kt (rdOf x) (rdOf i) (rdOf v))
    | _ => .bad
  | .insert t x i v => match P.underlying t with
    | some (.map k _) => orBad ((ktOf P k).map fun kt => .mset kt (rdOf x) (rdOf i) (rdOf v))
    | _ => .bad
  | .call c => trCall P c
  | _ => .bad

inductive LRes where
  | A (pre : Prop) (v : V)
  | C (pre : Prop) (o : LObj) (mk : Key → V)
  | D (pre : Prop) (v : V) (H : Heap)
  | call (pre : Prop) (f : FuncId) (args sargs : List V)
  | bad

/-- No object of the running call within it. -/
def imV : Nat → V → Bool
  | _, .int .. | _, .bool _ | _, .str _ | _, .sl .. | _, .ip .. | _, .nilp | _, .nili | _, .nilf | _, .nilm | _, .im .. | _, .junk | _, .e0 => true
  | d + 1, .agg cs => cs.all (imV d)
  | d + 1, .tup cs => cs.all (imV d)
  | d + 1, .fn _ cs => cs.all (imV d)
  | d + 1, .ifc _ v => imV d v
  | _, _ => false

def LRes.ofOpt : Option V → LRes
  | some v => .A True v
  | none => .bad

def InI64 (n : Int) : Prop := -9223372036854775808 ≤ n ∧ n ≤ 9223372036854775807

def ldV (agg : Bool) (n : Nat) (cs : List V) (off : Nat) : Option V :=
  if agg then (if off + n ≤ cs.length then some (.agg ((cs.drop off).take n)) else none) else cs[off]?

def setCells (cs : List V) (off : Nat) (xs : List V) : List V := cs.take off ++ (xs ++ cs.drop (off + xs.length))

def V.known : V → Bool
  | .junk => false
  | _ => true

def fillL (tm : Nat → V) (cs : List V) : List (Nat × Nat × Rd) → List V
  | [] => cs
  | (off, _, x) :: r => fillL tm (setCells cs off (x.get tm).cells) r

def partsOk (tm : Nat → V) (n : Nat) : List (Nat × Nat × Rd) → Prop
  | [] => True
  | (off, s, x) :: r => ((x.get tm).known = true ∧ (x.get tm).cells.length = s ∧ off + s ≤ n) ∧ partsOk tm n r

def eqCells : List V → List V → Option Bool
  | [], [] => some true
  | .int k a :: xs, .int k' b :: ys => if k = k' then (eqCells xs ys).map ((a == b) && ·) else none
  | .bool a :: xs, .bool b :: ys => (eqCells xs ys).map ((a == b) && ·)
  | .str a :: xs, .str b :: ys => (eqCells xs ys).map ((a == b) && ·)
  | _, _ => none

def lbin (op : BinOp) : V → V → LRes
  | .int k a, .int k' b =>
    match op with
    | .shl => .A (0 ≤ b) (.int k (k.wrap (a * 2 ^ (min b.toNat k.bits))))
    | .shr => .A (0 ≤ b) (.int k (a.fdiv (2 ^ (min b.toNat k.bits))))
    | .add => if k = .i64 then .A (k' = .i64 ∧ InI64 (a + b)) (.int .i64 (a + b)) else .A (k' = k) (.int k (k.wrap (a + b)))
    | .sub => if k = .i64 then .A (k' = .i64 ∧ InI64 (a - b)) (.int .i64 (a - b)) else .A (k' = k) (.int k (k.wrap (a - b)))
    | .mul => if k = .i64 then .A (k' = .i64 ∧ InI64 (a * b)) (.int .i64 (a * b)) else .A (k' = k) (.int k (k.wrap (a * b)))
    | .quo => if k = .i64 then .A (k' = .i64 ∧ b ≠ 0 ∧ InI64 (a.tdiv b)) (.int .i64 (a.tdiv b)) else .A (k' = k ∧ b ≠ 0) (.int k (k.wrap (a.tdiv b)))
    | .rem => .A (k' = k ∧ b ≠ 0) (.int k (a.tmod b))
    | .and => .A (k' = k) (.int k (k.wrap (BitVec.ofInt k.bits a &&& BitVec.ofInt k.bits b).toNat))
    | .or => .A (k' = k) (.int k (k.wrap (BitVec.ofInt k.bits a ||| BitVec.ofInt k.bits b).toNat))
    | .xor => .A (k' = k) (.int k (k.wrap (BitVec.ofInt k.bits a ^^^ BitVec.ofInt k.bits b).toNat))
    | .andNot => .A (k' = k) (.int k (k.wrap (BitVec.ofInt k.bits a &&& ~~~ (BitVec.ofInt k.bits b)).toNat))
    | .eql => .A (k' = k) (.bool (a == b))
    | .neq => .A (k' = k) (.bool (a != b))
    | .lss => .A (k' = k) (.bool (a < b))
    | .leq => .A (k' = k) (.bool (a ≤ b))
    | .gtr => .A (k' = k) (.bool (a > b))
    | .geq => .A (k' = k) (.bool (a ≥ b))
  | .str a, .str b =>
    match op with
    | .add => .A (((a.size + b.size : Nat) : Int) ≤ 9223372036854775807) (.str (a ++ b))
    | .eql => .A True (.bool (a.toList == b.toList))
    | .neq => .A True (.bool (!(a.toList == b.toList)))
    | .lss => .A True (.bool (Op.bytesLess a.toList b.toList))
    | .leq => .A True (.bool (Op.bytesLess a.toList b.toList || a.toList == b.toList))
    | .gtr => .A True (.bool (!(Op.bytesLess a.toList b.toList || a.toList == b.toList)))
    | .geq => .A True (.bool (!Op.bytesLess a.toList b.toList))
    | _ => .bad
  | _, _ => .bad

def isPtr : V → Bool
  | .ip .. | .mp .. => true
  | _ => false

def leqp (neg : Bool) (x y : V) : LRes :=
  match x, y with
  | .nilp, .nilp => .A True (.bool (!neg))
  | .nilp, y => .A (isPtr y = true) (.bool neg)
  | x, .nilp => .A (isPtr x = true) (.bool neg)
  | _, _ => .bad

def leqi (neg lit : Bool) (x y : V) : LRes :=
  match x, y with
  | .nili, .nili => .A (lit = true) (.bool (!neg))
  | .nili, .ifc _ _ | .ifc _ _, .nili => .A True (.bool neg)
  | _, _ => .bad

def lun (op : UnOp) (x : V) : LRes :=
  match op, x with
  | .neg, .int k n => if k = .i64 then .A (InI64 (0 - n)) (.int .i64 (0 - n)) else .A True (.int k (k.wrap (0 - n)))
  | .xor, .int k n => .A True (.int k (k.wrap (BitVec.ofInt k.bits (if k.signed then -1 else k.max) ^^^ BitVec.ofInt k.bits n).toNat))
  | .not, .bool b => .A True (.bool !b)
  | _, _ => .bad

def loOf (tm : Nat → V) : Option Rd → Option Int
  | none => some 0
  | some x => match x.get tm with | .int _ n => some n | _ => none
def hiOf (tm : Nat → V) (n : Nat) : Option Rd → Option Int
  | none => some n
  | some x => match x.get tm with | .int _ n => some n | _ => none

def lslV (esz : Nat) (x : V) (lo hi : Int) : LRes :=
  match x with
  | .sl n cs => .A (0 ≤ lo ∧ lo ≤ hi ∧ hi ≤ n ∧ hi.toNat * esz ≤ cs.length) (.sl (hi.toNat - lo.toNat) ((cs.take (hi.toNat * esz)).drop (lo.toNat * esz)))
  | .e0 => .A (lo = 0 ∧ hi = 0) .e0
  | .msl key g off n => .A (0 ≤ lo ∧ lo ≤ hi ∧ hi ≤ n) (.msl key g (off + lo.toNat * esz) (hi.toNat - lo.toNat))
  | _ => .bad

def lslA (len esz : Nat) (x : V) (lo hi : Int) : LRes :=
  match x with
  | .ip cs off => .A (0 ≤ lo ∧ lo ≤ hi ∧ hi ≤ len ∧ off + len * esz ≤ cs.length) (.sl (hi.toNat - lo.toNat) ((cs.take (off + hi.toNat * esz)).drop (off + lo.toNat * esz)))
  | .mp key g off => .A (0 ≤ lo ∧ lo ≤ hi ∧ hi ≤ len) (.msv key g (off + lo.toNat * esz) (hi.toNat - lo.toNat) esz)
  | _ => .bad

def lenV : V → Option Nat
  | .sl n _ => some n
  | .msl _ _ _ n => some n
  | .msv _ _ _ n _ => some n
  | .e0 => some 0
  | .str s => some s.size
  | _ => none

/-- The cells of a slice value (of a text: its bytes), and how many elements. -/
def srcOf (H : Heap) (esz : Nat) : V → Option (Nat × List V)
  | .sl n cs => if cs.length = n * esz then some (n, cs) else none
  | .e0 => some (0, [])
  | .str s => if esz = 1 then some (s.size, s.data.toList.map fun b => .int .u8 b.toNat) else none
  | .msl key g off n => match H key with
    | some (.row g' esz' cs) => if g' = g ∧ esz' = esz ∧ off + n * esz ≤ cs.length then some (n, (cs.drop off).take (n * esz)) else none
    | _ => none
  | _ => none

def lapp (H : Heap) (esz bytes : Nat) (x : V) (src : Nat × List V) : LRes :=
  match x with
  | .e0 => .C (src.1 * bytes ≤ 140737488355328 ∧ src.1 ≤ 4611686018427387904 ∧ src.2.all V.one = true) (.row 0 esz src.2) fun k => .msl k 0 0 src.1
  | .msl key g off n => match H key with
    | some (.row g' esz' cs) => .D ((g' = g ∧ esz' = esz ∧ off = 0 ∧ cs.length = n * esz) ∧ (n + src.1) * bytes ≤ 140737488355328 ∧ n + src.1 ≤ 4611686018427387904 ∧ src.2.all V.one = true)
        (.msl key (g + 1) 0 (n + src.1)) (hupd H key (.row (g + 1) esz (cs ++ src.2)))
    | _ => .bad
  | _ => .bad

/-- A value with all objects of the running call turned into memory that never turns. -/
def snap (H : Heap) : Nat → V → V
  | 0, _ => .junk
  | d + 1, .msl key g off n => match H key with
    | some (.row g' esz cs) => if g' = g ∧ off + n * esz ≤ cs.length then .sl n (((cs.drop off).take (n * esz)).map (snap H d)) else .junk
    | _ => .junk
  | d + 1, .msv key g off n esz => match H key with
    | some (.row g' _ cs) => if g' = g ∧ off + n * esz ≤ cs.length then .sl n (((cs.drop off).take (n * esz)).map (snap H d)) else .junk
    | _ => .junk
  | d + 1, .mp key g off => match H key with
    | some (.row g' _ cs) => if g' = g then .ip (cs.map (snap H d)) off else .junk
    | _ => .junk
  | d + 1, .agg cs => .agg (cs.map (snap H d))
  | d + 1, .tup cs => .tup (cs.map (snap H d))
  | d + 1, .ifc t v => .ifc t (snap H d v)
  | d + 1, .fn f cs => .fn f (cs.map (snap H d))
  | d + 1, .mm key => match H key with
    | some (.map es) => .im (es.map fun e => (snap H d e.1, snap H d e.2))
    | _ => .junk
  | _ + 1, v => v

/-- All objects within a value are there. -/
def sok (H : Heap) : Nat → V → Bool
  | 0, _ => false
  | d + 1, .msl key g off n => match H key with
    | some (.row g' esz cs) => g' == g && decide (off + n * esz ≤ cs.length) && ((cs.drop off).take (n * esz)).all (sok H d)
    | _ => false
  | d + 1, .msv key g off n esz => match H key with
    | some (.row g' _ cs) => g' == g && decide (off + n * esz ≤ cs.length) && ((cs.drop off).take (n * esz)).all (sok H d)
    | _ => false
  | d + 1, .mp key g _ => match H key with
    | some (.row g' _ cs) => g' == g && cs.all (sok H d)
    | _ => false
  | d + 1, .agg cs => cs.all (sok H d)
  | d + 1, .tup cs => cs.all (sok H d)
  | d + 1, .ifc _ v => sok H d v
  | d + 1, .fn _ cs => cs.all (sok H d)
  | d + 1, .mm key => match H key with
    | some (.map es) => es.all fun e => sok H d e.1 && sok H d e.2
    | _ => false
  | _ + 1, _ => true

/-- All memory that a value leads to is of objects of the running call. -/
def frs (H : Heap) : Nat → V → Bool
  | _, .int .. | _, .bool _ | _, .str _ | _, .nilp | _, .nili | _, .nilf | _, .nilm | _, .junk | _, .e0 => true
  | d + 1, .msl key g off n => match H key with
    | some (.row g' esz cs) => g' == g && decide (off + n * esz ≤ cs.length) && cs.all (frs H d)
    | _ => false
  | d + 1, .mp key g _ => match H key with
    | some (.row g' _ cs) => g' == g && cs.all (frs H d)
    | _ => false
  | d + 1, .agg cs => cs.all (frs H d)
  | d + 1, .tup cs => cs.all (frs H d)
  | d + 1, .ifc _ v => frs H d v
  | _, _ => false

def flat : Nat → V → Bool
  | _, .int .. | _, .bool _ | _, .str _ | _, .nilp | _, .nili | _, .nilf | _, .nilm | _, .junk | _, .e0 => true
  | d + 1, .agg cs => cs.all (flat d)
  | d + 1, .tup cs => cs.all (flat d)
  | d + 1, .fn _ cs => cs.all (flat d)
  | d + 1, .ifc _ v => flat d v
  | _, _ => false

def lmvs : V → LRes
  | .str s => .A True (.str s)
  | _ => .bad
def lpick (c a b : V) : LRes := match c with | .bool t => .A True (if t then a else b) | _ => .bad
def lload (agg : Bool) (n : Nat) (H : Heap) : V → LRes
  | .ip cs off => .ofOpt (ldV agg n cs off)
  | .mp key g off => match H key with
    | some (.row g' _ cs) => if g' = g then .ofOpt (ldV agg n cs off) else .bad
    | _ => .bad
  | _ => .bad
def lstore (n : Nat) (H : Heap) (x y : V) : LRes := match x with
  | .mp key g off => match H key with
    | some (.row g' esz cs) => if g' = g then .D (y.cells.length = n ∧ off + n ≤ cs.length ∧ y.cells.all V.one = true) .junk (hupd H key (.row g esz (setCells cs off y.cells))) else .bad
    | _ => .bad
  | _ => .bad
def lnil : V → LRes
  | .ip cs off => .A True (.ip cs off)
  | .mp k g off => .A True (.mp k g off)
  | _ => .bad
def leqb (neg : Bool) (x y : V) : LRes := match x, y with
  | .bool a, .bool b => .A True (.bool (if neg then a != b else a == b))
  | _, _ => .bad
/-! Maps. -/
def intsK (q : IntKind) : List V → Bool
  | [] => true
  | .int q' _ :: r => decide (q' = q) && intsK q r
  | _ => false
def keyV : KT → V → Bool
  | .int q, .int q' _ => decide (q' = q)
  | .str, .str _ => true
  | .bool, .bool _ => true
  | .arr n q, .agg cs => decide (cs.length = n) && intsK q cs
  | _, _ => false
def eqInts : List V → List V → Bool
  | [], [] => true
  | .int _ a :: xs, .int _ b :: ys => (a == b) && eqInts xs ys
  | _, _ => false
def eqK : V → V → Bool
  | .int _ a, .int _ b => a == b
  | .str a, .str b => a == b
  | .bool a, .bool b => a == b
  | .agg xs, .agg ys => eqInts xs ys
  | _, _ => false
def findK (k : V) : List (V × V) → Option (Nat × V)
  | [] => none
  | e :: r => if eqK k e.1 then some (0, e.2) else (findK k r).map fun p => (p.1 + 1, p.2)
def setK (es : List (V × V)) (k v : V) : List (V × V) := match findK k es with
  | some p => es.set p.1 (k, v)
  | none => es ++ [(k, v)]
/-- What a lookup tells. -/
def lkV (ok : Bool) (z : V) : Option (Nat × V) → V
  | some p => if ok then .tup [p.2, .bool true] else p.2
  | none => if ok then .tup [z, .bool false] else z
def lmlk (H : Heap) (kt : KT) (ok : Bool) (z x i : V) : LRes := match x with
  | .mm key => match H key with
    | some (.map es) => .A (keyV kt i = true ∧ es.all (fun e => keyV kt e.1) = true) (lkV ok z (findK i es))
    | _ => .bad
  | .im es => .A (keyV kt i = true ∧ es.all (fun e => keyV kt e.1) = true) (lkV ok z (findK i es))
  | _ => .bad
def lmset (H : Heap) (kt : KT) (x i v : V) : LRes := match x with
  | .mm key => match H key with
    | some (.map es) => .D (keyV kt i = true ∧ es.all (fun e => keyV kt e.1) = true) .junk (hupd H key (.map (setK es i v)))
    | _ => .bad
  | _ => .bad
def lmlen (H : Heap) (x : V) : LRes := match x with
  | .mm key => match H key with
    | some (.map es) => .A True (.int .i64 es.length)
    | _ => .bad
  | .im es => .A True (.int .i64 es.length)
  | .nilm => .A True (.int .i64 0)
  | _ => .bad
def leqa (n : Nat) (q : IntKind) (neg : Bool) (x y : V) : LRes := match x, y with
  | .agg xs, .agg ys => .A (keyV (.arr n q) (.agg xs) = true ∧ keyV (.arr n q) (.agg ys) = true) (.bool (if neg then !eqInts xs ys else eqInts xs ys))
  | _, _ => .bad
/-! Bytes and texts. -/
def ls2b (x : V) : LRes := match x with
  | .str s => .C True (.row 0 1 (s.data.toList.map fun b => .int .u8 b.toNat)) fun k => .msl k 0 0 s.size
  | _ => .bad
def strStep (r : ByteArray) : V → ByteArray
  | .int _ n => r.push (UInt8.ofNat n.toNat)
  | _ => r
def strOf (ys : List V) : ByteArray := ys.foldl strStep ByteArray.empty
/-- A row of bytes that a constant text became: the model marks it. -/
def lmsb (H : Heap) (x : V) : LRes := match x with
  | .msl key g off n => match H key with
    | some (.row g' _ _) => .A (g' = g ∧ 0 < n) (.msl key g off n)
    | _ => .bad
  | _ => .bad
def isSlV : V → Bool
  | .sl .. | .e0 | .msl .. => true
  | _ => false
def lb2s (H : Heap) (x : V) : LRes := match srcOf H 1 x with
  | some src => .A (isSlV x = true ∧ intsK .u8 src.2 = true) (.str (strOf src.2))
  | none => .bad
def leqf (neg : Bool) (x y : V) : LRes := match x, y with
  | .agg xs, .agg ys => match eqCells xs ys with | some b => .A True (.bool (if neg then !b else b)) | none => .bad
  | _, _ => .bad
def lconvI (k : IntKind) : V → LRes
  | .int _ n => .A True (.int k (k.wrap n))
  | _ => .bad
def lmksl (esz bytes : Nat) (zs : List V) (l c : V) : LRes := match l, c with
  | .int _ n, .int _ m => .C (0 ≤ n ∧ n ≤ m ∧ m * bytes ≤ 140737488355328 ∧ m ≤ 4611686018427387904) (.row 0 esz (List.replicate n.toNat zs).flatten) fun k => .msl k 0 0 n.toNat
  | _, _ => .bad
def lslS (s : ByteArray) (l h : Int) : LRes := .A (0 ≤ l ∧ l ≤ h ∧ h ≤ s.size) (.str (s.extract l.toNat h.toNat))
def lfad (off : Nat) : V → LRes
  | .ip cs o => .A True (.ip cs (o + off))
  | .mp k g o => .A True (.mp k g (o + off))
  | _ => .bad
def lfld (agg : Bool) (n off : Nat) : V → LRes
  | .agg cs => .ofOpt (ldV agg n cs off)
  | _ => .bad
def liaA (len esz : Nat) (x i : V) : LRes := match i with
  | .int _ n => match x with
    | .ip cs o => .A (0 ≤ n ∧ n < len) (.ip cs (o + n.toNat * esz))
    | .mp k g o => .A (0 ≤ n ∧ n < len) (.mp k g (o + n.toNat * esz))
    | _ => .bad
  | _ => .bad
def liaS (esz : Nat) (x i : V) : LRes := match i with
  | .int _ n => match x with
    | .sl m cs => .A (0 ≤ n ∧ n < m) (.ip cs (n.toNat * esz))
    | .msl k g o m => .A (0 ≤ n ∧ n < m) (.mp k g (o + n.toNat * esz))
    | .msv k g o m _ => .A (0 ≤ n ∧ n < m) (.mp k g (o + n.toNat * esz))
    | _ => .bad
  | _ => .bad
def lixS (x i : V) : LRes := match x with
  | .str s => match i with
    | .int _ n => match s.data[n.toNat]? with | some b => .A (0 ≤ n) (.int .u8 b.toNat) | none => .bad
    | _ => .bad
  | _ => .bad
def lixA (agg : Bool) (len n : Nat) (x i : V) : LRes := match x with
  | .agg cs => match i with
    | .int _ j => match ldV agg n cs (j.toNat * n) with | some v => .A (0 ≤ j ∧ j < len) v | none => .bad
    | _ => .bad
  | _ => .bad
def ltas (t : TypeId) (z x : V) : LRes := match x with
  | .ifc t' v => .A True (if t' = t then .tup [v, .bool true] else .tup [z, .bool false])
  | .nili => .A True (.tup [z, .bool false])
  | _ => .bad
def lext (i : Nat) : V → LRes
  | .tup vs => .ofOpt vs[i]?
  | _ => .bad
def llen (isStr : Bool) : V → LRes
  | .str s => if isStr then .A True (.int .i64 s.size) else .bad
  | .sl n _ => if isStr then .bad else .A True (.int .i64 n)
  | .msl _ _ _ n => if isStr then .bad else .A True (.int .i64 n)
  | .msv _ _ _ n _ => if isStr then .bad else .A True (.int .i64 n)
  | .e0 => if isStr then .bad else .A True (.int .i64 0)
  | _ => .bad
def lmn (mx : Bool) (x y : V) : LRes := match x, y with
  | .int k a, .int k' b => .A (k' = k) (.int k (if mx then (if a < b then b else a) else (if b < a then b else a)))
  | _, _ => .bad
def lmx3 (x y z : V) : LRes := match x, y, z with
  | .int k a, .int k' b, .int k'' c => .A (k' = k ∧ k'' = k) (.int k (if (if a < b then b else a) < c then c else (if a < b then b else a)))
  | _, _, _ => .bad
def lcallv (H : Heap) (f : V) (args : List V) : LRes := match f with
  | .fn f cap => .call ((args ++ cap).all (sok H 8) = true) f (args ++ cap) ((args ++ cap).map (snap H 8))
  | _ => .bad
def lsl (f : Int → Int → LRes) (l h : Option Int) : LRes := match l, h with
  | some l, some h => f l h
  | _, _ => .bad
def lslSx (lo : Option Int) (hi : Nat → Option Int) (x : V) : LRes := match x with
  | .str s => lsl (lslS s) lo (hi s.size)
  | _ => .bad
def lslVx (esz : Nat) (lo : Option Int) (hi : Nat → Option Int) (x : V) : LRes := match lenV x with
  | some n => lsl (lslV esz x) lo (hi n)
  | none => .bad
def lappx (H : Heap) (esz bytes : Nat) (x y : V) : LRes := match srcOf H esz y with
  | some src => lapp H esz bytes x src
  | none => .bad

/-- 'append' to a nil slice, or one of no capacity: it makes an object. -/
def lappE (H : Heap) (esz bytes : Nat) (x y : V) : LRes := match x with
  | .e0 => lappx H esz bytes .e0 y
  | _ => .bad

def lop (op : IOp) (tm : Nat → V) (H : Heap) : LRes :=
  match op with
  | .mov x => .A True (x.get tm)
  | .mvs x => lmvs (x.get tm)
  | .pick c a b => lpick (c.get tm) (a.get tm) (b.get tm)
  | .new zs => .C True (.row 0 0 zs) fun k => .mp k 0 0
  | .box x => .C ((x.get tm).known = true) (.row 0 0 (x.get tm).cells) fun k => .mp k 0 0
  | .build zs ps => .A (partsOk tm zs.length ps) (.agg (fillL tm zs ps))
  | .bsl n zs ps => if n = 0 then .A True .e0 else .A (partsOk tm zs.length ps ∧ (fillL tm zs ps).all (imV 3) = true) (.sl n (fillL tm zs ps))
  | .load agg n a => lload agg n H (a.get tm)
  | .store n a x => lstore n H (a.get tm) (x.get tm)
  | .nilchk x => lnil (x.get tm)
  | .bin op x y => lbin op (x.get tm) (y.get tm)
  | .eqb neg x y => leqb neg (x.get tm) (y.get tm)
  | .eqp neg x y => leqp neg (x.get tm) (y.get tm)
  | .eqf neg x y => leqf neg (x.get tm) (y.get tm)
  | .eqi neg lit x y => leqi neg lit (x.get tm) (y.get tm)
  | .un op x => lun op (x.get tm)
  | .convI k x => lconvI k (x.get tm)
  | .mkifc t x => .A ((x.get tm).known = true) (.ifc t (x.get tm))
  | .mkfn f cap => .A True (.fn f (cap.map (Rd.get tm)))
  | .mksl esz bytes zs l c => lmksl esz bytes zs (l.get tm) (c.get tm)
  | .slS x lo hi => lslSx (loOf tm lo) (fun n => hiOf tm n hi) (x.get tm)
  | .slV esz x lo hi => lslVx esz (loOf tm lo) (fun n => hiOf tm n hi) (x.get tm)
  | .slA len esz x lo hi => lsl (lslA len esz (x.get tm)) (loOf tm lo) (hiOf tm len hi)
  | .fad off x => lfad off (x.get tm)
  | .fld agg n off x => lfld agg n off (x.get tm)
  | .iaA len esz x i => liaA len esz (x.get tm) (i.get tm)
  | .iaS esz x i => liaS esz (x.get tm) (i.get tm)
  | .ixS x i => lixS (x.get tm) (i.get tm)
  | .ixA agg len n x i => lixA agg len n (x.get tm) (i.get tm)
  | .tas t z x => ltas t z (x.get tm)
  | .ext x i => lext i (x.get tm)
  | .call f args => .call ((args.map (Rd.get tm)).all (sok H 8) = true) f (args.map (Rd.get tm)) ((args.map (Rd.get tm)).map (snap H 8))
  | .callv x args => lcallv H (x.get tm) (args.map (Rd.get tm))
  | .len b x => llen b (x.get tm)
  | .app esz bytes x y => lappx H esz bytes (x.get tm) (y.get tm)
  | .appE esz bytes x y => lappE H esz bytes (x.get tm) (y.get tm)
  | .cpy .. => .bad
  | .mkmap => .C True (.map []) .mm
  | .mlk kt ok z x i => lmlk H kt ok z (x.get tm) (i.get tm)
  | .mset kt x i v => lmset H kt (x.get tm) (i.get tm) (v.get tm)
  | .mlen x => lmlen H (x.get tm)
  | .s2b x => ls2b (x.get tm)
  | .b2s x => lb2s H (x.get tm)
  | .eqa n q neg x y => leqa n q neg (x.get tm) (y.get tm)
  | .bslo n zs ps => if n = 0 then .bad else .C (partsOk tm zs.length ps) (.row 0 (zs.length / n) (fillL tm zs ps)) fun k => .msl k 0 0 n
  | .msb x => lmsb H (x.get tm)
  | .mn mx x y => lmn mx (x.get tm) (y.get tm)
  | .mx3 x y z => lmx3 (x.get tm) (y.get tm) (z.get tm)
  | .bad => .bad

end Go.Lg
