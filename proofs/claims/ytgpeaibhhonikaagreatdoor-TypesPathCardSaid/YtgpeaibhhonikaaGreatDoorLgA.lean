/-
  The logical values, heaps and states of the plain logic 'Lg', and how they stand for the model's own values and worlds. General: no program is named.
-/
import Derived.WalkKit
import Derived.Below
import Derived.KernelRfl
set_option linter.unusedSimpArgs false
set_option linter.unusedVariables false
namespace Go.Lg
open Go Go.RowKit

/-- A key of a logical object: the place that makes it, and which one of that place's. -/
abbrev Key := Nat × Nat

/-- Logical values. 'sl', 'ip': memory that never turns again, told by its cells. 'msl', 'mp', 'mm': an object of the running call. 'im': a map that never turns again. 'e0': a slice of capacity 0. 'junk': nothing is known. -/
inductive V where
  | int (k : IntKind) (n : Int)
  | bool (b : Bool)
  | str (s : ByteArray)
  | agg (cs : List V)
  | tup (vs : List V)
  | sl (n : Nat) (cs : List V)
  | e0
  | msl (key : Key) (g off n : Nat)
  | msv (key : Key) (g off n esz : Nat)
  | nilp
  | ip (cs : List V) (off : Nat)
  | mp (key : Key) (g off : Nat)
  | ifc (t : TypeId) (v : V)
  | nili
  | fn (f : FuncId) (cap : List V)
  | nilf
  | nilm
  | mm (key : Key)
  | im (es : List (V × V))
  | junk

/-- A logical object: cells, the generation of its slice, the cells of one element (0: no slice). -/
inductive LObj where
  | row (g esz : Nat) (cs : List V)
  | map (es : List (V × V))

abbrev Heap := Key → Option LObj

def V.one : V → Bool
  | .agg _ | .tup _ | .junk => false
  | _ => true

def V.cells : V → List V
  | .agg cs => cs
  | v => [v]

/-- The model's value for a logical one, where all memory that it leads to never turns. -/
inductive RepI (imm : Nat → Prop) (w : World) : Value → V → Prop
  | int (k n) : RepI imm w (.int k n) (.int k n)
  | bool (b) : RepI imm w (.bool b) (.bool b)
  | str (s) : RepI imm w (.string s) (.str s)
  | agg (vs : Array Value) (cs : List V) : vs.size = cs.length → (∀ (j : Nat) (v : Value) (c : V), vs[j]? = some v → cs[j]? = some c → RepI imm w v c) → RepI imm w (.agg vs) (.agg cs)
  | tup (vs : Array Value) (cs : List V) : vs.size = cs.length → (∀ (j : Nat) (v : Value) (c : V), vs[j]? = some v → cs[j]? = some c → RepI imm w v c) → RepI imm w (.tuple vs) (.tup cs)
  | sl0 (A c) : RepI imm w (.slice A 0 c) (.sl 0 [])
  | sl (b off n c : Nat) (us : Array Value) (T fz) (cs : List V) : imm b → w.heap[b]? = some (.cells us T fz) → off + cs.length ≤ us.size → n ≤ c →
      (∀ (j : Nat) (v : Value) (x : V), us[off + j]? = some v → cs[j]? = some x → RepI imm w v x) → RepI imm w (.slice (some ⟨b, off, none⟩) n c) (.sl n cs)
  | e0 (A) : RepI imm w (.slice A 0 0) .e0
  | nilp : RepI imm w (.pointer none) .nilp
  | ip (b o off : Nat) (us : Array Value) (T fz) (cs : List V) : imm b → w.heap[b]? = some (.cells us T fz) → o + cs.length ≤ us.size →
      (∀ (j : Nat) (v : Value) (x : V), us[o + j]? = some v → cs[j]? = some x → RepI imm w v x) → RepI imm w (.pointer (some ⟨b, o + off, none⟩)) (.ip cs off)
  | ifc (t v x) : RepI imm w v x → RepI imm w (.iface t v) (.ifc t x)
  | nili : RepI imm w .nilIface .nili
  | fn (f) (vs : Array Value) (cs : List V) : vs.size = cs.length → (∀ (j : Nat) (v : Value) (c : V), vs[j]? = some v → cs[j]? = some c → RepI imm w v c) → RepI imm w (.func (.func f) #[] vs) (.fn f cs)
  | nilf : RepI imm w .nilFunc .nilf
  | nilm : RepI imm w (.map none) .nilm
  | im (b clock : Nat) (ents : Array MapEntry) (es : List (V × V)) : imm b → w.heap[b]? = some (.map ents clock) → ents.size = es.length →
      (∀ (j : Nat) (e : MapEntry) (p : V × V), ents[j]? = some e → es[j]? = some p → RepI imm w e.key p.1) →
      (∀ (j : Nat) (e : MapEntry) (p : V × V), ents[j]? = some e → es[j]? = some p → RepI imm w e.val p.2) → RepI imm w (.map (some b)) (.im es)
  | junk (v) : RepI imm w v .junk

/-- What turned between two worlds leaves the blocks of 'imm' as they were. -/
theorem RepI.mono {imm imm' : Nat → Prop} {w w' : World} {v : Value} {x : V} (h : RepI imm w v x)
    (hi : ∀ b, imm b → imm' b) (hb : ∀ b, imm b → w'.heap[b]? = w.heap[b]?) : RepI imm' w' v x := by
  induction h with
  | int => exact .int _ _
  | bool => exact .bool _
  | str => exact .str _
  | agg vs cs hs _ ih => exact .agg vs cs hs ih
  | tup vs cs hs _ ih => exact .tup vs cs hs ih
  | sl0 => exact .sl0 _ _
  | sl b off n c us T fz cs hm hw hl hc _ ih => exact .sl b off n c us T fz cs (hi b hm) ((hb b hm).trans hw) hl hc ih
  | e0 => exact .e0 _
  | nilp => exact .nilp
  | ip b o off us T fz cs hm hw hl _ ih => exact .ip b o off us T fz cs (hi b hm) ((hb b hm).trans hw) hl ih
  | ifc t v x _ ih => exact .ifc t v x ih
  | nili => exact .nili
  | fn f vs cs hs _ ih => exact .fn f vs cs hs ih
  | nilf => exact .nilf
  | nilm => exact .nilm
  | im b clock ents es hm hw hl _ _ ih1 ih2 => exact .im b clock ents es (hi b hm) ((hb b hm).trans hw) hl ih1 ih2
  | junk => exact .junk _

/-- What is known besides the logical state: which blocks never turn; which block a generation of an object's slice lies in, and its capacity. -/
structure Gh where
  imm : Nat → Prop
  ref : Key → Nat → Option (Option Nat × Nat)

inductive Rep (g : Gh) (w : World) : Value → V → Prop
  | imm (v x) : RepI g.imm w v x → Rep g w v x
  | agg (vs : Array Value) (cs : List V) : vs.size = cs.length → (∀ (j : Nat) (v : Value) (c : V), vs[j]? = some v → cs[j]? = some c → Rep g w v c) → Rep g w (.agg vs) (.agg cs)
  | tup (vs : Array Value) (cs : List V) : vs.size = cs.length → (∀ (j : Nat) (v : Value) (c : V), vs[j]? = some v → cs[j]? = some c → Rep g w v c) → Rep g w (.tuple vs) (.tup cs)
  | ifc (t v x) : Rep g w v x → Rep g w (.iface t v) (.ifc t x)
  | fn (f) (vs : Array Value) (cs : List V) : vs.size = cs.length → (∀ (j : Nat) (v : Value) (c : V), vs[j]? = some v → cs[j]? = some c → Rep g w v c) → Rep g w (.func (.func f) #[] vs) (.fn f cs)
  | mp (key gen off b cap) : g.ref key gen = some (some b, cap) → Rep g w (.pointer (some ⟨b, off, none⟩)) (.mp key gen off)
  | msl (key gen off n c A blk cap) : g.ref key gen = some (blk, cap) → (off = 0 → c = cap) → n ≤ c → (∀ b, blk = some b → 0 < c → A = some ⟨b, off, none⟩) → (blk = none → c = 0) →
      Rep g w (.slice A n c) (.msl key gen off n)
  | mm (key b cap) : g.ref key 0 = some (some b, cap) → Rep g w (.map (some b)) (.mm key)
  | msv (key gen off n esz c A b cap) : g.ref key gen = some (some b, cap) → n ≤ c → (0 < n → A = some ⟨b, off, none⟩) → Rep g w (.slice A n c) (.msv key gen off n esz)

theorem Rep.mono {g g' : Gh} {w w' : World} {v : Value} {x : V} (h : Rep g w v x)
    (hi : ∀ b, g.imm b → g'.imm b) (hb : ∀ b, g.imm b → w'.heap[b]? = w.heap[b]?) (hr : ∀ k n r, g.ref k n = some r → g'.ref k n = some r) : Rep g' w' v x := by
  induction h with
  | imm v x h => exact .imm _ _ (h.mono hi hb)
  | agg vs cs hs _ ih => exact .agg vs cs hs ih
  | tup vs cs hs _ ih => exact .tup vs cs hs ih
  | ifc t v x _ ih => exact .ifc t v x ih
  | fn f vs cs hs _ ih => exact .fn f vs cs hs ih
  | mp key gen off b cap h => exact .mp key gen off b cap (hr _ _ _ h)
  | msl key gen off n c A blk cap h h1 h2 h3 h4 => exact .msl key gen off n c A blk cap (hr _ _ _ h) h1 h2 h3 h4
  | msv key gen off n esz c A b cap h h1 h2 => exact .msv key gen off n esz c A b cap (hr _ _ _ h) h1 h2
  | mm key b cap h => exact .mm key b cap (hr _ _ _ h)

theorem Rep.junk (g : Gh) (w : World) (v : Value) : Rep g w v .junk := .imm _ _ (.junk v)

section inversions
variable {g : Gh} {w : World} {v : Value}
theorem Rep.int_inv {k n} (h : Rep g w v (.int k n)) : v = .int k n := by
  cases h with | imm _ _ h => cases h; rfl
theorem Rep.bool_inv {b} (h : Rep g w v (.bool b)) : v = .bool b := by
  cases h with | imm _ _ h => cases h; rfl
theorem Rep.str_inv {b} (h : Rep g w v (.str b)) : v = .string b := by
  cases h with | imm _ _ h => cases h; rfl
theorem Rep.nilp_inv (h : Rep g w v .nilp) : v = .pointer none := by
  cases h with | imm _ _ h => cases h; rfl
theorem Rep.nili_inv (h : Rep g w v .nili) : v = .nilIface := by
  cases h with | imm _ _ h => cases h; rfl
theorem Rep.agg_inv {cs} (h : Rep g w v (.agg cs)) : ∃ vs : Array Value, v = .agg vs ∧ vs.size = cs.length ∧ ∀ (j : Nat) (v : Value) (c : V), vs[j]? = some v → cs[j]? = some c → Rep g w v c := by
  cases h with
  | imm _ _ h => cases h with | agg vs _ hs hj => exact ⟨vs, rfl, hs, fun j v c h1 h2 => .imm _ _ (hj j v c h1 h2)⟩
  | agg vs _ hs hj => exact ⟨vs, rfl, hs, hj⟩
theorem Rep.tup_inv {cs} (h : Rep g w v (.tup cs)) : ∃ vs : Array Value, v = .tuple vs ∧ vs.size = cs.length ∧ ∀ (j : Nat) (v : Value) (c : V), vs[j]? = some v → cs[j]? = some c → Rep g w v c := by
  cases h with
  | imm _ _ h => cases h with | tup vs _ hs hj => exact ⟨vs, rfl, hs, fun j v c h1 h2 => .imm _ _ (hj j v c h1 h2)⟩
  | tup vs _ hs hj => exact ⟨vs, rfl, hs, hj⟩
theorem Rep.fn_inv {f cs} (h : Rep g w v (.fn f cs)) : ∃ vs : Array Value, v = .func (.func f) #[] vs ∧ vs.size = cs.length ∧ ∀ (j : Nat) (v : Value) (c : V), vs[j]? = some v → cs[j]? = some c → Rep g w v c := by
  cases h with
  | imm _ _ h => cases h with | fn _ vs _ hs hj => exact ⟨vs, rfl, hs, fun j v c h1 h2 => .imm _ _ (hj j v c h1 h2)⟩
  | fn _ vs _ hs hj => exact ⟨vs, rfl, hs, hj⟩
theorem Rep.ifc_inv {t x} (h : Rep g w v (.ifc t x)) : ∃ u, v = .iface t u ∧ Rep g w u x := by
  cases h with
  | imm _ _ h => cases h with | ifc _ u _ h => exact ⟨u, rfl, .imm _ _ h⟩
  | ifc _ u _ h => exact ⟨u, rfl, h⟩
theorem Rep.sl_inv {n cs} (h : Rep g w v (.sl n cs)) : ∃ A c, v = .slice A n c ∧ RepI g.imm w (.slice A n c) (.sl n cs) ∧ n ≤ c := by
  cases h with
  | imm _ _ h =>
    cases h with
    | sl0 A c => exact ⟨A, c, rfl, .sl0 A c, Nat.zero_le _⟩
    | sl b off _ c us T fz _ h1 h2 h3 h4 h5 => exact ⟨_, c, rfl, .sl b off n c us T fz cs h1 h2 h3 h4 h5, h4⟩
theorem Rep.e0_inv (h : Rep g w v .e0) : ∃ A, v = .slice A 0 0 := by
  cases h with | imm _ _ h => cases h with | e0 A => exact ⟨A, rfl⟩
theorem Rep.mp_inv {k n off} (h : Rep g w v (.mp k n off)) : ∃ b cap, g.ref k n = some (some b, cap) ∧ v = .pointer (some ⟨b, off, none⟩) := by
  cases h with
  | imm _ _ h => cases h
  | mp _ _ _ b cap h => exact ⟨b, cap, h, rfl⟩
theorem Rep.msl_inv {k gen off n} (h : Rep g w v (.msl k gen off n)) : ∃ c A blk cap, v = .slice A n c ∧ g.ref k gen = some (blk, cap) ∧ (off = 0 → c = cap) ∧ n ≤ c ∧
    (∀ b, blk = some b → 0 < c → A = some ⟨b, off, none⟩) ∧ (blk = none → c = 0) := by
  cases h with
  | imm _ _ h => cases h
  | msl _ _ _ _ c A blk cap h h1 h2 h3 h4 => exact ⟨c, A, blk, cap, rfl, h, h1, h2, h3, h4⟩
theorem Rep.ip_inv {cs off} (h : Rep g w v (.ip cs off)) : ∃ b o us T fz, v = .pointer (some ⟨b, o + off, none⟩) ∧ g.imm b ∧ w.heap[b]? = some (.cells us T fz) ∧ o + cs.length ≤ us.size ∧
    ∀ (j : Nat) (v : Value) (x : V), us[o + j]? = some v → cs[j]? = some x → RepI g.imm w v x := by
  cases h with
  | imm _ _ h => cases h with | ip b o _ us T fz _ h1 h2 h3 h4 => exact ⟨b, o, us, T, fz, rfl, h1, h2, h3, h4⟩
theorem Rep.mm_inv {k} (h : Rep g w v (.mm k)) : ∃ b cap, g.ref k 0 = some (some b, cap) ∧ v = .map (some b) := by
  cases h with
  | imm _ _ h => cases h
  | mm _ b cap h => exact ⟨b, cap, h, rfl⟩
theorem Rep.msv_inv {k gen off n esz} (h : Rep g w v (.msv k gen off n esz)) : ∃ c A b cap, v = .slice A n c ∧ g.ref k gen = some (some b, cap) ∧ n ≤ c ∧ (0 < n → A = some ⟨b, off, none⟩) := by
  cases h with
  | imm _ _ h => cases h
  | msv _ _ _ _ _ c A b cap h h1 h2 => exact ⟨c, A, b, cap, rfl, h, h1, h2⟩
end inversions

/-- Keys from here on: objects that the caller handed in. -/
def PK : Nat := 1125899906842624

/-- Below block number B the world w' is as w was; it has drawn no fewer. -/
structure BelowD (B : Nat) (w w' : World) : Prop extends Below B w w' where
  drawn : w.drawn ≤ w'.drawn
theorem BelowD.refl (B : Nat) (w : World) : BelowD B w w := ⟨.refl B w, Nat.le_refl _⟩
theorem BelowD.trans {B : Nat} {a b c : World} (h : BelowD B a b) (k : BelowD B b c) : BelowD B a c := ⟨h.toBelow.trans k.toBelow, Nat.le_trans h.drawn k.drawn⟩
theorem BelowD.mono {B B' : Nat} {w w' : World} (h : BelowD B w w') (hB : B' ≤ B) : BelowD B' w w' := ⟨h.toBelow.mono hB, h.drawn⟩
theorem BelowD.drew {B : Nat} {a w : World} (h : BelowD B a w) : BelowD B a w.drew := ⟨h.toBelow.drew, Nat.le_trans h.drawn (Nat.le_succ _)⟩
theorem BelowD.alloc {B : Nat} {a w : World} (h : BelowD B a w) (hB : B ≤ w.heap.size) (o : Obj) : BelowD B a (w.alloc o) := ⟨h.toBelow.alloc hB o, h.drawn⟩

/-- Below block number B the world w' is as w was, but for the blocks of F. -/
structure BelowF (B : Nat) (F : Nat → Prop) (w w' : World) : Prop where
  os : w'.os = w.os
  tape : w'.tape = w.tape
  output : w'.output = w.output
  size : w.heap.size ≤ w'.heap.size
  block : ∀ k, k < B → ¬ F k → w'.heap[k]? = w.heap[k]?
  drawn : w.drawn ≤ w'.drawn

theorem BelowF.refl (B : Nat) (F : Nat → Prop) (w : World) : BelowF B F w w := ⟨rfl, rfl, rfl, Nat.le_refl _, fun _ _ _ => rfl, Nat.le_refl _⟩
theorem BelowF.trans {B : Nat} {F : Nat → Prop} {a b c : World} (h : BelowF B F a b) (k : BelowF B F b c) : BelowF B F a c :=
  ⟨k.os.trans h.os, k.tape.trans h.tape, k.output.trans h.output, Nat.le_trans h.size k.size, fun i hi hf => (k.block i hi hf).trans (h.block i hi hf), Nat.le_trans h.drawn k.drawn⟩
theorem BelowF.of {B : Nat} {F : Nat → Prop} {a b : World} (h : BelowD B a b) : BelowF B F a b := ⟨h.os, h.tape, h.output, h.size, fun i hi _ => h.block i hi, h.drawn⟩
theorem BelowF.below {B : Nat} {a b : World} (h : BelowF B (fun _ => False) a b) : BelowD B a b := ⟨⟨h.os, h.tape, h.output, h.size, fun i hi => h.block i hi (fun h => h)⟩, h.drawn⟩

/-- The blocks that an object may lie in. -/
def OwnB (B : Nat) (F : Nat → Prop) (key : Key) (b : Nat) : Prop := B ≤ b ∨ (PK ≤ key.1 ∧ F b)

/-- A map's entries. -/
def MapOk (g : Gh) (w : World) (es : List (V × V)) (b : Nat) : Prop :=
  ∃ (ents : Array MapEntry) (clock : Nat), w.heap[b]? = some (.map ents clock) ∧ ents.size = es.length ∧ ∀ (j : Nat) (e : MapEntry) (p : V × V), ents[j]? = some e → es[j]? = some p → Rep g w e.key p.1 ∧ Rep g w e.val p.2
theorem MapOk.mono {g g' : Gh} {w w' : World} {es : List (V × V)} {b : Nat} (h : MapOk g w es b) (hb : w'.heap[b]? = w.heap[b]?) (hr : ∀ v x, Rep g w v x → Rep g' w' v x) : MapOk g' w' es b := by
  obtain ⟨ents, clock, h1, h2, h3⟩ := h
  exact ⟨ents, clock, hb.trans h1, h2, fun j e p he hp => ⟨hr _ _ (h3 j e p he hp).1, hr _ _ (h3 j e p he hp).2⟩⟩

/-- None of the first n cells is frozen. -/
def NoFz (n : Nat) (fz : Nat × Nat) : Prop := (∀ o, o < n → ¬ (fz.1 ≤ o ∧ o < fz.2)) ∧ fz.1 ≤ fz.2

/-- An object of the running call lies in a block from B on, or in none (a nil slice's). -/
def ObjRel (B : Nat) (F : Nat → Prop) (w : World) (g : Gh) (key : Key) : LObj → Prop
  | .row gen esz cs => ∃ blk cap, g.ref key gen = some (blk, cap) ∧ (∀ m, gen < m → g.ref key m = none) ∧
    match blk with
    | none => cs = [] ∧ cap = 0
    | some b => OwnB B F key b ∧ b < w.heap.size ∧ ¬ g.imm b ∧ ∃ (us : Array Value) (T : TypeId) (fz : Nat × Nat), w.heap[b]? = some (.cells us T fz) ∧ NoFz us.size fz ∧
        cs.length ≤ us.size ∧ cap * esz ≤ us.size ∧ ∀ (j : Nat) (u : Value) (c : V), us[j]? = some u → cs[j]? = some c → Rep g w u c
  | .map es => ∃ b, g.ref key 0 = some (some b, 0) ∧ (∀ m, 0 < m → g.ref key m = none) ∧ OwnB B F key b ∧ b < w.heap.size ∧ ¬ g.imm b ∧ MapOk g w es b

/-- The block of an object. -/
def blkOf (g : Gh) (key : Key) : LObj → Option Nat
  | .row gen _ _ => (g.ref key gen).bind (·.1)
  | .map _ => (g.ref key 0).bind (·.1)

/-- A logical state: the slots, the objects, how many objects each place has made. -/
structure St where
  tm : Nat → V
  H : Heap
  cnt : Nat → Nat

/-- Slots from here on: those of the calls that wait (their values do not turn). -/
def HB : Nat := 100000

/-- The running call: B: its first block; N: how many slots; w₀: the world in which it began; i₀: the blocks that never turn, then; F: the blocks of what was handed in to be turned; r₀: where these lie. -/
structure Env where
  B : Nat
  N : Nat
  w₀ : World
  i₀ : Nat → Prop
  F : Nat → Prop
  r₀ : Key → Nat → Option (Option Nat × Nat)
  up : Nat → Value

def slotV (E : Env) (a : Act) (t : Nat) : Value := if t < HB then a.tmps.getD t undef else E.up (t - HB)
theorem slotV_lo {E : Env} {a : Act} {t : Nat} (h : t < HB) : slotV E a t = a.tmps.getD t undef := if_pos h
theorem slotV_hi {E : Env} {a : Act} (t : Nat) : slotV E a (HB + t) = E.up t := by
  unfold slotV
  rw [if_neg (by omega), Nat.add_sub_cancel_left]

structure SimG (E : Env) (g : Gh) (σ : St) (a : Act) (w : World) : Prop where
  below : BelowF E.B E.F E.w₀ w
  sizeB : E.B ≤ w.heap.size
  size : a.tmps.size = E.N ∧ E.N ≤ HB
  defers : a.defers = []
  tm : ∀ t, Rep g w (slotV E a t) (σ.tm t)
  immlt : ∀ b, g.imm b → b < w.heap.size
  imm0 : ∀ b, E.i₀ b → g.imm b
  immB : ∀ b, b < E.B → g.imm b → E.i₀ b
  obj : ∀ k o, σ.H k = some o → ObjRel E.B E.F w g k o
  apart : ∀ k k' o o' b, σ.H k = some o → σ.H k' = some o' → blkOf g k o = some b → blkOf g k' o' = some b → k = k'
  fresh : ∀ s n, σ.cnt s ≤ n → σ.H (s, n) = none ∧ ∀ m, g.ref (s, n) m = none
  ref0 : ∀ k n r, PK ≤ k.1 → E.r₀ k n = some r → g.ref k n = some r

def Sim (E : Env) (σ : St) (a : Act) (w : World) : Prop := ∃ g, SimG E g σ a w

def tupd (f : Nat → V) (d : Nat) (v : V) : Nat → V := fun t => if t = d then v else f t
def hupd (H : Heap) (k : Key) (o : LObj) : Heap := fun k' => if k' = k then some o else H k'
def cupd (c : Nat → Nat) (s : Nat) : Nat → Nat := fun s' => if s' = s then c s + 1 else c s'
def dput (f : Nat → V) (d : Option Nat) (v : V) : Nat → V := match d with | some d => tupd f d v | none => f

/-- A state that says less. -/
structure St.le (σ' σ : St) : Prop where
  tm : ∀ t, σ'.tm t = σ.tm t ∨ σ'.tm t = .junk
  H : ∀ k o, σ'.H k = some o → σ.H k = some o
  cnt : ∀ s, σ.cnt s ≤ σ'.cnt s

theorem St.le.refl (σ : St) : St.le σ σ := ⟨fun _ => .inl rfl, fun _ _ h => h, fun _ => Nat.le_refl _⟩

theorem SimG.le {E : Env} {g : Gh} {σ σ' : St} {a : Act} {w : World} (h : SimG E g σ a w) (hl : St.le σ' σ) : SimG E g σ' a w where
  below := h.below
  sizeB := h.sizeB
  size := h.size
  defers := h.defers
  tm := fun t => by
    rcases hl.tm t with e | e
    · rw [e]; exact h.tm t
    · rw [e]; exact .junk _ _ _
  immlt := h.immlt
  imm0 := h.imm0
  immB := h.immB
  obj := fun k o hk => h.obj k o (hl.H k o hk)
  apart := fun k k' o o' b h1 h2 => h.apart k k' o o' b (hl.H k o h1) (hl.H k' o' h2)
  fresh := fun s n hn => by
    have := h.fresh s n (Nat.le_trans (hl.cnt s) hn)
    refine ⟨?_, this.2⟩
    cases hk : σ'.H (s, n) with
    | none => rfl
    | some o => have := hl.H _ _ hk; simp_all
  ref0 := h.ref0

/-- Whatever stands as the first state says stands as the second one says. -/
def Ent (σ σ' : St) : Prop := ∀ E a w, Sim E σ a w → Sim E σ' a w
theorem Ent.refl (σ : St) : Ent σ σ := fun _ _ _ h => h
theorem Ent.trans {a b c : St} (h : Ent a b) (k : Ent b c) : Ent a c := fun _ _ _ x => k _ _ _ (h _ _ _ x)

theorem Sim.le {E : Env} {σ σ' : St} {a : Act} {w : World} (h : Sim E σ a w) (hl : St.le σ' σ) : Sim E σ' a w :=
  let ⟨g, h⟩ := h; ⟨g, h.le hl⟩
theorem Ent.of_le {σ σ' : St} (hl : St.le σ' σ) : Ent σ σ' := fun _ _ _ h => h.le hl

/-! Package-level variables whose cells are known. -/
inductive GS where
  | int
  | val (v : Value)
def glIx (P : Program) (name : String) : Option Nat := P.globals.toList.findIdx? fun g => g.name == name
def tyIx (P : Program) (name : String) : Option Nat := P.types.toList.findIdx? fun t => t.str == name
def glOf (P : Program) : List (Nat × GS) :=
  (match glIx P "internal/bytealg.MaxLen" with | some i => [(i, .int)] | none => []) ++
  (match glIx P "errors.errorType", (P.cutTypes.find? (·.1 == "internal/reflectlite.rtype")).map (·.2), tyIx P "error" with
    | some i, some rt, some e => [(i, .val (.iface rt (.agg #[.pointer (some ⟨P.globals.size, e, none⟩)])))]
    | _, _, _ => [])
def gsOk (w : World) (p : Nat × GS) : Prop := match p.2 with
  | .int => ∃ n, w.cell? ⟨p.1, 0, none⟩ = some (.int .i64 n)
  | .val v => w.cell? ⟨p.1, 0, none⟩ = some v
def GOk (P : Program) (w : World) : Prop := ∀ p ∈ glOf P, p.1 < w.heap.size ∧ gsOk w p
/-- The blocks of 'imm' are there, and so are the known variables. -/
def Imm0 (P : Program) (imm : Nat → Prop) (w : World) : Prop := (∀ b, imm b → b < w.heap.size) ∧ GOk P w
class EOk (P : Program) (E : Env) : Prop where
  ok : ∀ p ∈ glOf P, p.1 < E.B ∧ ¬ E.F p.1 ∧ gsOk E.w₀ p
theorem gsOk_heap {w w' : World} {p : Nat × GS} (h : w'.heap[p.1]? = w.heap[p.1]?) (hg : gsOk w p) : gsOk w' p := by
  have hc : w'.cell? ⟨p.1, 0, none⟩ = w.cell? ⟨p.1, 0, none⟩ := by
    unfold World.cell?
    simp only [h]
  unfold gsOk at hg ⊢
  rw [hc]; exact hg
theorem EOk.gok {P : Program} {E : Env} [hE : EOk P E] {g : Gh} {σ : St} {a : Act} {w : World} (h : SimG E g σ a w) : GOk P w := by
  intro p hp
  obtain ⟨h1, h2, h3⟩ := hE.ok p hp
  exact ⟨Nat.lt_of_lt_of_le h1 h.sizeB, gsOk_heap (h.below.block p.1 h1 h2) h3⟩
theorem EOk.start {P : Program} {w : World} (h : GOk P w) (n : Nat) (imm : Nat → Prop) (r : Key → Nat → Option (Option Nat × Nat)) (up : Nat → Value) : EOk P ⟨w.heap.size, n, w, imm, fun _ => False, r, up⟩ :=
  ⟨fun p hp => ⟨(h p hp).1, fun h => h, (h p hp).2⟩⟩

end Go.Lg
