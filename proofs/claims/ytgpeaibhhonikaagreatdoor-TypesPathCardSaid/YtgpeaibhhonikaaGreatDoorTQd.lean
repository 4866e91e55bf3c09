/-
  Tt Nz Fq Tyl Tyw Tym Tyn: put together.
-/
import Derived.Test.YtgpeaibhhonikaaGreatDoorTQa
import Derived.Test.YtgpeaibhhonikaaGreatDoorShr
import Derived.Test.YtgpeaibhhonikaaGreatDoorProg
import Derived.Test.YtgpeaibhhonikaaGreatDoorLgP
import Derived.Test.YtgpeaibhhonikaaGreatDoorTQb
import Derived.Test.YtgpeaibhhonikaaGreatDoorTQs
set_option linter.unusedSimpArgs false
set_option linter.unusedVariables false
namespace Go.Lg
open Go Go.RowKit
set_option linter.unusedVariables false

inductive TT where
  | mk (kind : Int) (name : ByteArray) (lives : List ByteArray) (elem : List TT)
def TT.kind : TT → Int | .mk k _ _ _ => k
def TT.name : TT → ByteArray | .mk _ n _ _ => n
def TT.lives : TT → List ByteArray | .mk _ _ r _ => r
def TT.elem : TT → List TT | .mk _ _ _ e => e
mutual
def TT.cells : TT → List V
  | .mk k n r e => [.int .i64 k, .str n, encL cS r, .sl e.length (TT.cellsL e)]
def TT.cellsL : List TT → List V
  | [] => []
  | x :: r => TT.cells x ++ TT.cellsL r
end
mutual
def TT.ok : TT → Prop
  | .mk k n r e => InI64 k ∧ n.size ≤ maxLen ∧ (r.length ≤ maxLen ∧ ∀ x ∈ r, x.size ≤ maxLen) ∧ e.length ≤ maxLen ∧ TT.okL e
def TT.okL : List TT → Prop
  | [] => True
  | x :: r => TT.ok x ∧ TT.okL r
end
theorem TT.cellsL_eq : ∀ l : List TT, TT.cellsL l = l.flatMap TT.cells
  | [] => rfl
  | x :: r => by rw [TT.cellsL, TT.cellsL_eq r]; rfl
theorem TT.okL_iff : ∀ l : List TT, TT.okL l ↔ ∀ x ∈ l, x.ok
  | [] => by simp [TT.okL]
  | x :: r => by rw [TT.okL, TT.okL_iff r]; simp
theorem TT.cells_eq (t : TT) : t.cells = [.int .i64 t.kind, .str t.name, encL cS t.lives, encL TT.cells t.elem] := by
  cases t with
  | mk k n r e => rw [TT.cells, TT.cellsL_eq]; rfl
theorem TT.ok_iff (t : TT) : t.ok ↔ InI64 t.kind ∧ t.name.size ≤ maxLen ∧ (t.lives.length ≤ maxLen ∧ ∀ x ∈ t.lives, x.size ≤ maxLen) ∧ t.elem.length ≤ maxLen ∧ ∀ x ∈ t.elem, x.ok := by
  cases t with
  | mk k n r e => rw [TT.ok, TT.okL_iff]; rfl

theorem TT.len (x : TT) : x.cells.length = 4 := by rw [TT.cells_eq]; rfl
theorem TT.c0 (x : TT) : ldV false 1 x.cells 0 = some (.int .i64 x.kind) := by simp [ldV, TT.cells_eq]
theorem TT.c1 (x : TT) : ldV false 1 x.cells 1 = some (.str x.name) := by simp [ldV, TT.cells_eq]
theorem TT.c2 (x : TT) : ldV false 1 x.cells 2 = some (encL cS x.lives) := by simp [ldV, TT.cells_eq]
theorem TT.c3 (x : TT) : ldV false 1 x.cells 3 = some (encL TT.cells x.elem) := by simp [ldV, TT.cells_eq]
theorem TT.call (x : TT) : ldV true 4 x.cells 0 = some (.agg x.cells) := by simp only [ldV, if_true, Nat.zero_add, TT.len, Nat.le_refl, List.drop_zero]; rw [List.take_of_length_le (by rw [TT.len]; exact Nat.le_refl _)]
theorem TT.snapc (x : TT) (H : Heap) (d : Nat) : x.cells.map (snap H (d + 1)) = x.cells := by simp [TT.cells_eq, snap, encL]
theorem TT.sokc (x : TT) (H : Heap) (d : Nat) : x.cells.all (sok H (d + 1)) = true := by simp [TT.cells_eq, sok, encL]
theorem TT.onec (x : TT) : x.cells.all V.one = true := by simp [TT.cells_eq, V.one, encL]
theorem TT.imvc (x : TT) (d : Nat) : x.cells.all (imV (d + 1)) = true := by simp [TT.cells_eq, imV, encL]
theorem TT.ld {l : List TT} {i j n : Nat} {agg : Bool} (h : i < l.length) (hj : j + n ≤ 4) (hn : 0 < n) : ldV agg n (l.flatMap TT.cells) (i * 4 + j) = ldV agg n l[i].cells j := ld_flat TT.len h hj hn
theorem TT.ld0 {l : List TT} {i n : Nat} {agg : Bool} (h : i < l.length) (hj : n ≤ 4) (hn : 0 < n) : ldV agg n (l.flatMap TT.cells) (i * 4) = ldV agg n l[i].cells 0 := ld_flat0 TT.len h hj hn
structure FD where
  mu : Bool
  name : ByteArray
  type : TT
@[irreducible] def FD.cells (f : FD) : List V := [.bool f.mu, .str f.name, .int .i64 f.type.kind, .str f.type.name, encL cS f.type.lives, encL TT.cells f.type.elem]
structure ST where
  pub : Bool
  name : ByteArray
  lives : List ByteArray
  fields : List FD
  at' : Int
@[irreducible] def ST.cells (s : ST) : List V := [.bool s.pub, .str s.name, encL cS s.lives, encL FD.cells s.fields, .int .i64 s.at']
theorem FD.len (x : FD) : x.cells.length = 6 := by simp [FD.cells]
theorem ST.len (x : ST) : x.cells.length = 5 := by simp [ST.cells]
theorem FD.c0 (x : FD) : ldV false 1 x.cells 0 = some (.bool x.mu) := by simp [ldV, FD.cells]
theorem FD.c1 (x : FD) : ldV false 1 x.cells 1 = some (.str x.name) := by simp [ldV, FD.cells]
theorem FD.c2 (x : FD) : ldV false 1 x.cells 2 = some (.int .i64 x.type.kind) := by simp [ldV, FD.cells]
theorem FD.c3 (x : FD) : ldV false 1 x.cells 3 = some (.str x.type.name) := by simp [ldV, FD.cells]
theorem FD.c4 (x : FD) : ldV false 1 x.cells 4 = some (encL cS x.type.lives) := by simp [ldV, FD.cells]
theorem FD.c5 (x : FD) : ldV false 1 x.cells 5 = some (encL TT.cells x.type.elem) := by simp [ldV, FD.cells]
theorem FD.call (x : FD) : ldV true 6 x.cells 0 = some (.agg x.cells) := by simp only [ldV, if_true, Nat.zero_add, FD.len, Nat.le_refl, List.drop_zero]; rw [List.take_of_length_le (by rw [FD.len]; exact Nat.le_refl _)]
theorem FD.s2_4 (x : FD) : ldV true 4 x.cells 2 = some (.agg x.type.cells) := by simp [ldV, FD.cells, TT.cells_eq]
theorem FD.snapc (x : FD) (H : Heap) (d : Nat) : x.cells.map (snap H (d + 1)) = x.cells := by simp [FD.cells, snap, encL]
theorem FD.sokc (x : FD) (H : Heap) (d : Nat) : x.cells.all (sok H (d + 1)) = true := by simp [FD.cells, sok, encL]
theorem FD.onec (x : FD) : x.cells.all V.one = true := by simp [FD.cells, V.one, encL]
theorem FD.imvc (x : FD) (d : Nat) : x.cells.all (imV (d + 1)) = true := by simp [FD.cells, imV, encL]
theorem ST.c0 (x : ST) : ldV false 1 x.cells 0 = some (.bool x.pub) := by simp [ldV, ST.cells]
theorem ST.c1 (x : ST) : ldV false 1 x.cells 1 = some (.str x.name) := by simp [ldV, ST.cells]
theorem ST.c2 (x : ST) : ldV false 1 x.cells 2 = some (encL cS x.lives) := by simp [ldV, ST.cells]
theorem ST.c3 (x : ST) : ldV false 1 x.cells 3 = some (encL FD.cells x.fields) := by simp [ldV, ST.cells]
theorem ST.c4 (x : ST) : ldV false 1 x.cells 4 = some (.int .i64 x.at') := by simp [ldV, ST.cells]
theorem ST.call (x : ST) : ldV true 5 x.cells 0 = some (.agg x.cells) := by simp only [ldV, if_true, Nat.zero_add, ST.len, Nat.le_refl, List.drop_zero]; rw [List.take_of_length_le (by rw [ST.len]; exact Nat.le_refl _)]
theorem ST.snapc (x : ST) (H : Heap) (d : Nat) : x.cells.map (snap H (d + 1)) = x.cells := by simp [ST.cells, snap, encL]
theorem ST.sokc (x : ST) (H : Heap) (d : Nat) : x.cells.all (sok H (d + 1)) = true := by simp [ST.cells, sok, encL]
theorem ST.onec (x : ST) : x.cells.all V.one = true := by simp [ST.cells, V.one, encL]
theorem ST.imvc (x : ST) (d : Nat) : x.cells.all (imV (d + 1)) = true := by simp [ST.cells, imV, encL]
theorem FD.ld {l : List FD} {i j n : Nat} {agg : Bool} (h : i < l.length) (hj : j + n ≤ 6) (hn : 0 < n) : ldV agg n (l.flatMap FD.cells) (i * 6 + j) = ldV agg n l[i].cells j := ld_flat FD.len h hj hn
theorem FD.ld0 {l : List FD} {i n : Nat} {agg : Bool} (h : i < l.length) (hj : n ≤ 6) (hn : 0 < n) : ldV agg n (l.flatMap FD.cells) (i * 6) = ldV agg n l[i].cells 0 := ld_flat0 FD.len h hj hn
theorem ST.ld {l : List ST} {i j n : Nat} {agg : Bool} (h : i < l.length) (hj : j + n ≤ 5) (hn : 0 < n) : ldV agg n (l.flatMap ST.cells) (i * 5 + j) = ldV agg n l[i].cells j := ld_flat ST.len h hj hn
theorem ST.ld0 {l : List ST} {i n : Nat} {agg : Bool} (h : i < l.length) (hj : n ≤ 5) (hn : 0 < n) : ldV agg n (l.flatMap ST.cells) (i * 5) = ldV agg n l[i].cells 0 := ld_flat0 ST.len h hj hn
theorem tt_first {l : List TT} (h : 0 < l.length) : ldV true 4 (l.flatMap TT.cells) 0 = some (.agg (l[0]).cells) := by
  have := TT.ld0 (l := l) (i := 0) (n := 4) (agg := true) h (by decide) (by decide)
  rw [Nat.zero_mul] at this
  rw [this, TT.call]
mutual
theorem TT.ind {p : TT → Prop} (h : ∀ k n r e, (∀ x ∈ e, p x) → p (.mk k n r e)) : ∀ t, p t
  | .mk k n r e => h k n r e (TT.indL h e)
theorem TT.indL {p : TT → Prop} (h : ∀ k n r e, (∀ x ∈ e, p x) → p (.mk k n r e)) : ∀ (e : List TT), ∀ x ∈ e, p x
  | [], x, hx => absurd hx (by simp)
  | y :: l, x, hx => (List.mem_cons.1 hx).elim (fun e => e ▸ TT.ind h y) (fun hx => TT.indL h l x hx)
end

/-- Is a written type's depth above a bound, or is there too much in it? -/
def tdeepB : Nat → TT → Bool
  | 0, _ => true
  | d + 1, t => decide (2 < t.elem.length) || (decide (70 < t.lives.length) || match t.elem with | [] => false | x :: _ => tdeepB d x)
theorem tdeep_zero {t : TT} (h : tdeepB 0 t = false) : False := by cases h
theorem tdeep_succ {d : Nat} {t : TT} (h : tdeepB (d + 1) t = false) : t.elem.length ≤ 2 ∧ t.lives.length ≤ 70 ∧ ∀ (hp : 0 < t.elem.length), tdeepB d t.elem[0] = false := by
  obtain ⟨k, n, l, e⟩ := t
  simp only [tdeepB, TT.elem, TT.lives, Bool.or_eq_false_iff, decide_eq_false_iff_not] at h ⊢
  refine ⟨Nat.le_of_not_lt (of_decide_eq_false h.1), Nat.le_of_not_lt (of_decide_eq_false h.2.1), fun hp => ?_⟩
  cases e with
  | nil => simp at hp
  | cons x l => exact h.2.2

/-- Where a text stands among others; -1. -/
def idxS (l : List ByteArray) (s : ByteArray) : Int := match l with
  | [] => -1
  | x :: r => if x = s then 0 else if idxS r s < 0 then -1 else idxS r s + 1
/-- The numbers from 'next' on. -/
def upS (next : Int) (n : Nat) : List Int := (List.range n).map fun j : Nat => next + (j : Int)
/-- A written type with numbers (14.1); 'sc' tells of a struct's name how many lifetimes it has. -/
def nextS (sc : ByteArray → Nat) (k : Int) (n : ByteArray) (l : List ByteArray) (next : Int) : Int :=
  if isRef k = true then (if l.length = 0 then next + 1 else next) else if k = 3 ∧ l.length = 0 then next + sc n else next
def regsS (sc : ByteArray → Nat) (lives : List ByteArray) (k : Int) (n : ByteArray) (l : List ByteArray) (next : Int) : List Int :=
  if isRef k = true then (if l.length = 0 then [next] else [idxS lives (l.getD 0 ⟨#[]⟩)]) else if k = 3 then (if l.length = 0 then upS next (sc n) else l.map (idxS lives)) else []
mutual
def liftS (sc : ByteArray → Nat) (lives : List ByteArray) : TT → Int → RT × Int
  | .mk k n l e, next => if isRef k = true ∧ 0 < e.length then (.mk k n (regsS sc lives k n l next) [(liftH sc lives e (nextS sc k n l next)).1], (liftH sc lives e (nextS sc k n l next)).2) else (.mk k n (regsS sc lives k n l next) [], nextS sc k n l next)
def liftH (sc : ByteArray → Nat) (lives : List ByteArray) : List TT → Int → RT × Int
  | [], next => (.mk 0 ⟨#[]⟩ [] [], next)
  | x :: _, next => liftS sc lives x next
end
theorem liftH_pos {sc : ByteArray → Nat} {lives : List ByteArray} {e : List TT} (h : 0 < e.length) (next : Int) : liftH sc lives e next = liftS sc lives e[0] next := by
  cases e with
  | nil => simp at h
  | cons x l => rfl
theorem liftS_eq (sc : ByteArray → Nat) (lives : List ByteArray) (t : TT) (next : Int) : liftS sc lives t next = if isRef t.kind = true ∧ 0 < t.elem.length then (.mk t.kind t.name (regsS sc lives t.kind t.name t.lives next) [(liftH sc lives t.elem (nextS sc t.kind t.name t.lives next)).1], (liftH sc lives t.elem (nextS sc t.kind t.name t.lives next)).2) else (.mk t.kind t.name (regsS sc lives t.kind t.name t.lives next) [], nextS sc t.kind t.name t.lives next) := by
  cases t; rfl
end Go.Lg

set_option linter.unusedSimpArgs false
set_option linter.unusedVariables false
namespace Go.Lg
open Go Go.RowKit
set_option linter.unusedVariables false

section
variable {P : Program}
theorem pret_intro_z {f : FuncId} {args : List V} {r : V} {N : Nat} {lc : LC} {rs : List LRV} (hf : fnData P f = some (N, lc.erase, rs)) (hn : args.length ≤ N)
    (h : vcg P lc (retK rs fun v σ => nz 6 (snap σ.H 8 v) = r) ⟨argTm args, noH, noC⟩) : PRet P f args r := by
  obtain ⟨hen, hc⟩ := fn_core hf hn h
  refine ⟨hen, fun imm w vs h1 h2 h3 => (hc imm w vs h1 h2 h3).mono ?_⟩
  rintro e w' ⟨n, g, σ', a', u, v, hs', hrep, rfl, rfl⟩
  exact ⟨u, allImm g σ'.H, rfl, (snap_rep hs' 8 hrep).nz 6, hs'.below.below, fun b hb => .inl (hs'.imm0 b hb), allImm_from hs'⟩
end
theorem ba_beq (a b : ByteArray) : (a == b) = decide (a = b) := by
  obtain ⟨x⟩ := a
  obtain ⟨y⟩ := b
  have h : ((⟨x⟩ : ByteArray) == ⟨y⟩) = (x == y) := rfl
  rw [h, Bool.eq_iff_iff]
  simp
theorem txt_eq (a b : ByteArray) : (a.toList == b.toList) = decide (a = b) := by
  rw [ByteArray.toList_eq, ByteArray.toList_eq, Bool.eq_iff_iff]
  simp only [beq_iff_eq, decide_eq_true_eq]
  constructor
  · intro h
    cases a; cases b
    simp only at h
    congr 1
    exact Array.toList_inj.1 h
  · rintro rfl; rfl
theorem txt_ne (a b : ByteArray) : (a.toList != b.toList) = !decide (a = b) := by rw [bne, txt_eq]
theorem ldc0 (a : V) (r : List V) : ldV false 1 (a :: r) 0 = some a := rfl
theorem ldc1 (a b : V) (r : List V) : ldV false 1 (a :: b :: r) 1 = some b := rfl
theorem ldc2 (a b c : V) (r : List V) : ldV false 1 (a :: b :: c :: r) 2 = some c := rfl
theorem ldc3 (a b c d : V) (r : List V) : ldV false 1 (a :: b :: c :: d :: r) 3 = some d := rfl
theorem ldc4 (a b c d e : V) (r : List V) : ldV false 1 (a :: b :: c :: d :: e :: r) 4 = some e := rfl
theorem gt0 (a : V) (r : List V) : (a :: r)[0]? = some a := rfl
theorem gt1 (a b : V) (r : List V) : (a :: b :: r)[1]? = some b := rfl
theorem gt2 (a b c : V) (r : List V) : (a :: b :: c :: r)[2]? = some c := rfl
theorem lda5 (a b c d e : V) : ldV true 5 [a, b, c, d, e] 0 = some (.agg [a, b, c, d, e]) := rfl
theorem lda4 (a b c d : V) : ldV true 4 [a, b, c, d] 0 = some (.agg [a, b, c, d]) := rfl
theorem nz_e0 (d : Nat) : nz (d + 1) .e0 = .sl 0 [] := rfl
theorem nz_agg (d : Nat) (cs : List V) : nz (d + 1) (.agg cs) = .agg (cs.map (nz d)) := rfl
theorem nz_tup (d : Nat) (cs : List V) : nz (d + 1) (.tup cs) = .tup (cs.map (nz d)) := rfl
theorem nz_sl (d n : Nat) (cs : List V) : nz (d + 1) (.sl n cs) = .sl n (cs.map (nz d)) := rfl
theorem nz_int (d : Nat) (k : IntKind) (n : Int) : nz d (.int k n) = .int k n := by cases d <;> rfl
theorem nz_bool (d : Nat) (b : Bool) : nz d (.bool b) = .bool b := by cases d <;> rfl
theorem nz_str (d : Nat) (s : ByteArray) : nz d (.str s) = .str s := by cases d <;> rfl
theorem nz_nili (d : Nat) : nz d .nili = .nili := by cases d <;> rfl
theorem nz_li (d : Nat) (l : List Int) : (l.flatMap cI).map (nz d) = l.flatMap cI := by
  induction l with
  | nil => rfl
  | cons x l ih => rw [List.flatMap_cons, List.map_append, ih]; simp [cI, nz_int]
theorem nz_ls (d : Nat) (l : List ByteArray) : (l.flatMap cS).map (nz d) = l.flatMap cS := by
  induction l with
  | nil => rfl
  | cons x l ih => rw [List.flatMap_cons, List.map_append, ih]; simp [cS, nz_str]
theorem nz_rt : ∀ (t : RT) (d : Nat), t.cells.map (nz d) = t.cells := by
  refine RT.indE ?_
  intro t ih d
  have hl : ∀ (l : List RT), (∀ x ∈ l, ∀ d, x.cells.map (nz d) = x.cells) → ∀ d, (l.flatMap RT.cells).map (nz d) = l.flatMap RT.cells := by
    intro l
    induction l with
    | nil => intro _ _; rfl
    | cons x l il =>
      intro h d
      rw [List.flatMap_cons, List.map_append, h x (List.mem_cons_self ..), il (fun z hz => h z (List.mem_cons_of_mem _ hz))]
  rw [RT.cells_eq]
  cases d with
  | zero => simp [nz]
  | succ d => simp [nz_int, nz_str, encL, nz_sl, nz_li, hl t.elem ih]
theorem nz_rts (l : List RT) (d : Nat) : (l.flatMap RT.cells).map (nz d) = l.flatMap RT.cells := by
  induction l with
  | nil => rfl
  | cons x l ih => rw [List.flatMap_cons, List.map_append, nz_rt, ih]
theorem nz_call (d : Nat) (t : RT) : nz d (.agg t.cells) = .agg t.cells := by
  cases d with
  | zero => rfl
  | succ d => rw [nz_agg, nz_rt]
theorem nz_tt : ∀ (t : TT) (d : Nat), t.cells.map (nz d) = t.cells := by
  refine TT.ind ?_
  intro k n l e ih d
  have hl : ∀ (l : List TT), (∀ x ∈ l, ∀ d, x.cells.map (nz d) = x.cells) → ∀ d, (l.flatMap TT.cells).map (nz d) = l.flatMap TT.cells := by
    intro l
    induction l with
    | nil => intro _ _; rfl
    | cons x l il =>
      intro h d
      rw [List.flatMap_cons, List.map_append, h x (List.mem_cons_self ..), il (fun z hz => h z (List.mem_cons_of_mem _ hz))]
  rw [TT.cells_eq]
  cases d with
  | zero => simp [nz]
  | succ d => simp [nz_int, nz_str, encL, nz_sl, nz_ls, hl e ih, TT.kind, TT.name, TT.lives, TT.elem]
theorem nz_tts (l : List TT) (d : Nat) : (l.flatMap TT.cells).map (nz d) = l.flatMap TT.cells := by
  induction l with
  | nil => rfl
  | cons x l ih => rw [List.flatMap_cons, List.map_append, nz_tt, ih]
theorem nz_fd (f : FD) (d : Nat) : f.cells.map (nz d) = f.cells := by
  cases d with
  | zero => simp [nz]
  | succ d => simp [FD.cells, nz_int, nz_str, nz_bool, encL, nz_sl, nz_ls, nz_tts]
theorem nz_fds (l : List FD) (d : Nat) : (l.flatMap FD.cells).map (nz d) = l.flatMap FD.cells := by
  induction l with
  | nil => rfl
  | cons x l ih => rw [List.flatMap_cons, List.map_append, nz_fd, ih]
theorem nz_st (f : ST) (d : Nat) : f.cells.map (nz d) = f.cells := by
  cases d with
  | zero => simp [nz]
  | succ d => simp [ST.cells, nz_int, nz_str, nz_bool, encL, nz_sl, nz_ls, nz_fds]
theorem TTA : type_of% (And.intro @TT.c0 (And.intro @TT.c1 (And.intro @TT.c2 (And.intro @TT.c3 (And.intro @TT.call (And.intro @TT.snapc (And.intro @TT.sokc (And.intro @TT.onec (And.intro @TT.imvc (And.intro @TT.len (And.intro @TT.ld (And.intro @TT.ld0 (And.intro @FD.c0 (And.intro @FD.c1 (And.intro @FD.c2 (And.intro @FD.c3 (And.intro @FD.c4 (And.intro @FD.c5 (And.intro @FD.call (And.intro @FD.s2_4 (And.intro @FD.snapc (And.intro @FD.sokc (And.intro @FD.onec (And.intro @FD.imvc (And.intro @FD.len (And.intro @ST.c0 (And.intro @ST.c1 (And.intro @ST.c2 (And.intro @ST.c3 (And.intro @ST.c4 (And.intro @ST.call (And.intro @ST.snapc (And.intro @ST.sokc (And.intro @ST.onec (And.intro @ST.imvc (And.intro @ST.len (And.intro @FD.ld (And.intro @FD.ld0 (And.intro @ST.ld (@ST.ld0)))))))))))))))))))))))))))))))))))))))) := And.intro @TT.c0 (And.intro @TT.c1 (And.intro @TT.c2 (And.intro @TT.c3 (And.intro @TT.call (And.intro @TT.snapc (And.intro @TT.sokc (And.intro @TT.onec (And.intro @TT.imvc (And.intro @TT.len (And.intro @TT.ld (And.intro @TT.ld0 (And.intro @FD.c0 (And.intro @FD.c1 (And.intro @FD.c2 (And.intro @FD.c3 (And.intro @FD.c4 (And.intro @FD.c5 (And.intro @FD.call (And.intro @FD.s2_4 (And.intro @FD.snapc (And.intro @FD.sokc (And.intro @FD.onec (And.intro @FD.imvc (And.intro @FD.len (And.intro @ST.c0 (And.intro @ST.c1 (And.intro @ST.c2 (And.intro @ST.c3 (And.intro @ST.c4 (And.intro @ST.call (And.intro @ST.snapc (And.intro @ST.sokc (And.intro @ST.onec (And.intro @ST.imvc (And.intro @ST.len (And.intro @FD.ld (And.intro @FD.ld0 (And.intro @ST.ld (@ST.ld0)))))))))))))))))))))))))))))))))))))))
theorem LDA : type_of% (And.intro @ldc0 (And.intro @ldc1 (And.intro @ldc2 (And.intro @ldc3 (And.intro @ldc4 (And.intro @gt0 (And.intro @gt1 (And.intro @gt2 (And.intro @lda5 (@lda4)))))))))) := And.intro @ldc0 (And.intro @ldc1 (And.intro @ldc2 (And.intro @ldc3 (And.intro @ldc4 (And.intro @gt0 (And.intro @gt1 (And.intro @gt2 (And.intro @lda5 (@lda4)))))))))
theorem NZA : type_of% (And.intro @nz_tup (And.intro @nz_agg (And.intro @nz_int (And.intro @nz_bool (And.intro @nz_str (And.intro @nz_e0 (And.intro @nz_sl (And.intro @nz_li (And.intro @nz_ls (And.intro @nz_rt (And.intro @nz_rts (And.intro @nz_call (And.intro @nz_nili (And.intro @nz_tt (And.intro @nz_tts (And.intro @nz_fds (@nz_st))))))))))))))))) := And.intro @nz_tup (And.intro @nz_agg (And.intro @nz_int (And.intro @nz_bool (And.intro @nz_str (And.intro @nz_e0 (And.intro @nz_sl (And.intro @nz_li (And.intro @nz_ls (And.intro @nz_rt (And.intro @nz_rts (And.intro @nz_call (And.intro @nz_nili (And.intro @nz_tt (And.intro @nz_tts (And.intro @nz_fds (@nz_st))))))))))))))))
end Go.Lg

namespace Go.Proofs.YtgpeaibhhonikaaGreatDoor
open Go Go.Lg Go.Lg.Sh
set_option maxRecDepth 100000

def lcq21 : LC := .seq (.rego 0 [o 2 0, b0 4]) (.keep [1, 2] (.seq (.rego 1 [m 5 1, ⟨some 6, .bin .leq (.tmp 5) (.con (.int .i64 0)), none⟩, m 7 6, g 7 (f 8 3 2), g 7 (l 9 1 8), g 7 (n 10 9), ⟨some 11, .bin .gtr (.tmp 10) (.con (.int .i64 2)), some ⟨7, false⟩⟩, q 12 7 11, m 13 12, g 13 (f 14 2 2), g 13 (l 15 1 14), g 13 (n 16 15), ⟨some 17, .bin .gtr (.tmp 16) (.con (.int .i64 70)), some ⟨13, false⟩⟩, q 18 13 17, m 19 18, g 19 (f 20 3 2), g 19 (l 21 1 20), g 19 (n 22 21), ⟨some 23, .bin .gtr (.tmp 22) (.con (.int .i64 0)), some ⟨19, false⟩⟩, g 19 (m 24 23), h 24 (f 25 3 2), h 24 (l 26 1 25), ⟨some 27, .iaS 4 (.tmp 26) (.con (.int .i64 0)), some ⟨24, true⟩⟩, h 24 (L 28 4 27), h 24 (m 29 1), ⟨some 30, .bin .sub (.tmp 29) (.con (.int .i64 1)), some ⟨24, true⟩⟩, h 24 (C 31 21 28 30), g 19 (p 32 24 31), q 33 19 32, m 4 33]) .ret))
theorem fdq21 : fnData Tryz.prog 21 = some (34, lcq21.erase, [LRV.tmp 4]) := by kernel_rfl

def lcq22 : LC := .seq (.rego 0 [o 5 1, ⟨some 8, .new [.int .i64 0, .str { data := #[] }, .e0, .e0], none⟩, i 9 0]) (.keep [0, 2, 3, 5, 8] (.seq (.rego 1 [f 16 0 5, l 17 1 16, f 18 1 5, l 19 1 18, ⟨some 20, .build [.int .i64 0, .str { data := #[] }, .e0, .e0] [⟨0, 1, .tmp 17⟩, ⟨1, 1, .tmp 19⟩], none⟩, ⟨some 10, .new [.int .i64 0, .str { data := #[] }, .e0, .e0], none⟩, W 4 10 20]) (.keep [0, 2, 3, 5, 8, 10] (.join (.seq (.rego 2 [f 21 0 5, l 22 1 21]) (.keep [0, 2, 3, 5, 8, 10, 22] (.block 0 (.seq (.seq (.rego 3 [e 24 22 4, m 23 24]) (.keep [0, 2, 3, 5, 8, 10, 22, 23] (.cond (.tmp 23) .skip (.keep [0, 2, 3, 5, 8, 10, 22] (.rego 4 [e 25 22 5, m 23 25]))))) (.keep [0, 2, 3, 5, 8, 10, 22, 23] (.cond (.tmp 23) (.keep [0, 2, 3, 5, 8, 10] (.seq (.seq (.rego 5 [f 26 2 5, l 27 1 26, n 28 27, e 29 28 0]) (.keep [0, 2, 3, 5, 8, 10, 29] (.cond (.tmp 29) (.keep [0, 2, 3, 5, 8, 10] (.seq (.rego 6 [m 30 3, ⟨some 31, .bsl 1 [.int .i64 0] [⟨0, 1, .tmp 30⟩], none⟩, m 32 3, a 33 32 1, f 34 2 10, W 1 34 31, m 3 33]) (.exit 0))) .skip))) (.keep [0, 2, 3, 5, 8, 10] (.rego 7 [m 35 2, f 36 2 5, l 37 1 36, ⟨some 38, .iaS 1 (.tmp 37) (.con (.int .i64 0)), none⟩, l 39 1 38, C 40 53 35 39, ⟨some 41, .bsl 1 [.int .i64 0] [⟨0, 1, .tmp 40⟩], none⟩, f 42 2 10, W 1 42 41])))) (.keep [0, 2, 3, 5, 8, 10, 22] (.seq (.rego 8 [e 44 22 3, m 43 44]) (.keep [0, 2, 3, 5, 8, 10, 43] (.cond (.tmp 43) (.keep [0, 2, 3, 5, 8, 10] (.seq (.seq (.rego 9 [f 45 2 5, l 46 1 45, n 47 46, i 48 0]) (.keep [0, 2, 3, 5, 8, 10, 46, 47, 48] (.block 1 (.loop (.seq (.rego 10 [s 49 48 47]) (.keep [0, 2, 3, 5, 8, 10, 46, 47, 48, 49] (.seq (.cond (.tmp 49) .skip (.exit 1)) (.keep [0, 2, 3, 5, 8, 10, 46, 47, 48] (.seq (.block 2 (.seq (.rego 11 [x 50 1 46 48, l 51 1 50, m 12 51]) (.keep [0, 2, 3, 5, 8, 10, 12, 46, 47, 48] (.regf 12 [0, 1, 0, 0, 12, 28, 63, 127, 255] [f 52 2 10, l 53 1 52, m 54 2, m 55 12, C 56 53 54 55, ⟨some 57, .bsl 1 [.int .i64 0] [⟨0, 1, .tmp 56⟩], none⟩, ⟨some 58, .app 1 8 (.tmp 53) (.tmp 57), none⟩, f 59 2 10, W 1 59 58])))) (.keep [0, 2, 3, 5, 8, 10, 46, 47, 48] (.rego 13 [a 60 48 1, m 48 60]))))))))))) (.keep [0, 2, 3, 5, 8, 10] (.seq (.rego 14 [m 62 0, f 63 1 5, l 64 1 63, C 65 54 62 64, m 61 65, X 66 61 0, X 67 61 1, ⟨some 13, .new [.bool false, .str { data := #[] }, .e0, .e0, .int .i64 0], none⟩, W 5 13 66, m 14 67]) (.keep [0, 2, 3, 5, 8, 10, 13, 14] (.seq (.rego 15 [m 68 14, m 69 68, h 69 (f 70 2 5), h 69 (l 71 1 70), h 69 (n 72 71), h 69 (e 73 72 0), p 74 69 73]) (.keep [0, 2, 3, 5, 8, 10, 13, 74] (.cond (.tmp 74) (.keep [0, 2, 3, 5, 8, 10, 13] (.seq (.rego 16 [f 75 2 13, l 76 1 75, n 77 76, i 78 0]) (.keep [0, 2, 3, 5, 8, 10, 77, 78] (.block 3 (.loop (.seq (.rego 17 [s 79 78 77]) (.keep [0, 2, 3, 5, 8, 10, 77, 78, 79] (.seq (.cond (.tmp 79) .skip (.exit 3)) (.keep [0, 2, 3, 5, 8, 10, 77, 78] (.seq (.block 4 (.rego 18 [f 80 2 10, l 81 1 80, m 82 3, ⟨some 83, .bsl 1 [.int .i64 0] [⟨0, 1, .tmp 82⟩], none⟩, ⟨some 84, .app 1 8 (.tmp 81) (.tmp 83), none⟩, m 85 3, a 86 85 1, f 87 2 10, W 1 87 84, m 3 86])) (.keep [0, 2, 3, 5, 8, 10, 77, 78] (.rego 19 [a 88 78 1, m 78 88])))))))))))) .skip)))))))) .skip)))))))))) (.keep [0, 2, 3, 5, 8, 10] (.seq (.seq (.rego 20 [f 89 0 5, l 90 1 89, c 91 55 90, m 92 91, h 92 (f 93 3 5), h 92 (l 94 1 93), h 92 (n 95 94), ⟨some 96, .bin .gtr (.tmp 95) (.con (.int .i64 0)), some ⟨92, true⟩⟩, p 97 92 96]) (.keep [0, 2, 3, 5, 8, 10, 97] (.cond (.tmp 97) (.keep [0, 2, 3, 5, 8, 10] (.seq (.rego 21 [⟨some 15, .new [.int .i64 0, .str { data := #[] }, .e0, .e0], none⟩]) (.keep [0, 2, 3, 5, 8, 10, 15] (.seq (.rego 22 [m 99 0, f 100 3 5, l 101 1 100, ⟨some 102, .iaS 4 (.tmp 101) (.con (.int .i64 0)), none⟩, L 103 4 102, m 104 2, m 105 3, ⟨some 106, .call 22 [.tmp 99, .tmp 103, .tmp 104, .tmp 105], none⟩, m 98 106, X 107 98 0, X 108 98 1, W 4 15 107, m 3 108]) (.keep [3, 8, 10, 15] (.rego 23 [L 109 4 15, ⟨some 110, .bsl 1 [.int .i64 0, .str { data := #[] }, .e0, .e0] [⟨0, 4, .tmp 109⟩], none⟩, f 111 3 10, W 1 111 110])))))) .skip))) (.keep [3, 8, 10] (.seq (.rego 24 [L 112 4 10, m 113 3, W 4 8 112, m 9 113]) .ret))))))))
theorem fdq22 : fnData Tryz.prog 22 = some (114, lcq22.erase, [LRV.cell 8 true 4, LRV.tmp 9]) := by kernel_rfl

def lcq23 : LC := .seq (.rego 0 [o 5 1, ⟨some 8, .new [.int .i64 0, .str { data := #[] }, .e0, .e0], none⟩, i 9 0]) (.keep [0, 2, 3, 5, 8] (.seq (.rego 1 [f 17 0 5, l 18 1 17, f 19 1 5, l 20 1 19, ⟨some 21, .build [.int .i64 0, .str { data := #[] }, .e0, .e0] [⟨0, 1, .tmp 18⟩, ⟨1, 1, .tmp 20⟩], none⟩, ⟨some 10, .new [.int .i64 0, .str { data := #[] }, .e0, .e0], none⟩, W 4 10 21]) (.keep [0, 2, 3, 5, 8, 10] (.seq (.seq (.rego 2 [f 22 0 5, l 23 1 22]) (.keep [0, 2, 3, 5, 8, 10, 23] (.block 0 (.seq (.rego 3 [e 25 23 3, m 24 25]) (.keep [0, 2, 3, 5, 8, 10, 23, 24] (.cond (.tmp 24) (.keep [0, 2, 3, 5, 8, 10] (.seq (.seq (.rego 4 [i 11 0]) (.keep [0, 2, 3, 5, 8, 10, 11] (.block 1 (.loop (.seq (.seq (.rego 5 [m 26 11, f 27 2 5, l 28 1 27, n 29 28, s 30 26 29]) (.keep [0, 2, 3, 5, 8, 10, 11, 30] (.cond (.tmp 30) .skip (.exit 1)))) (.keep [0, 2, 3, 5, 8, 10, 11] (.seq (.block 2 (.regf 7 [0, 1, 0, 0, 8, 0, 56, 120, 252, 508, 1023, 2047, 4095] [f 33 2 10, l 34 1 33, m 35 2, f 36 2 5, l 37 1 36, m 38 11, x 39 1 37 38, l 40 1 39, C 41 56 35 40, ⟨some 42, .bsl 1 [.int .i64 0] [⟨0, 1, .tmp 41⟩], none⟩, ⟨some 43, .app 1 8 (.tmp 34) (.tmp 42), none⟩, f 44 2 10, W 1 44 43])) (.keep [0, 2, 3, 5, 8, 10, 11] (.rego 6 [m 31 11, a 32 31 1, m 11 32]))))))))) (.keep [0, 3, 5, 8, 10] (.seq (.rego 8 [m 46 0, f 47 1 5, l 48 1 47, C 49 57 46 48, m 45 49, X 50 45 0, X 51 45 1, ⟨some 12, .new [.bool false, .str { data := #[] }, .e0, .e0, .int .i64 0], none⟩, W 5 12 50, m 13 51]) (.keep [3, 5, 8, 10, 12] (.seq (.rego 9 [i 14 0]) (.keep [3, 5, 8, 10, 12, 14] (.block 3 (.loop (.seq (.seq (.rego 10 [m 52 14, f 53 2 12, l 54 1 53, n 55 54, s 56 52 55, m 57 56, h 57 (f 58 2 5), h 57 (l 59 1 58), h 57 (n 60 59), h 57 (e 61 60 0), p 62 57 61]) (.keep [3, 5, 8, 10, 12, 14, 62] (.cond (.tmp 62) .skip (.exit 3)))) (.keep [3, 5, 8, 10, 12, 14] (.seq (.block 4 (.seq (.rego 12 [f 65 2 10, l 66 1 65, m 67 3, ⟨some 68, .bsl 1 [.int .i64 0] [⟨0, 1, .tmp 67⟩], none⟩, ⟨some 69, .app 1 8 (.tmp 66) (.tmp 68), none⟩, f 70 2 10, W 1 70 69]) (.keep [3, 5, 8, 10, 12, 14] (.rego 13 [m 71 3, a 72 71 1, m 3 72])))) (.keep [3, 5, 8, 10, 12, 14] (.rego 11 [m 63 14, a 64 63 1, m 14 64])))))))))))))) (.keep [0, 2, 3, 5, 8, 10, 23] (.seq (.seq (.rego 14 [e 74 23 4, m 73 74]) (.keep [0, 2, 3, 5, 8, 10, 23, 73] (.cond (.tmp 73) .skip (.keep [0, 2, 3, 5, 8, 10, 23] (.rego 15 [e 75 23 5, m 73 75]))))) (.keep [0, 2, 3, 5, 8, 10, 73] (.cond (.tmp 73) (.keep [0, 2, 3, 5, 8, 10] (.seq (.seq (.rego 16 [f 76 2 5, l 77 1 76, n 78 77, ⟨some 79, .bin .gtr (.tmp 78) (.con (.int .i64 0)), none⟩]) (.keep [0, 2, 3, 5, 8, 10, 79] (.cond (.tmp 79) (.keep [0, 2, 3, 5, 8, 10] (.rego 17 [m 80 2, f 81 2 5, l 82 1 81, ⟨some 83, .iaS 1 (.tmp 82) (.con (.int .i64 0)), none⟩, l 84 1 83, C 85 56 80 84, ⟨some 86, .bsl 1 [.int .i64 0] [⟨0, 1, .tmp 85⟩], none⟩, f 87 2 10, W 1 87 86])) (.keep [0, 2, 3, 5, 8, 10] (.seq (.rego 18 [m 88 3, ⟨some 89, .bsl 1 [.int .i64 0] [⟨0, 1, .tmp 88⟩], none⟩, f 90 2 10, W 1 90 89]) (.keep [0, 2, 3, 5, 8, 10] (.rego 19 [m 91 3, a 92 91 1, m 3 92]))))))) (.keep [0, 2, 3, 5, 8, 10] (.seq (.rego 20 [f 93 3 5, l 94 1 93, n 95 94, ⟨some 96, .bin .gtr (.tmp 95) (.con (.int .i64 0)), none⟩]) (.keep [0, 2, 3, 5, 8, 10, 96] (.cond (.tmp 96) (.keep [0, 2, 3, 5, 8, 10] (.seq (.rego 21 [m 98 0, f 99 3 5, l 100 1 99, ⟨some 101, .iaS 4 (.tmp 100) (.con (.int .i64 0)), none⟩, L 102 4 101, m 103 2, m 104 3, ⟨some 105, .call 23 [.tmp 98, .tmp 102, .tmp 103, .tmp 104], none⟩, m 97 105, X 106 97 0, X 107 97 1, ⟨some 15, .new [.int .i64 0, .str { data := #[] }, .e0, .e0], none⟩, W 4 15 106, m 16 107]) (.keep [8, 10, 15, 16] (.seq (.rego 22 [L 108 4 15, ⟨some 109, .bsl 1 [.int .i64 0, .str { data := #[] }, .e0, .e0] [⟨0, 4, .tmp 108⟩], none⟩, f 110 3 10, W 1 110 109]) (.keep [8, 10, 16] (.rego 23 [m 111 16, m 3 111])))))) .skip)))))) .skip)))))))))) (.keep [3, 8, 10] (.seq (.rego 24 [L 112 4 10, m 113 3, W 4 8 112, m 9 113]) .ret))))))
theorem fdq23 : fnData Tryz.prog 23 = some (114, lcq23.erase, [LRV.cell 8 true 4, LRV.tmp 9]) := by kernel_rfl

def lcq29 : LC := .seq (.rego 0 [b0 6]) (.keep [0, 1, 2] (.seq (.rego 1 [m 10 0, c 11 43 10, m 9 11, X 12 9 0, X 13 9 1, m 7 12, m 8 13]) (.keep [1, 2, 7, 8] (.seq (.rego 2 [m 14 7, m 15 1, E 16 14 15, m 17 16, h 17 (m 18 8), h 17 (m 19 2), h 17 (E 20 18 19), p 21 17 20, m 6 21]) .ret))))
theorem fdq29 : fnData Tryz.prog 29 = some (22, lcq29.erase, [LRV.tmp 6]) := by kernel_rfl

def lcq30 : LC := .seq (.rego 0 [b0 4]) (.keep [0, 1] (.seq (.seq (.rego 1 [m 6 0, n 7 6, m 8 1, n 9 8, ⟨some 10, .bin .neq (.tmp 7) (.tmp 9), none⟩]) (.keep [0, 1, 10] (.cond (.tmp 10) (.keep [] (.seq (.rego 2 [b0 4]) .ret)) .skip))) (.keep [0, 1] (.seq (.seq (.rego 3 [i 5 0]) (.keep [0, 1, 5] (.block 0 (.loop (.seq (.seq (.rego 4 [m 11 5, m 12 0, n 13 12, s 14 11 13]) (.keep [0, 1, 5, 14] (.cond (.tmp 14) .skip (.exit 0)))) (.keep [0, 1, 5] (.seq (.block 1 (.seq (.reg 6 [m 17 0, m 18 5, x 19 1 17 18, l 20 1 19, m 21 1, m 22 5, x 23 1 21 22, l 24 1 23, ⟨some 25, .bin .neq (.tmp 20) (.tmp 24), none⟩]) (.keep [0, 1, 5, 25] (.cond (.tmp 25) (.keep [] (.seq (.rego 7 [b0 4]) .ret)) .skip)))) (.keep [0, 1, 5] (.rego 5 [m 15 5, a 16 15 1, m 5 16]))))))))) (.keep [] (.seq (.rego 8 [b1 4]) .ret))))))
theorem fdq30 : fnData Tryz.prog 30 = some (26, lcq30.erase, [LRV.tmp 4]) := by kernel_rfl

def lcq43 : LC := .seq (.rego 0 [i 2 0, i 3 0]) (.keep [0] (.seq (.seq (.rego 1 [m 11 0, ⟨some 12, .eqi false true (.tmp 11) (.con .nili), none⟩]) (.keep [0, 12] (.cond (.tmp 12) (.keep [] (.seq (.rego 2 [i 2 0, i 3 0]) .ret)) .skip))) (.keep [0] (.seq (.rego 3 [m 14 0, ⟨some 15, .tas 116 .nilp (.tmp 14), none⟩, m 13 15, X 16 13 0, X 17 13 1, m 4 16, m 5 17]) (.keep [4, 5] (.seq (.seq (.rego 4 [m 18 5, u 19 18, m 20 19, g 20 (m 21 4), ⟨some 22, .eqp false (.tmp 21) (.con .nilp), some ⟨20, false⟩⟩, q 23 20 22]) (.keep [4, 23] (.cond (.tmp 23) (.keep [] (.seq (.rego 5 [⟨some 2, .mov (.con (.int .i64 (-1))), none⟩, i 3 0]) .ret)) .skip))) (.keep [4] (.seq (.reg 6 [m 24 4, k 25 24, f 26 0 25, l 27 1 26, m 28 4, k 29 28, f 30 1 29, l 31 1 30, m 6 27, m 7 31]) (.keep [4, 6, 7] (.seq (.seq (.rego 7 [i 8 0]) (.keep [4, 6, 7, 8] (.block 0 (.loop (.seq (.seq (.rego 8 [m 32 8, ⟨some 33, .bin .lss (.tmp 32) (.con (.int .i64 200)), none⟩]) (.keep [4, 6, 7, 8, 33] (.cond (.tmp 33) .skip (.exit 0)))) (.keep [4, 6, 7, 8] (.seq (.block 1 (.seq (.rego 10 [m 37 4, k 38 37, f 39 2 38, l 40 1 39, ⟨some 41, .tas 116 .nilp (.tmp 40), none⟩, m 36 41, X 42 36 0, X 43 36 1, m 9 42, m 10 43]) (.keep [6, 7, 8, 9, 10] (.seq (.seq (.rego 11 [m 44 10, u 45 44, m 46 45, g 46 (m 47 9), ⟨some 48, .eqp false (.tmp 47) (.con .nilp), some ⟨46, false⟩⟩, q 49 46 48]) (.keep [6, 7, 8, 9, 49] (.cond (.tmp 49) (.exit 0) .skip))) (.keep [6, 8, 9] (.seq (.rego 12 [m 50 9, m 4 50]) (.keep [4, 6, 8] (.rego 13 [m 51 4, k 52 51, f 53 1 52, l 54 1 53, m 7 54])))))))) (.keep [4, 6, 7, 8] (.rego 9 [m 34 8, a 35 34 1, m 8 35]))))))))) (.keep [6, 7] (.seq (.rego 14 [m 55 6, m 56 7, m 2 55, m 3 56]) .ret))))))))))))
theorem fdq43 : fnData Tryz.prog 43 = some (57, lcq43.erase, [LRV.tmp 2, LRV.tmp 3]) := by kernel_rfl

def lcq53 : LC := .seq (.rego 0 [i 4 0]) (.keep [0, 1] (.seq (.seq (.rego 1 [m 6 0, n 7 6, i 8 0]) (.keep [0, 1, 7, 8] (.block 0 (.loop (.seq (.rego 2 [s 9 8 7]) (.keep [0, 1, 7, 8, 9] (.seq (.cond (.tmp 9) .skip (.exit 0)) (.keep [0, 1, 7, 8] (.seq (.block 1 (.seq (.rego 3 [m 10 8, m 5 10]) (.keep [0, 1, 5, 7, 8] (.seq (.rego 4 [m 11 1, m 12 0, m 13 5, x 14 1 12 13, l 15 1 14, E 16 11 15]) (.keep [0, 1, 5, 7, 8, 16] (.cond (.tmp 16) (.keep [5] (.seq (.rego 5 [m 17 5, m 4 17]) .ret)) .skip)))))) (.keep [0, 1, 7, 8] (.rego 6 [a 18 8 1, m 8 18]))))))))))) (.keep [] (.seq (.rego 7 [⟨some 4, .mov (.con (.int .i64 (-1))), none⟩]) .ret))))
theorem fdq53 : fnData Tryz.prog 53 = some (19, lcq53.erase, [LRV.tmp 4]) := by kernel_rfl

def lcq54 : LC := .seq (.rego 0 [⟨some 4, .new [.bool false, .str { data := #[] }, .e0, .e0, .int .i64 0], none⟩, b0 5]) (.keep [0, 1, 4] (.seq (.seq (.rego 1 [m 8 0, ⟨some 9, .eqp false (.tmp 8) (.con .nilp), none⟩]) (.keep [0, 1, 4, 9] (.cond (.tmp 9) (.keep [4] (.seq (.rego 2 [⟨some 10, .build [.bool false, .str { data := #[] }, .e0, .e0, .int .i64 0] [], none⟩, W 5 4 10, b0 5]) .ret)) .skip))) (.keep [0, 1, 4] (.seq (.rego 3 [m 12 0, k 13 12, f 14 0 13, l 15 1 14, m 16 1, ⟨some 17, .mlk KT.str true (.agg [.bool false, .str { data := #[] }, .e0, .e0, .int .i64 0]) (.tmp 15) (.tmp 16), none⟩, m 11 17, X 18 11 0, X 19 11 1, ⟨some 6, .new [.bool false, .str { data := #[] }, .e0, .e0, .int .i64 0], none⟩, W 5 6 18, m 7 19]) (.keep [4, 6, 7] (.seq (.rego 4 [L 20 5 6, c 21 74 20, m 22 7, W 5 4 21, m 5 22]) .ret))))))
theorem fdq54 : fnData Tryz.prog 54 = some (23, lcq54.erase, [LRV.cell 4 true 5, LRV.tmp 5]) := by kernel_rfl

def lcq56 : LC := .seq (.rego 0 [i 4 0]) (.keep [0, 1] (.seq (.seq (.rego 1 [i 5 0]) (.keep [0, 1, 5] (.block 0 (.loop (.seq (.seq (.rego 2 [m 6 5, m 7 0, n 8 7, s 9 6 8]) (.keep [0, 1, 5, 9] (.cond (.tmp 9) .skip (.exit 0)))) (.keep [0, 1, 5] (.seq (.block 1 (.seq (.rego 4 [m 12 0, m 13 5, x 14 1 12 13, l 15 1 14, m 16 1, E 17 15 16]) (.keep [0, 1, 5, 17] (.cond (.tmp 17) (.keep [5] (.seq (.rego 5 [m 18 5, m 4 18]) .ret)) .skip)))) (.keep [0, 1, 5] (.rego 3 [m 10 5, a 11 10 1, m 5 11]))))))))) (.keep [] (.seq (.rego 6 [⟨some 4, .mov (.con (.int .i64 (-1))), none⟩]) .ret))))
theorem fdq56 : fnData Tryz.prog 56 = some (19, lcq56.erase, [LRV.tmp 4]) := by kernel_rfl

def lcq57 : LC := .seq (.rego 0 [⟨some 4, .new [.bool false, .str { data := #[] }, .e0, .e0, .int .i64 0], none⟩, b0 5]) (.keep [0, 1, 4] (.seq (.seq (.rego 1 [i 6 0]) (.keep [0, 1, 4, 6] (.block 0 (.loop (.seq (.seq (.rego 2 [m 11 6, m 12 0, k 13 12, f 14 0 13, f 15 0 14, l 16 1 15, n 17 16, s 18 11 17]) (.keep [0, 1, 4, 6, 18] (.cond (.tmp 18) .skip (.exit 0)))) (.keep [0, 1, 4, 6] (.seq (.block 1 (.seq (.rego 4 [m 21 0, k 22 21, f 23 0 22, f 24 0 23, l 25 1 24, m 26 6, x 27 5 25 26, f 28 1 27, l 29 1 28, m 30 1, E 31 29 30]) (.keep [0, 1, 4, 6, 31] (.cond (.tmp 31) (.keep [0, 4, 6] (.seq (.rego 5 [m 32 0, k 33 32, f 34 0 33, f 35 0 34, l 36 1 35, m 37 6, x 38 5 36 37, L 39 5 38, W 5 4 39, b1 5]) .ret)) .skip)))) (.keep [0, 1, 4, 6] (.rego 3 [m 19 6, a 20 19 1, m 6 20]))))))))) (.keep [0, 1, 4] (.seq (.seq (.rego 6 [i 7 0]) (.keep [0, 1, 4, 7] (.block 2 (.loop (.seq (.seq (.rego 7 [m 40 7, m 41 0, k 42 41, f 43 2 42, l 44 1 43, n 45 44, s 46 40 45]) (.keep [0, 1, 4, 7, 46] (.cond (.tmp 46) .skip (.exit 2)))) (.keep [0, 1, 4, 7] (.seq (.block 3 (.seq (.rego 9 [m 49 0, k 50 49, f 51 2 50, l 52 1 51, m 53 7, x 54 3 52 53, L 55 3 54, ⟨some 8, .new [.str { data := #[] }, .e0, .e0], none⟩, W 3 8 55]) (.keep [0, 1, 4, 7, 8] (.seq (.rego 10 [i 9 0]) (.keep [0, 1, 4, 7, 8, 9] (.block 4 (.loop (.seq (.seq (.rego 11 [m 56 9, f 57 1 8, l 58 1 57, n 59 58, s 60 56 59]) (.keep [0, 1, 4, 7, 8, 9, 60] (.cond (.tmp 60) .skip (.exit 4)))) (.keep [0, 1, 4, 7, 8, 9] (.seq (.block 5 (.seq (.rego 13 [f 63 1 8, l 64 1 63, m 65 9, x 66 5 64 65, L 67 5 66, ⟨some 10, .new [.bool false, .str { data := #[] }, .e0, .e0, .int .i64 0], none⟩, W 5 10 67]) (.keep [0, 1, 4, 7, 8, 9, 10] (.seq (.rego 14 [f 68 0 8, l 69 1 68, ⟨some 70, .bin .add (.tmp 69) (.con (.str { data := #[58, 58] })), none⟩, f 71 1 10, l 72 1 71, ⟨some 73, .bin .add (.tmp 70) (.tmp 72), none⟩, m 74 1, E 75 73 74]) (.keep [0, 1, 4, 7, 8, 9, 10, 75] (.cond (.tmp 75) (.keep [1, 4, 8, 10] (.seq (.rego 15 [m 76 1, f 77 1 10, W 1 77 76]) (.keep [4, 8, 10] (.seq (.rego 16 [f 78 3 10, l 79 1 78, f 80 0 8, l 81 1 80, C 82 82 79 81, f 83 3 10, W 1 83 82]) (.keep [4, 10] (.seq (.rego 17 [L 84 5 10, W 5 4 84, b1 5]) .ret)))))) .skip)))))) (.keep [0, 1, 4, 7, 8, 9] (.rego 12 [m 61 9, a 62 61 1, m 9 62])))))))))))) (.keep [0, 1, 4, 7] (.rego 8 [m 47 7, a 48 47 1, m 7 48]))))))))) (.keep [4] (.seq (.rego 18 [⟨some 85, .build [.bool false, .str { data := #[] }, .e0, .e0, .int .i64 0] [], none⟩, W 5 4 85, b0 5]) .ret))))))
theorem fdq57 : fnData Tryz.prog 57 = some (86, lcq57.erase, [LRV.cell 4 true 5, LRV.tmp 5]) := by kernel_rfl

def lcq58 : LC := .seq (.rego 0 [o 4 1, ⟨some 6, .new [.int .i64 0, .str { data := #[] }, .e0, .e0], none⟩, i 7 0]) (.keep [0, 2, 4, 6] (.seq (.rego 1 [m 15 0, f 16 1 4, l 17 1 16, C 18 54 15 17, m 14 18, X 19 14 0, X 20 14 1, ⟨some 8, .new [.bool false, .str { data := #[] }, .e0, .e0, .int .i64 0], none⟩, W 5 8 19, m 9 20]) (.keep [0, 2, 4, 6, 8, 9] (.seq (.seq (.rego 2 [f 21 0 4, l 22 1 21, N 23 22 3, m 24 23, g 24 (m 25 9), g 24 (u 26 25), q 27 24 26]) (.keep [0, 2, 4, 6, 8, 27] (.cond (.tmp 27) (.keep [4, 6] (.seq (.rego 3 [L 28 4 4, W 4 6 28, i 7 25]) .ret)) .skip))) (.keep [0, 2, 4, 6, 8] (.seq (.seq (.rego 4 [f 29 3 8, l 30 1 29, n 31 30, i 32 0]) (.keep [0, 2, 4, 6, 8, 30, 31, 32] (.block 0 (.loop (.seq (.rego 5 [s 33 32 31]) (.keep [0, 2, 4, 6, 8, 30, 31, 32, 33] (.seq (.cond (.tmp 33) .skip (.exit 0)) (.keep [0, 2, 4, 6, 8, 30, 31, 32] (.seq (.block 1 (.seq (.rego 6 [x 34 6 30 32, L 35 6 34, ⟨some 11, .new [.bool false, .str { data := #[] }, .int .i64 0, .str { data := #[] }, .e0, .e0], none⟩, W 6 11 35]) (.keep [0, 2, 4, 6, 8, 11, 30, 31, 32] (.seq (.rego 7 [f 36 1 11, l 37 1 36, m 38 2, E 39 37 38]) (.keep [0, 2, 4, 6, 8, 11, 30, 31, 32, 39] (.cond (.tmp 39) (.keep [0, 4, 6, 8, 11] (.seq (.rego 8 [m 41 0, f 42 2 11, L 43 4 42, f 44 2 8, l 45 1 44, f 46 2 8, l 47 1 46, n 48 47, ⟨some 49, .call 22 [.tmp 41, .tmp 43, .tmp 45, .tmp 48], none⟩, m 40 49, X 50 40 0, X 51 40 1, ⟨some 12, .new [.int .i64 0, .str { data := #[] }, .e0, .e0], none⟩, W 4 12 50, m 13 51]) (.keep [4, 6, 12] (.seq (.rego 9 [L 52 4 12, f 53 2 4, l 54 1 53, C 55 28 52 54, W 4 6 55, i 7 0]) .ret)))) .skip)))))) (.keep [0, 2, 4, 6, 8, 30, 31, 32] (.rego 10 [a 56 32 1, m 32 56]))))))))))) (.keep [4, 6] (.seq (.rego 11 [L 57 4 4, W 4 6 57, i 7 22]) .ret))))))))
theorem fdq58 : fnData Tryz.prog 58 = some (58, lcq58.erase, [LRV.cell 6 true 4, LRV.tmp 7]) := by kernel_rfl

def lcq59 : LC := .seq (.rego 0 [⟨some 4, .mov (.con .nili), none⟩]) (.keep [0, 1] (.seq (.seq (.rego 1 [m 5 0, e 6 5 0]) (.keep [0, 1, 6] (.cond (.tmp 6) (.keep [] (.seq (.rego 2 [⟨some 4, .mov (.con .nili), none⟩]) .ret)) .skip))) (.keep [0, 1] (.seq (.rego 3 [m 7 0, m 8 1, m 9 0, ⟨some 10, .mkifc 98 (.tmp 9), none⟩, ⟨some 11, .build [.int .i64 0, .int .i64 0, .nili] [⟨0, 1, .tmp 7⟩, ⟨1, 1, .tmp 8⟩, ⟨2, 1, .tmp 10⟩], none⟩, o 12 11, ⟨some 13, .mkifc 116 (.tmp 12), none⟩, m 4 13]) .ret))))
theorem fdq59 : fnData Tryz.prog 59 = some (14, lcq59.erase, [LRV.tmp 4]) := by kernel_rfl

def lcq60 : LC := .seq (.rego 0 [o 4 1, ⟨some 6, .new [.int .i64 0, .str { data := #[] }, .e0, .e0], none⟩, i 7 0]) (.keep [0, 2, 4, 6] (.seq (.seq (.rego 1 [m 13 2, ⟨some 14, .bin .eql (.tmp 13) (.con (.str { data := #[42] })), none⟩]) (.keep [0, 2, 4, 6, 14] (.cond (.tmp 14) (.keep [4, 6] (.seq (.seq (.rego 2 [f 15 0 4, l 16 1 15, N 17 16 4, m 18 17, h 18 (f 19 0 4), h 18 (l 20 1 19), h 18 (N 21 20 5), p 22 18 21, m 23 22, g 23 (f 24 3 4), g 23 (l 25 1 24), g 23 (n 26 25), g 23 (e 27 26 0), q 28 23 27]) (.keep [4, 6, 28] (.cond (.tmp 28) (.keep [6] (.seq (.rego 3 [⟨some 29, .build [.int .i64 0, .str { data := #[] }, .e0, .e0] [], none⟩, W 4 6 29, i 7 25]) .ret)) .skip))) (.keep [4, 6] (.seq (.rego 4 [f 30 3 4, l 31 1 30, ⟨some 32, .iaS 4 (.tmp 31) (.con (.int .i64 0)), none⟩, L 33 4 32, W 4 6 33, i 7 0]) .ret)))) .skip))) (.keep [0, 2, 4, 6] (.seq (.rego 5 [m 35 0, f 36 1 4, l 37 1 36, C 38 57 35 37, m 34 38, X 39 34 0, X 40 34 1, ⟨some 8, .new [.bool false, .str { data := #[] }, .e0, .e0, .int .i64 0], none⟩, W 5 8 39, m 9 40]) (.keep [0, 2, 4, 6, 8, 9] (.seq (.seq (.rego 6 [f 41 0 4, l 42 1 41, N 43 42 3, m 44 43, g 44 (m 45 9), g 44 (u 46 45), q 47 44 46]) (.keep [0, 2, 4, 6, 8, 47] (.cond (.tmp 47) (.keep [6] (.seq (.rego 7 [⟨some 48, .build [.int .i64 0, .str { data := #[] }, .e0, .e0] [], none⟩, W 4 6 48, i 7 25]) .ret)) .skip))) (.keep [0, 2, 4, 6, 8] (.seq (.seq (.rego 8 [i 10 0]) (.keep [0, 2, 4, 6, 8, 10] (.block 0 (.loop (.seq (.seq (.rego 9 [m 49 10, f 50 3 8, l 51 1 50, n 52 51, s 53 49 52]) (.keep [0, 2, 4, 6, 8, 10, 53] (.cond (.tmp 53) .skip (.exit 0)))) (.keep [0, 2, 4, 6, 8, 10] (.seq (.block 1 (.seq (.rego 11 [f 56 3 8, l 57 1 56, m 58 10, x 59 6 57 58, f 60 1 59, l 61 1 60, m 62 2, E 63 61 62]) (.keep [0, 2, 4, 6, 8, 10, 63] (.cond (.tmp 63) (.keep [0, 4, 6, 8, 10] (.seq (.regf 12 [0, 0, 2, 0, 14, 30, 62, 0, 128, 511, 1023, 2047, 2047, 0, 12287, 32767] [m 65 0, f 66 3 8, l 67 1 66, m 68 10, x 69 6 67 68, f 70 2 69, L 71 4 70, f 72 2 8, l 73 1 72, ⟨some 74, .call 23 [.tmp 65, .tmp 71, .tmp 73, .con (.int .i64 0)], none⟩, m 64 74, X 75 64 0, X 76 64 1, ⟨some 11, .new [.int .i64 0, .str { data := #[] }, .e0, .e0], none⟩, W 4 11 75, m 12 76]) (.keep [4, 6, 11] (.seq (.rego 13 [L 77 4 11, f 78 2 4, l 79 1 78, C 80 25 77 79, W 4 6 80, i 7 0]) .ret)))) .skip)))) (.keep [0, 2, 4, 6, 8, 10] (.rego 10 [m 54 10, a 55 54 1, m 10 55]))))))))) (.keep [6] (.seq (.rego 14 [⟨some 81, .build [.int .i64 0, .str { data := #[] }, .e0, .e0] [], none⟩, W 4 6 81, i 7 22]) .ret))))))))))
theorem fdq60 : fnData Tryz.prog 60 = some (82, lcq60.erase, [LRV.cell 6 true 4, LRV.tmp 7]) := by kernel_rfl

def lcq26 : LC := .seq (.rego 0 [o 4 1, ⟨some 6, .new [.int .i64 0, .str { data := #[] }, .e0, .e0], none⟩, ⟨some 7, .mov (.con .nili), none⟩]) (.keep [0, 2, 4, 6] (.seq (.rego 1 [L 12 4 4, ⟨some 13, .call 28 [.tmp 12, .con .e0], none⟩, ⟨some 8, .new [.int .i64 0, .str { data := #[] }, .e0, .e0], none⟩, W 4 8 13]) (.keep [0, 2, 6, 8] (.seq (.seq (.rego 2 [m 14 2, n 15 14, i 16 0]) (.keep [0, 6, 8, 14, 15, 16] (.block 0 (.loop (.seq (.rego 3 [s 17 16 15]) (.keep [0, 6, 8, 14, 15, 16, 17] (.seq (.cond (.tmp 17) .skip (.exit 0)) (.keep [0, 6, 8, 14, 15, 16] (.seq (.block 1 (.seq (.rego 4 [m 18 16, x 19 1 14 16, l 20 1 19, m 9 18, m 10 20]) (.keep [0, 6, 8, 9, 10, 14, 15, 16] (.seq (.rego 5 [i 11 0]) (.keep [0, 6, 8, 9, 10, 11, 14, 15, 16] (.seq (.block 2 (.seq (.rego 7 [m 26 10, ⟨some 27, .bin .neq (.tmp 26) (.con (.str { data := #[42] })), none⟩, m 25 27]) (.keep [0, 6, 8, 9, 10, 11, 14, 15, 16, 25] (.cond (.tmp 25) (.keep [0, 6, 8, 9, 10, 14, 15, 16] (.rego 8 [m 29 0, L 30 4 8, m 31 10, ⟨some 32, .call 58 [.tmp 29, .tmp 30, .tmp 31], none⟩, m 28 32, X 33 28 0, X 34 28 1, W 4 8 33, m 11 34])) (.keep [0, 6, 8, 9, 11, 14, 15, 16] (.seq (.rego 9 [f 36 0 8, l 37 1 36, c 38 55 37, u 39 38, m 40 39, g 40 (f 41 3 8), g 40 (l 42 1 41), g 40 (n 43 42), g 40 (e 44 43 0), q 45 40 44, m 35 45]) (.keep [0, 6, 8, 9, 11, 14, 15, 16, 35] (.cond (.tmp 35) (.keep [0, 6, 8, 9, 14, 15, 16] (.rego 10 [i 11 25])) (.keep [0, 6, 8, 9, 11, 14, 15, 16] (.rego 6 [f 21 3 8, l 22 1 21, ⟨some 23, .iaS 4 (.tmp 22) (.con (.int .i64 0)), none⟩, L 24 4 23, W 4 8 24])))))))))) (.keep [0, 6, 8, 9, 11, 14, 15, 16] (.seq (.rego 11 [m 46 11, N 47 46 0]) (.keep [0, 6, 8, 9, 11, 14, 15, 16, 47] (.cond (.tmp 47) (.keep [6, 9, 11] (.seq (.rego 12 [⟨some 48, .build [.int .i64 0, .str { data := #[] }, .e0, .e0] [], none⟩, m 49 11, m 50 9, C 51 59 49 50, W 4 6 48, m 7 51]) .ret)) .skip)))))))))) (.keep [0, 6, 8, 14, 15, 16] (.rego 13 [a 52 16 1, m 16 52]))))))))))) (.keep [6, 8] (.seq (.rego 14 [L 53 4 8, W 4 6 53, ⟨some 7, .mov (.con .nili), none⟩]) .ret))))))
theorem fdq26 : fnData Tryz.prog 26 = some (54, lcq26.erase, [LRV.cell 6 true 4, LRV.tmp 7]) := by kernel_rfl

def lcq27 : LC := .seq (.rego 0 [o 4 1, ⟨some 6, .new [.int .i64 0, .str { data := #[] }, .e0, .e0], none⟩, i 7 0, i 8 0]) (.keep [0, 2, 4, 6] (.seq (.seq (.rego 1 [i 9 0]) (.keep [0, 2, 4, 6, 9] (.block 0 (.loop (.seq (.seq (.rego 2 [m 12 9, m 13 2, n 14 13, s 15 12 14]) (.keep [0, 2, 4, 6, 9, 15] (.cond (.tmp 15) .skip (.exit 0)))) (.keep [0, 2, 4, 6, 9] (.seq (.block 1 (.seq (.regf 4 [0, 0, 0, 0, 12, 28, 63, 127, 255, 255, 0, 1535, 4095] [m 19 0, L 20 4 4, m 21 2, m 22 9, x 23 1 21 22, l 24 1 23, ⟨some 25, .call 60 [.tmp 19, .tmp 20, .tmp 24], none⟩, m 18 25, X 26 18 0, X 27 18 1, ⟨some 10, .new [.int .i64 0, .str { data := #[] }, .e0, .e0], none⟩, W 4 10 26, m 11 27]) (.keep [0, 2, 4, 6, 9, 10, 11] (.seq (.seq (.rego 5 [m 28 11, N 29 28 0]) (.keep [0, 2, 4, 6, 9, 10, 11, 29] (.cond (.tmp 29) (.keep [6, 9, 11] (.seq (.rego 6 [⟨some 30, .build [.int .i64 0, .str { data := #[] }, .e0, .e0] [], none⟩, m 31 11, m 32 9, W 4 6 30, m 7 31, m 8 32]) .ret)) .skip))) (.keep [0, 2, 4, 6, 9, 10] (.rego 7 [L 33 4 10, W 4 4 33])))))) (.keep [0, 2, 4, 6, 9] (.rego 3 [m 16 9, a 17 16 1, m 9 17]))))))))) (.keep [4, 6] (.seq (.rego 8 [L 34 4 4, W 4 6 34, i 7 0, i 8 0]) .ret))))
theorem fdq27 : fnData Tryz.prog 27 = some (35, lcq27.erase, [LRV.cell 6 true 4, LRV.tmp 7, LRV.tmp 8]) := by kernel_rfl

end Go.Proofs.YtgpeaibhhonikaaGreatDoor

set_option linter.unusedSimpArgs false
set_option linter.unusedVariables false
namespace Go.Proofs.YtgpeaibhhonikaaGreatDoor
open Go Go.Lg Go.RowKit
set_option linter.unusedVariables false
set_option linter.unusedSimpArgs false
set_option maxRecDepth 20000

theorem idx_at : ∀ (l : List ByteArray) (s : ByteArray) (k : Nat) (h : k < l.length), (∀ (j : Nat) (hj : j < k), l[j]'(Nat.lt_trans hj h) ≠ s) → l[k] = s → idxS l s = k
  | [], _, _, h, _, _ => absurd h (Nat.not_lt_zero _)
  | x :: r, s, 0, _, _, e => by
    have e : x = s := e
    rw [idxS, if_pos e]; rfl
  | x :: r, s, k + 1, h, hn, e => by
    have hx : x ≠ s := hn 0 (Nat.succ_pos _)
    have ih := idx_at r s k (by simpa using h) (fun j hj => hn (j + 1) (Nat.succ_lt_succ hj)) e
    rw [idxS, if_neg hx, ih, if_neg (by omega)]; rfl
theorem idx_none : ∀ (l : List ByteArray) (s : ByteArray), (∀ (j : Nat) (hj : j < l.length), l[j] ≠ s) → idxS l s = -1
  | [], _, _ => rfl
  | x :: r, s, hn => by
    have hx : x ≠ s := hn 0 (Nat.succ_pos _)
    have ih := idx_none r s (fun j hj => hn (j + 1) (Nat.succ_lt_succ hj))
    rw [idxS, if_neg hx, ih, if_pos (by decide)]
theorem idx_ret (l : List ByteArray) (s : ByteArray) (hl : l.length ≤ 1000000) : PRet Tryz.prog 53 [encL cS l, .str s] (.int .i64 (idxS l s)) := by
  refine pret_intro fdq53 (by simp) ?_
  simp only [lcq53, VCA, simprocAttr, encL, MCA]
  refine loop_vcg (ι := Nat × (Nat → Nat)) (fun y => stO [(0, .val (encL cS l)), (1, .val (.str s)), (7, .val (.int .i64 l.length)), (8, .val (.int .i64 y.1))] y.2)
    (fun y => y.1 ≤ l.length ∧ ∀ (j : Nat) (hj : j < y.1) (hj2 : j < l.length), l[j] ≠ s) (fun y => l.length - y.1) (0, _) ⟨Nat.zero_le _, fun j hj => absurd hj (Nat.not_lt_zero _)⟩ (ent_of _ [] rfl rfl (by simp only [VCA, simprocAttr, encL, MCA])) ?_
  rintro ⟨k, c⟩ hk
  obtain ⟨hk, hn⟩ : k ≤ l.length ∧ ∀ (j : Nat) (hj : j < k) (hj2 : j < l.length), l[j] ≠ s := hk
  simp only [VCA, simprocAttr, encL, MCA]
  refine condD_of (fun h => ?_) (fun h => ?_)
  · have hk' : k < l.length := by omega
    have i1 : 0 ≤ (k : Int) ∧ (k : Int) < l.length := by omega
    have i3 : InI64 ((k : Int) + 1) := by unfold InI64; omega
    simp only [VCA, simprocAttr, encL, MCA, hk', i1, i3, txt_eq]
    cases b1 : decide (s = l[k]) <;> simp only [VCA, simprocAttr, encL, MCA, b1, i3]
    · refine backTo_of (k + 1, _) ⟨hk', fun j hj hj2 => ?_⟩ (by simp only []; omega) (ent_of _ [] rfl rfl (by simp only [VCA, simprocAttr, encL, MCA]))
      by_cases e : j = k
      · subst e; exact fun e => of_decide_eq_false b1 e.symm
      · exact hn j (by have hj : j < k + 1 := hj; omega) hj2
    · rw [idx_at l s k hk' (fun j hj => hn j hj _) (of_decide_eq_true b1).symm]
  · have hk' : k = l.length := by omega
    subst hk'
    simp only [VCA, simprocAttr, encL, MCA]
    rw [idx_none l s fun j hj => hn j hj hj]
theorem number_ret (l : List ByteArray) (s : ByteArray) (hl : l.length ≤ 1000000) : PRet Tryz.prog 56 [encL cS l, .str s] (.int .i64 (idxS l s)) := by
  refine pret_intro fdq56 (by simp) ?_
  simp only [lcq56, VCA, simprocAttr, encL, MCA]
  refine loop_vcg (ι := Nat × (Nat → Nat)) (fun y => stO [(0, .val (encL cS l)), (1, .val (.str s)), (5, .val (.int .i64 y.1))] y.2)
    (fun y => y.1 ≤ l.length ∧ ∀ (j : Nat) (hj : j < y.1) (hj2 : j < l.length), l[j] ≠ s) (fun y => l.length - y.1) (0, _) ⟨Nat.zero_le _, fun j hj => absurd hj (Nat.not_lt_zero _)⟩ (ent_of _ [] rfl rfl (by simp only [VCA, simprocAttr, encL, MCA])) ?_
  rintro ⟨k, c⟩ hk
  obtain ⟨hk, hn⟩ : k ≤ l.length ∧ ∀ (j : Nat) (hj : j < k) (hj2 : j < l.length), l[j] ≠ s := hk
  simp only [VCA, simprocAttr, encL, MCA]
  refine condD_of (fun h => ?_) (fun h => ?_)
  · have hk' : k < l.length := by omega
    have i1 : 0 ≤ (k : Int) ∧ (k : Int) < l.length := by omega
    have i3 : InI64 ((k : Int) + 1) := by unfold InI64; omega
    simp only [VCA, simprocAttr, encL, MCA, hk', i1, i3, txt_eq]
    cases b1 : decide (l[k] = s) <;> simp only [VCA, simprocAttr, encL, MCA, b1, i3]
    · refine backTo_of (k + 1, _) ⟨hk', fun j hj hj2 => ?_⟩ (by simp only []; omega) (ent_of _ [] rfl rfl (by simp only [VCA, simprocAttr, encL, MCA]))
      by_cases e : j = k
      · subst e; exact of_decide_eq_false b1
      · exact hn j (by have hj : j < k + 1 := hj; omega) hj2
    · rw [idx_at l s k hk' (fun j hj => hn j hj _) (of_decide_eq_true b1)]
  · have hk' : k = l.length := by omega
    subst hk'
    simp only [VCA, simprocAttr, encL, MCA]
    rw [idx_none l s fun j hj => hn j hj hj]
theorem tdeep_ret : ∀ (d : Nat) (t : TT), t.ok → d ≤ 100 → PRet Tryz.prog 21 [.agg t.cells, .int .i64 d] (.bool (tdeepB d t)) := by
  intro d
  induction d with
  | zero =>
    intro t ht hd
    refine pret_intro fdq21 (by simp) ?_
    simp only [lcq21, VCA, simprocAttr, encL, MCA, TTA, Int.le_refl]
    simp [tdeepB]
  | succ d ih =>
    intro t ht hd
    have h0 : decide ((d : Int) + 1 ≤ 0) = false := decide_eq_false (by omega)
    have e1 : ∀ (h : 0 < t.elem.length), t.elem[0].ok := by
      rw [TT.ok_iff] at ht
      exact fun h => ht.2.2.2.2 _ (List.getElem_mem h)
    have key : tdeepB (d + 1) t = (decide (2 < t.elem.length) || (decide (70 < t.lives.length) || if h : 0 < t.elem.length then tdeepB d t.elem[0] else false)) := by
      obtain ⟨k, n, l, e⟩ := t
      cases e <;> rfl
    refine pret_intro fdq21 (by simp) ?_
    simp only [lcq21, VCA, simprocAttr, encL, MCA, TTA, h0]
    cases b1 : decide ((2 : Int) < t.elem.length) <;> simp only [VCA, simprocAttr, encL, MCA, TTA, b1]
    case true =>
      have : 2 < t.elem.length := by have := of_decide_eq_true b1; omega
      rw [key, decide_eq_true this, Bool.true_or]
    cases b2 : decide ((70 : Int) < t.lives.length) <;> simp only [VCA, simprocAttr, encL, MCA, TTA, b2]
    case true =>
      have : 70 < t.lives.length := by have := of_decide_eq_true b2; omega
      rw [key, decide_eq_true this, Bool.true_or, Bool.or_true]
    have n1 : ¬ 2 < t.elem.length := by have := of_decide_eq_false b1; omega
    have n2 : ¬ 70 < t.lives.length := by have := of_decide_eq_false b2; omega
    rw [key, decide_eq_false n1, decide_eq_false n2, Bool.false_or, Bool.false_or]
    cases b3 : decide ((0 : Int) < t.elem.length) <;> simp only [VCA, simprocAttr, encL, MCA, TTA, b3]
    · rw [dif_neg (by have := of_decide_eq_false b3; omega)]
    · have hp : 0 < t.elem.length := by have := of_decide_eq_true b3; omega
      have hp' : (0 : Int) < t.elem.length := by omega
      have hf := tt_first hp
      rw [dif_pos hp]
      simp only [VCA, simprocAttr, encL, MCA, TTA, hp, hp', hf]
      refine And.intro (by unfold InI64; omega) ?_
      refine callX_of (ih t.elem[0] (e1 hp) (by omega)) (by first | exact .inr rfl | exact .inl rfl) ?_
      simp only [VCA, simprocAttr, encL, MCA, TTA]
end Go.Proofs.YtgpeaibhhonikaaGreatDoor

set_option linter.unusedSimpArgs false
set_option linter.unusedVariables false
namespace Go.Proofs.YtgpeaibhhonikaaGreatDoor
open Go Go.Lg Go.RowKit
set_option linter.unusedVariables false
set_option linter.unusedSimpArgs false
set_option maxRecDepth 100000

theorem PRet.nzr {P : Program} {f : FuncId} {args : List V} {r r' : V} (d : Nat) (h : PRet P f args r) (e : nz d r = r') : PRet P f args r' := by
  obtain ⟨hen, hc⟩ := h
  refine ⟨hen, fun imm w vs h1 h2 h3 => (hc imm w vs h1 h2 h3).mono ?_⟩
  rintro ev w' ⟨u, imm', rfl, hu, hb⟩
  exact ⟨u, imm', rfl, e ▸ hu.nz d, hb⟩
theorem ret_of_cl_nz {P : Program} {cl : Cl} (hcl : ClOk P cl) {f : FuncId} {args : List V} {r : V} (e : (retQ (cl f args .nil)).map (nz 9) = some r) : PRet P f args r := by
  cases h : retQ (cl f args .nil) with
  | none => rw [h] at e; cases e
  | some u => rw [h] at e; exact PRet.nzr 9 (ret_of_cl hcl h) (Option.some.inj e)

def nmS : ByteArray := ⟨#[83]⟩
def nmT : ByteArray := ⟨#[84]⟩
def nmU : ByteArray := ⟨#[85]⟩
def nma : ByteArray := ⟨#[97]⟩
def nmb : ByteArray := ⟨#[98]⟩
def nmf : ByteArray := ⟨#[102]⟩
def nmg : ByteArray := ⟨#[103]⟩
def nmh : ByteArray := ⟨#[104]⟩
def nm0 : ByteArray := ⟨#[]⟩
def tyI : TT := .mk 1 nm0 [] []
def stS : ST := ⟨false, nmS, [nma], [⟨false, nmf, .mk 4 nm0 [nma] [tyI]⟩, ⟨false, nmg, tyI⟩], 0⟩
def stT : ST := ⟨false, nmT, [nma, nmb], [⟨false, nmf, .mk 3 nmS [nma] []⟩, ⟨false, nmg, .mk 4 nm0 [nmb] [.mk 3 nmS [nmb] []]⟩, ⟨false, nmh, .mk 5 nm0 [nma] [tyI]⟩], 36⟩
def stU : ST := ⟨false, nmU, [], [⟨false, nmf, tyI⟩, ⟨false, nmg, .mk 2 nm0 [] []⟩], 96⟩
def st0 : ST := ⟨false, nm0, [], [], 0⟩
def stL : List ST := [stS, stT, stU]
/-- What a name tells. -/
def stIs (n : ByteArray) : Bool := decide (n = nmS) || (decide (n = nmT) || decide (n = nmU))
def stD (n : ByteArray) : ST := if n = nmS then stS else if n = nmT then stT else if n = nmU then stU else st0
def scN (n : ByteArray) : Nat := (stD n).lives.length

def esW : List (V × V) := [(.str ⟨#[83]⟩, .agg [.bool false, .str ⟨#[83]⟩, .sl 1 [.str ⟨#[97]⟩], .sl 2 [.bool false, .str ⟨#[102]⟩, .int .i64 4, .str ⟨#[]⟩, .sl 1 [.str ⟨#[97]⟩], .sl 1 [.int .i64 1, .str ⟨#[]⟩, .sl 0 [], .e0], .bool false, .str ⟨#[103]⟩, .int .i64 1, .str ⟨#[]⟩, .sl 0 [], .e0], .int .i64 0]), (.str ⟨#[84]⟩, .agg [.bool false, .str ⟨#[84]⟩, .sl 2 [.str ⟨#[97]⟩, .str ⟨#[98]⟩], .sl 3 [.bool false, .str ⟨#[102]⟩, .int .i64 3, .str ⟨#[83]⟩, .sl 1 [.str ⟨#[97]⟩], .e0, .bool false, .str ⟨#[103]⟩, .int .i64 4, .str ⟨#[]⟩, .sl 1 [.str ⟨#[98]⟩], .sl 1 [.int .i64 3, .str ⟨#[83]⟩, .sl 1 [.str ⟨#[98]⟩], .e0], .bool false, .str ⟨#[104]⟩, .int .i64 5, .str ⟨#[]⟩, .sl 1 [.str ⟨#[97]⟩], .sl 1 [.int .i64 1, .str ⟨#[]⟩, .sl 0 [], .e0]], .int .i64 36]), (.str ⟨#[85]⟩, .agg [.bool false, .str ⟨#[85]⟩, .sl 0 [], .sl 2 [.bool false, .str ⟨#[102]⟩, .int .i64 1, .str ⟨#[]⟩, .sl 0 [], .e0, .bool false, .str ⟨#[103]⟩, .int .i64 2, .str ⟨#[]⟩, .sl 0 [], .e0], .int .i64 96])]
def wS : V := .ip [.im esW, .im []] 0
def wX : V := .ip [.sl 3 (stL.flatMap ST.cells), .sl 0 [], .sl 0 []] 0
theorem world_ret : PRet Tryz.prog 20 [] (.tup [wS, wX]) := ret_of_cl_nz (clN_ok tbX_ok 60) (by kernel_rfl)

theorem struct_S : PRet Tryz.prog 54 [wS, .str nmS] (.tup [.agg stS.cells, .bool true]) := ret_of_cl_nz (clN_ok tbX_ok 60) (by kernel_rfl)
theorem struct_T : PRet Tryz.prog 54 [wS, .str nmT] (.tup [.agg stT.cells, .bool true]) := ret_of_cl_nz (clN_ok tbX_ok 60) (by kernel_rfl)
theorem struct_U : PRet Tryz.prog 54 [wS, .str nmU] (.tup [.agg stU.cells, .bool true]) := ret_of_cl_nz (clN_ok tbX_ok 60) (by kernel_rfl)
theorem rstruct_S : PRet Tryz.prog 57 [wX, .str nmS] (.tup [.agg stS.cells, .bool true]) := ret_of_cl_nz (clN_ok tbX_ok 60) (by kernel_rfl)
theorem rstruct_T : PRet Tryz.prog 57 [wX, .str nmT] (.tup [.agg stT.cells, .bool true]) := ret_of_cl_nz (clN_ok tbX_ok 60) (by kernel_rfl)
theorem rstruct_U : PRet Tryz.prog 57 [wX, .str nmU] (.tup [.agg stU.cells, .bool true]) := ret_of_cl_nz (clN_ok tbX_ok 60) (by kernel_rfl)
theorem clone0 : PRet Tryz.prog 74 [.agg [.bool false, .str ⟨#[]⟩, .e0, .e0, .int .i64 0]] (.agg st0.cells) := ret_of_cl_nz (clN_ok tbX_ok 60) (by kernel_rfl)

theorem esW_key : (esW.all fun e => keyV .str e.1) = true := rfl
theorem esW_find (n : ByteArray) (h : stIs n = false) : findK (.str n) esW = none := by
  simp only [stIs, Bool.or_eq_false_iff, decide_eq_false_iff_not] at h
  obtain ⟨h1, h2, h3⟩ := h
  have e1 : (n == (⟨#[83]⟩ : ByteArray)) = false := by rw [ba_beq]; exact decide_eq_false h1
  have e2 : (n == (⟨#[84]⟩ : ByteArray)) = false := by rw [ba_beq]; exact decide_eq_false h2
  have e3 : (n == (⟨#[85]⟩ : ByteArray)) = false := by rw [ba_beq]; exact decide_eq_false h3
  simp [esW, findK, eqK, e1, e2, e3]
theorem struct_none (n : ByteArray) (h : stIs n = false) : PRet Tryz.prog 54 [wS, .str n] (.tup [.agg st0.cells, .bool false]) := by
  have hf := esW_find n h
  have hk := esW_key
  generalize hE : esW = E at hf hk
  refine pret_intro_z fdq54 (by simp) ?_
  simp only [lcq54, VCA, simprocAttr, encL, MCA, TTA, wS, hE, hf, hk, LDA]
  refine callX_of clone0 (by first | exact .inr rfl | exact .inl rfl) ?_
  simp only [VCA, simprocAttr, encL, MCA, TTA, LDA, List.mapM_cons, List.mapM_nil, Option.pure_def, Option.bind_eq_bind, Option.bind_some, Option.map_some, some_ex, NZA]
theorem struct_ret (n : ByteArray) : PRet Tryz.prog 54 [wS, .str n] (.tup [.agg (stD n).cells, .bool (stIs n)]) := by
  by_cases h1 : n = nmS
  · subst h1; exact struct_S
  by_cases h2 : n = nmT
  · subst h2; exact struct_T
  by_cases h3 : n = nmU
  · subst h3; exact struct_U
  have hn : stIs n = false := by simp [stIs, h1, h2, h3]
  have hd : stD n = st0 := by simp [stD, h1, h2, h3]
  rw [hn, hd]
  exact struct_none n hn
theorem st0_cells : st0.cells = [.bool false, .str ⟨#[]⟩, .sl 0 [], .sl 0 [], .int .i64 0] := by simp [st0, ST.cells, encL, nm0]
theorem rstruct_none (n : ByteArray) (h : stIs n = false) : PRet Tryz.prog 57 [wX, .str n] (.tup [.agg st0.cells, .bool false]) := by
  simp only [stIs, Bool.or_eq_false_iff, decide_eq_false_iff_not] at h
  obtain ⟨h1, h2, h3⟩ := h
  refine pret_intro_z fdq57 (by simp) ?_
  simp only [lcq57, VCA, simprocAttr, encL, MCA, TTA, wX, LDA]
  refine loop_vcg (ι := Nat × (Nat → Nat)) (fun y => stO [(0, .val wX), (1, .val (.str n)), (4, .box [.bool false, .str ⟨#[]⟩, .e0, .e0, .int .i64 0]), (6, .val (.int .i64 y.1))] y.2)
    (fun y => y.1 ≤ 3) (fun y => 3 - y.1) (0, _) (Nat.zero_le _) (ent_of _ [] rfl rfl (by simp only [VCA, simprocAttr, encL, MCA, wX])) ?_
  rintro ⟨k, c⟩ hk
  have hk : k ≤ 3 := hk
  have hl3 : stL.length = 3 := rfl
  have hnm : ∀ (h : k < stL.length), decide (stL[k].name = n) = false := by
    intro h
    rw [hl3] at h
    refine decide_eq_false ?_
    match k, h with
    | 0, _ => exact fun e => h1 e.symm
    | 1, _ => exact fun e => h2 e.symm
    | 2, _ => exact fun e => h3 e.symm
  simp only [VCA, simprocAttr, encL, MCA, TTA, LDA, wX]
  refine condD_of (fun h => ?_) (fun h => ?_)
  · have hk' : k < stL.length := by omega
    have i1 : 0 ≤ (k : Int) ∧ (k : Int) < 3 := by omega
    have i3 : InI64 ((k : Int) + 1) := by unfold InI64; omega
    have hn := hnm hk'
    generalize stL = l at *
    simp only [VCA, simprocAttr, encL, MCA, TTA, LDA, hk', i1, i3, txt_eq, hn]
    exact backTo_of (k + 1, _) (by show k + 1 ≤ 3; omega) (by simp only []; omega) (ent_of _ [] rfl rfl (by simp only [VCA, simprocAttr, encL, MCA]))
  clear h hk
  simp only [VCA, simprocAttr, encL, MCA, TTA, LDA, wX]
  generalize stL = l at *
  refine loop_vcg (ι := Nat → Nat) (fun c => stO [(0, .val (.ip [.sl 3 (l.flatMap ST.cells), .sl 0 [], .sl 0 []] 0)), (1, .val (.str n)), (4, .box [.bool false, .str ⟨#[]⟩, .e0, .e0, .int .i64 0]), (7, .val (.int .i64 0))] c)
    (fun _ => True) (fun _ => 0) _ trivial (ent_of _ [] rfl rfl (by simp only [VCA, simprocAttr, encL, MCA])) ?_
  rintro c -
  simp only [VCA, simprocAttr, encL, MCA, TTA, LDA, List.mapM_cons, List.mapM_nil, Option.pure_def, Option.bind_eq_bind, Option.bind_some, Option.map_some, some_ex, NZA, Int.lt_irrefl]
  rw [st0_cells]
theorem rstruct_ret (n : ByteArray) : PRet Tryz.prog 57 [wX, .str n] (.tup [.agg (stD n).cells, .bool (stIs n)]) := by
  by_cases h1 : n = nmS
  · subst h1; exact rstruct_S
  by_cases h2 : n = nmT
  · subst h2; exact rstruct_T
  by_cases h3 : n = nmU
  · subst h3; exact rstruct_U
  have hn : stIs n = false := by simp [stIs, h1, h2, h3]
  have hd : stD n = st0 := by simp [stD, h1, h2, h3]
  rw [hn, hd]
  exact rstruct_none n hn
end Go.Proofs.YtgpeaibhhonikaaGreatDoor

set_option linter.unusedSimpArgs false
set_option linter.unusedVariables false
namespace Go.Proofs.YtgpeaibhhonikaaGreatDoor
open Go Go.Lg Go.RowKit
set_option linter.unusedVariables false
set_option linter.unusedSimpArgs false
set_option maxRecDepth 20000

theorem wS_imv : imV 8 wS = true := rfl
theorem wS_snap (H : Heap) (d : Nat) : snap H (d + 1) wS = wS := rfl
theorem wS_sok (H : Heap) (d : Nat) : sok H (d + 1) wS = true := rfl
theorem wX_imv : imV 8 wX = true := rfl
theorem wX_snap (H : Heap) (d : Nat) : snap H (d + 1) wX = wX := rfl
theorem wX_sok (H : Heap) (d : Nat) : sok H (d + 1) wX = true := rfl
theorem scN_le (n : ByteArray) : scN n ≤ 2 := by
  unfold scN stD
  split
  · decide
  · split
    · decide
    · split <;> decide
theorem scN_no {n : ByteArray} (h : stIs n = false) : scN n = 0 := by
  simp only [stIs, Bool.or_eq_false_iff, decide_eq_false_iff_not] at h
  obtain ⟨h1, h2, h3⟩ := h
  simp [scN, stD, h1, h2, h3, st0]
theorem up_succ (next : Int) (n : Nat) : upS next n ++ [next + (n : Int)] = upS next (n + 1) := by
  simp only [upS, List.range_succ, List.map_append, List.map_cons, List.map_nil]
theorem up_len (next : Int) (n : Nat) : (upS next n).length = n := by simp [upS]
theorem e4 (k : Int) (n : ByteArray) : setCells (setCells [V.int IntKind.i64 0, V.str { data := #[] }, V.e0, V.e0] 0 [V.int IntKind.i64 k]) 1 [V.str n] = [.int .i64 k, .str n, .e0, .e0] := rfl
theorem fill1 (a : RT) : setCells [V.int IntKind.i64 0, V.str { data := #[] }, V.e0, V.e0] 0 a.cells = a.cells := setCells_all (by rw [RT.len]; rfl)
theorem fill5 (a : ST) : setCells [V.bool false, V.str { data := #[] }, V.e0, V.e0, V.int IntKind.i64 0] 0 a.cells = a.cells := setCells_all (by rw [ST.len]; rfl)
theorem mk1_cells (k : Int) (n : ByteArray) (R : List Int) (x : RT) : (RT.mk k n R [x]).cells = [.int .i64 k, .str n, encL cI R, .sl 1 x.cells] := by rw [RT.cells_eq]; simp [encL, RT.mkK, RT.mkN, RT.mkR, RT.mkE]
set_option maxHeartbeats 4000000 in
theorem lift_ret (lives : List ByteArray) (hl : lives.length ≤ 1000) : ∀ (d : Nat) (t : TT) (next : Int), d ≤ 100 → tdeepB d t = false → -9223372036854775808 ≤ next → next ≤ 2251799813685248 - 4 * d →
    PRet Tryz.prog 22 [wS, .agg t.cells, encL cS lives, .int .i64 next] (.tup [.agg (liftS scN lives t next).1.cells, .int .i64 (liftS scN lives t next).2]) := by
  intro d
  induction d with
  | zero => intro t _ _ h; exact (tdeep_zero h).elim
  | succ d ih =>
    intro t next hd h hn1 hn2
    obtain ⟨he, hr, hc⟩ := tdeep_succ h
    refine pret_intro_z fdq22 (by simp) ?_
    simp only [lcq22, VCA, simprocAttr, encL, MCA, TTA, LDA, wS_imv, wS_snap, wS_sok, e4, sc4_a]
    have hsc := scN_le t.name
    obtain ⟨R, hR⟩ : ∃ R, R = regsS scN lives t.kind t.name t.lives next := ⟨_, rfl⟩
    obtain ⟨nx, hnx⟩ : ∃ nx, nx = nextS scN t.kind t.name t.lives next := ⟨_, rfl⟩
    have hnx1 : next ≤ nx ∧ nx ≤ next + 2 := by
      rw [hnx]; unfold nextS
      split
      · split <;> omega
      · split <;> omega
    refine join_vcg (ι := (V × Int) × (Nat → Nat)) (fun y => stO [(0, .val wS), (2, .val (encL cS lives)), (3, .val (.int .i64 y.1.2)), (5, .box t.cells), (8, .box [.int .i64 0, .str ⟨#[]⟩, .e0, .e0]), (10, .boxG [.int .i64 t.kind, .str t.name, y.1.1] 4 0 [] [])] y.2)
      (fun y => (y.1.1 = .e0 ∧ R = [] ∨ y.1.1 = encL cI R) ∧ y.1.2 = nx) ?_ ?_
    · by_cases hk : isRef t.kind = true
      · have hc3 : decide (t.kind = 4) = true ∧ decide (t.kind = 4) = true ∨ decide (t.kind = 4) = false ∧ decide (t.kind = 5) = true := by
          rw [isRef] at hk
          cases b4 : decide (t.kind = 4)
          · rw [b4, Bool.false_or] at hk; exact .inr ⟨rfl, hk⟩
          · exact .inl ⟨rfl, rfl⟩
        rcases hc3 with ⟨b4, b5⟩ | ⟨b4, b5⟩
        all_goals
          simp only [VCA, simprocAttr, encL, MCA, TTA, LDA, wS_imv, wS_snap, wS_sok, b4, b5]
          cases b0 : decide ((t.lives.length : Int) = 0) <;> simp only [VCA, simprocAttr, encL, MCA, TTA, LDA, wS_imv, wS_snap, wS_sok, b0]
          · have hp : 0 < t.lives.length := by have := of_decide_eq_false b0; omega
            have hp' : (0 : Int) < t.lives.length := by omega
            have hR2 : R = [idxS lives t.lives[0]] := by
              rw [hR, regsS, if_pos hk, if_neg (by omega), List.getD_eq_getElem?_getD, List.getElem?_eq_getElem hp]; rfl
            have hnx2 : nx = next := by rw [hnx, nextS, if_pos hk, if_neg (by omega)]
            have hls : ldV false 1 (t.lives.flatMap cS) 0 = some (.str t.lives[0]) := ld_cS hp
            simp only [VCA, simprocAttr, encL, MCA, TTA, LDA, wS_imv, wS_snap, wS_sok, hp, hp', hls]
            refine callX_of (idx_ret lives t.lives[0] (by omega)) (by first | exact .inr rfl | exact .inl rfl) ?_
            simp only [VCA, simprocAttr, encL, MCA, TTA, LDA, wS_imv, wS_snap, wS_sok]
            exact joinTo_of ((.sl 1 [.int .i64 (idxS lives t.lives[0])], nx), _) ⟨.inr (by rw [hR2]; rfl), rfl⟩ (ent_of _ [] rfl rfl (by simp only [VCA, simprocAttr, encL, MCA, TTA, LDA, wS_imv, wS_snap, wS_sok, hnx2, wS_imv, sc4_2]; try decide))
          · have hp : t.lives.length = 0 := by have := of_decide_eq_true b0; omega
            have hR2 : R = [next] := by rw [hR, regsS, if_pos hk, if_pos hp]
            have hnx2 : nx = next + 1 := by rw [hnx, nextS, if_pos hk, if_pos hp]
            have i1 : InI64 (next + 1) := by unfold InI64; omega
            simp only [VCA, simprocAttr, encL, MCA, TTA, LDA, wS_imv, wS_snap, wS_sok, i1]
            exact joinTo_of ((.sl 1 [.int .i64 next], nx), _) ⟨.inr (by rw [hR2]; rfl), rfl⟩ (ent_of _ [] rfl rfl (by simp only [VCA, simprocAttr, encL, MCA, TTA, LDA, wS_imv, wS_snap, wS_sok, hnx2, wS_imv, sc4_2]; try decide))
      · have b4 : decide (t.kind = 4) = false := by
          rw [isRef] at hk; cases b4 : decide (t.kind = 4); rfl; simp [b4] at hk
        have b5 : decide (t.kind = 5) = false := by
          rw [isRef] at hk; cases b5 : decide (t.kind = 5); rfl; simp [b5] at hk
        simp only [VCA, simprocAttr, encL, MCA, TTA, LDA, wS_imv, wS_snap, wS_sok, b4, b5]
        cases b3 : decide (t.kind = 3) <;> simp only [VCA, simprocAttr, encL, MCA, TTA, LDA, wS_imv, wS_snap, wS_sok, b3]
        · have n3 : ¬ t.kind = 3 := of_decide_eq_false b3
          have hR2 : R = [] := by rw [hR, regsS, if_neg hk, if_neg n3]
          have hnx2 : nx = next := by rw [hnx, nextS, if_neg hk, if_neg (fun h => n3 h.1)]
          exact joinTo_of ((.e0, nx), _) ⟨.inl ⟨rfl, hR2⟩, rfl⟩ (ent_of _ [] rfl rfl (by simp only [VCA, simprocAttr, encL, MCA, TTA, LDA, wS_imv, wS_snap, wS_sok, hnx2, wS_imv, sc4_2]; try decide))
        · have n3 : t.kind = 3 := of_decide_eq_true b3
          refine loop_vcg (ι := (Nat × List Int) × (Nat → Nat)) (fun y => stO [(0, .val wS), (2, .val (encL cS lives)), (3, .val (.int .i64 next)), (5, .box t.cells), (8, .box [.int .i64 0, .str ⟨#[]⟩, .e0, .e0]), (10, .boxG [.int .i64 t.kind, .str t.name] 1 y.1.2.length (y.1.2.flatMap cI) [.e0]), (46, .val (encL cS t.lives)), (47, .val (.int .i64 t.lives.length)), (48, .val (.int .i64 y.1.1))] y.2)
            (fun y => y.1.1 ≤ t.lives.length ∧ y.1.2 = (t.lives.take y.1.1).map (idxS lives)) (fun y => t.lives.length - y.1.1) ((0, []), _) ⟨Nat.zero_le _, rfl⟩ (ent_of _ [] rfl rfl (by simp only [VCA, simprocAttr, encL, MCA, TTA, LDA, wS_imv, wS_snap, wS_sok, List.flatMap_nil]; try decide)) ?_
          rintro ⟨⟨k, Q⟩, c⟩ hk1
          obtain ⟨hk1, hQ⟩ : k ≤ t.lives.length ∧ Q = (t.lives.take k).map (idxS lives) := hk1
          have hQl : Q.length = k := by rw [hQ, List.length_map, List.length_take]; omega
          simp only [VCA, simprocAttr, encL, MCA, TTA, LDA, wS_imv, wS_snap, wS_sok]
          refine condD_of (fun h => ?_) (fun h => ?_)
          · have ha' : k < t.lives.length := by omega
            have i1 : 0 ≤ (k : Int) ∧ (k : Int) < t.lives.length := by omega
            have i3 : InI64 ((k : Int) + 1) := by unfold InI64; omega
            have hQs : Q ++ [idxS lives t.lives[k]] = (t.lives.take (k + 1)).map (idxS lives) := by rw [hQ, take_map_succ _ ha']
            simp only [VCA, simprocAttr, encL, MCA, TTA, LDA, wS_imv, wS_snap, wS_sok, ha', i1]
            refine callV_of (idx_ret lives t.lives[k] (by omega)) (by first | exact .inr rfl | exact .inl rfl) ?_
            simp only [VCA, simprocAttr, encL, MCA, TTA, LDA, wS_imv, wS_snap, wS_sok, ha', i1, i3, ld4_0, ld4_1, ld4_2, ld4_3, ld4_a, sc4_2, sc4_3, sc4_a]
            refine ⟨⟨by omega, by omega⟩, backTo_of ((k + 1, Q ++ [idxS lives t.lives[k]]), _) ⟨ha', hQs⟩ (by simp only []; omega) (ent_of _ [] rfl rfl (by simp only [VCA, simprocAttr, encL, MCA, TTA, LDA, wS_imv, wS_snap, wS_sok, ld4_0, ld4_1, ld4_2, ld4_3, ld4_a, sc4_2, sc4_3, sc4_a]; decide))⟩
          have hk' : k = t.lives.length := by omega
          subst hk'
          rw [List.take_length] at hQ
          simp only [VCA, simprocAttr, encL, MCA, TTA, LDA, wS_imv, wS_snap, wS_sok]
          refine callX_of (struct_ret t.name) (by first | exact .inr rfl | exact .inl rfl) ?_
          simp only [VCA, simprocAttr, encL, MCA, TTA, LDA, wS_imv, wS_snap, wS_sok, fill5]
          have hnone : ∀ (hz : stIs t.name = false ∨ ¬ t.lives.length = 0), R = Q ∧ nx = next := by
            intro hz
            have hnx2 : nx = next := by
              rw [hnx, nextS, if_neg hk]
              split
              · rename_i h0
                rcases hz with hz | hz
                · rw [scN_no hz]; simp
                · exact absurd h0.2 hz
              · rfl
            refine ⟨?_, hnx2⟩
            rw [hR, regsS, if_neg hk, if_pos n3]
            split
            · rename_i h0
              rcases hz with hz | hz
              · rw [scN_no hz, hQ, List.eq_nil_of_length_eq_zero h0]; rfl
              · exact absurd h0 hz
            · rw [hQ]
          have fin : ∀ (hz : R = Q ∧ nx = next), encL cI Q = encL cI R := fun hz => by rw [hz.1]
          cases bs : stIs t.name <;> simp only [VCA, simprocAttr, encL, MCA, TTA, LDA, wS_imv, wS_snap, wS_sok, bs]
          · obtain ⟨h1, h2⟩ := hnone (.inl bs)
            exact joinTo_of ((encL cI Q, nx), _) ⟨.inr (by rw [h1]; rfl), rfl⟩ (ent_of _ [(4398046511114, 0)] rfl rfl (by simp only [VCA, simprocAttr, encL, MCA, TTA, LDA, wS_imv, wS_snap, wS_sok, h2, sc4_2]))
          cases b0 : decide ((t.lives.length : Int) = 0) <;> simp only [VCA, simprocAttr, encL, MCA, TTA, LDA, wS_imv, wS_snap, wS_sok, b0]
          · obtain ⟨h1, h2⟩ := hnone (.inr (by have := of_decide_eq_false b0; omega))
            exact joinTo_of ((encL cI Q, nx), _) ⟨.inr (by rw [h1]; rfl), rfl⟩ (ent_of _ [(4398046511114, 0)] rfl rfl (by simp only [VCA, simprocAttr, encL, MCA, TTA, LDA, wS_imv, wS_snap, wS_sok, h2, sc4_2]))
          have h0 : t.lives.length = 0 := by have := of_decide_eq_true b0; omega
          have hQ0 : Q = [] := by rw [hQ, List.eq_nil_of_length_eq_zero h0]; rfl
          subst hQ0
          have hR2 : R = upS next (scN t.name) := by rw [hR, regsS, if_neg hk, if_pos n3, if_pos h0]
          have hnx2 : nx = next + scN t.name := by rw [hnx, nextS, if_neg hk, if_pos ⟨n3, h0⟩]
          have hsn : (stD t.name).lives.length = scN t.name := rfl
          simp only [VCA, simprocAttr, encL, MCA, TTA, LDA, wS_imv, wS_snap, wS_sok, hsn]
          generalize scN t.name = N at *
          refine loop_vcg (ι := (Nat × List Int) × (Nat → Nat)) (fun y => stO [(0, .val wS), (2, .val (encL cS lives)), (3, .val (.int .i64 (next + y.1.1))), (5, .box t.cells), (8, .box [.int .i64 0, .str ⟨#[]⟩, .e0, .e0]), (10, .boxG [.int .i64 t.kind, .str t.name] 1 y.1.2.length (y.1.2.flatMap cI) [.e0]), (77, .val (.int .i64 N)), (78, .val (.int .i64 y.1.1))] y.2)
            (fun y => y.1.1 ≤ N ∧ y.1.2 = upS next y.1.1) (fun y => N - y.1.1) ((0, []), _) ⟨Nat.zero_le _, rfl⟩ (ent_of _ [] rfl rfl (by simp only [VCA, simprocAttr, encL, MCA, TTA, LDA, wS_imv, wS_snap, wS_sok, List.flatMap_nil, Int.add_zero, Int.natCast_zero]; decide)) ?_
          rintro ⟨⟨j, Q⟩, c⟩ hj1
          obtain ⟨hj1, hQ⟩ : j ≤ N ∧ Q = upS next j := hj1
          have hQl : Q.length = j := by rw [hQ, up_len]
          simp only [VCA, simprocAttr, encL, MCA, TTA, LDA, wS_imv, wS_snap, wS_sok]
          refine condD_of (fun h => ?_) (fun h => ?_)
          · have i3 : InI64 ((j : Int) + 1) := by unfold InI64; omega
            have i4 : InI64 (next + (j : Int) + 1) := by unfold InI64; omega
            have hQs : Q ++ [next + (j : Int)] = upS next (j + 1) := by rw [hQ, up_succ]
            simp only [VCA, simprocAttr, encL, MCA, TTA, LDA, wS_imv, wS_snap, wS_sok, i3, i4, ld4_0, ld4_1, ld4_2, ld4_3, ld4_a, sc4_2, sc4_3, sc4_a]
            refine ⟨⟨by omega, by omega⟩, backTo_of ((j + 1, Q ++ [next + (j : Int)]), _) ⟨by show j + 1 ≤ N; omega, hQs⟩ (by simp only []; omega) (ent_of _ [] rfl rfl (by simp only [VCA, simprocAttr, encL, MCA, TTA, LDA, wS_imv, wS_snap, wS_sok, ld4_0, ld4_1, ld4_2, ld4_3, ld4_a, sc4_2, sc4_3, sc4_a, Int.add_assoc]; decide))⟩
          have hj' : j = N := by omega
          subst hj'
          simp only [VCA, simprocAttr, encL, MCA, TTA, LDA, wS_imv, wS_snap, wS_sok]
          exact joinTo_of ((encL cI Q, nx), _) ⟨.inr (by rw [hR2, hQ]; rfl), rfl⟩ (ent_of _ [(4398046511114, 0)] rfl rfl (by simp only [VCA, simprocAttr, encL, MCA, TTA, LDA, wS_imv, wS_snap, wS_sok, hnx2, sc4_2]))
    · rintro ⟨⟨rv, nx'⟩, c⟩ ⟨hrv, hnx'⟩
      obtain rfl : nx' = nx := hnx'
      have hnz : nz 4 rv = encL cI R := by
        rcases hrv with ⟨rfl, h⟩ | rfl
        · rw [h]; rfl
        · simp only [encL, nz_sl, nz_li]
      have hkey := liftS_eq scN lives t next
      rw [← hR, ← hnx] at hkey
      rcases hrv with ⟨rfl, hR0⟩ | rfl
      all_goals
        simp only [VCA, simprocAttr, encL, MCA, TTA, LDA, wS_imv, wS_snap, wS_sok]
        refine callX_of (refers_ret t.kind) (by first | exact .inr rfl | exact .inl rfl) ?_
        simp only [VCA, simprocAttr, encL, MCA, TTA, LDA, wS_imv, wS_snap, wS_sok]
        have hfin : ¬ (isRef t.kind = true ∧ 0 < t.elem.length) → liftS scN lives t next = (.mk t.kind t.name R [], nx') := fun h => by rw [hkey, if_neg h]
        cases hk : isRef t.kind <;> simp only [VCA, simprocAttr, encL, MCA, TTA, LDA, wS_imv, wS_snap, wS_sok, hk]
        · rw [hfin (by rw [hk]; simp)]
          simp only [VCA, simprocAttr, encL, MCA, TTA, LDA, wS_imv, wS_snap, wS_sok, List.mapM_cons, List.mapM_nil, Option.pure_def, Option.bind_eq_bind, Option.bind_some, Option.map_some, some_ex, lda4, ld4_a, sc4_a, NZA, List.take_nil, List.map_nil]
          try rw [hR0]
          rw [RT.cells_eq]; rfl
        cases be : decide ((0 : Int) < t.elem.length) <;> simp only [VCA, simprocAttr, encL, MCA, TTA, LDA, wS_imv, wS_snap, wS_sok, be]
        · rw [hfin (by rintro ⟨_, h⟩; have := of_decide_eq_false be; omega)]
          simp only [VCA, simprocAttr, encL, MCA, TTA, LDA, wS_imv, wS_snap, wS_sok, List.mapM_cons, List.mapM_nil, Option.pure_def, Option.bind_eq_bind, Option.bind_some, Option.map_some, some_ex, lda4, ld4_a, sc4_a, NZA, List.take_nil, List.map_nil]
          try rw [hR0]
          rw [RT.cells_eq]; rfl
        have hp : 0 < t.elem.length := by have := of_decide_eq_true be; omega
        have hp' : (0 : Int) < t.elem.length := by omega
        have hf := tt_first hp
        rw [if_pos ⟨hk, hp⟩, liftH_pos hp] at hkey
        simp only [VCA, simprocAttr, encL, MCA, TTA, LDA, wS_imv, wS_snap, wS_sok, hp, hp', hf]
        refine callX_of (ih t.elem[0] nx' (by omega) (hc hp) (by omega) (by omega)) (by first | exact .inr rfl | exact .inl rfl) ?_
        rw [hkey]
        generalize liftS scN lives t.elem[0] nx' = X
        simp only [VCA, simprocAttr, encL, MCA, TTA, LDA, wS_imv, wS_snap, wS_sok, fill1, ld4_a, sc4_a, sc4_3]
        simp only [VCA, simprocAttr, encL, MCA, TTA, LDA, List.mapM_cons, List.mapM_nil, Option.pure_def, Option.bind_eq_bind, Option.bind_some, Option.map_some, some_ex, NZA, List.take_nil, List.map_nil]
        try rw [hR0]
        rw [mk1_cells]; rfl
end Go.Proofs.YtgpeaibhhonikaaGreatDoor

set_option linter.unusedSimpArgs false
set_option linter.unusedVariables false
namespace Go.Proofs.YtgpeaibhhonikaaGreatDoor
open Go Go.Lg Go.RowKit
set_option linter.unusedVariables false
set_option linter.unusedSimpArgs false
set_option maxRecDepth 20000

theorem mk0_cells (k : Int) (n : ByteArray) (R : List Int) : (RT.mk k n R []).cells = [.int .i64 k, .str n, encL cI R, .sl 0 []] := by rw [RT.cells_eq]; rfl

set_option maxHeartbeats 8000000 in
theorem rlift_ret (lives : List ByteArray) (hl : lives.length ≤ 1000) : ∀ (d : Nat) (t : TT) (next : Int), d ≤ 100 → tdeepB d t = false → -9223372036854775808 ≤ next → next ≤ 2251799813685248 - 4 * d →
    PRet Tryz.prog 23 [wX, .agg t.cells, encL cS lives, .int .i64 next] (.tup [.agg (liftS scN lives t next).1.cells, .int .i64 (liftS scN lives t next).2]) := by
  intro d
  induction d with
  | zero => intro t _ _ h; exact (tdeep_zero h).elim
  | succ d ih =>
    intro t next hd h hn1 hn2
    obtain ⟨he, hr, hc⟩ := tdeep_succ h
    refine pret_intro_z fdq23 (by simp) ?_
    simp only [lcq23, VCA, simprocAttr, encL, MCA, TTA, LDA, e4, sc4_a]
    have hsc := scN_le t.name
    obtain ⟨R, hR⟩ : ∃ R, R = regsS scN lives t.kind t.name t.lives next := ⟨_, rfl⟩
    obtain ⟨nx, hnx⟩ : ∃ nx, nx = nextS scN t.kind t.name t.lives next := ⟨_, rfl⟩
    have hnx1 : next ≤ nx ∧ nx ≤ next + 2 := by
      rw [hnx]; unfold nextS
      split
      · split <;> omega
      · split <;> omega
    have hkey := liftS_eq scN lives t next
    rw [← hR, ← hnx] at hkey
    have hfin : ¬ (isRef t.kind = true ∧ 0 < t.elem.length) → liftS scN lives t next = (.mk t.kind t.name R [], nx) := fun h => by rw [hkey, if_neg h]
    cases b3 : decide (t.kind = 3) <;> simp only [VCA, simprocAttr, encL, MCA, TTA, LDA, b3]
    case true =>
      have n3 : t.kind = 3 := of_decide_eq_true b3
      have hk : ¬ isRef t.kind = true := by rw [n3]; decide
      refine loop_vcg (ι := (Nat × List Int) × (Nat → Nat)) (fun y => stO [(0, .val wX), (2, .val (encL cS lives)), (3, .val (.int .i64 next)), (5, .box t.cells), (8, .box [.int .i64 0, .str ⟨#[]⟩, .e0, .e0]), (10, .boxG [.int .i64 t.kind, .str t.name] 1 y.1.2.length (y.1.2.flatMap cI) [.e0]), (11, .val (.int .i64 y.1.1))] y.2)
        (fun y => y.1.1 ≤ t.lives.length ∧ y.1.2 = (t.lives.take y.1.1).map (idxS lives)) (fun y => t.lives.length - y.1.1) ((0, []), _) ⟨Nat.zero_le _, rfl⟩ (ent_of _ [] rfl rfl (by simp only [VCA, simprocAttr, encL, MCA, TTA, LDA, wX_imv, wX_snap, wX_sok, List.flatMap_nil]; try decide)) ?_
      rintro ⟨⟨k, Q⟩, c⟩ hk1
      obtain ⟨hk1, hQ⟩ : k ≤ t.lives.length ∧ Q = (t.lives.take k).map (idxS lives) := hk1
      have hQl : Q.length = k := by rw [hQ, List.length_map, List.length_take]; omega
      simp only [VCA, simprocAttr, encL, MCA, TTA, LDA, wX_imv, wX_snap, wX_sok]
      refine condD_of (fun h => ?_) (fun h => ?_)
      · have ha' : k < t.lives.length := by omega
        have i1 : 0 ≤ (k : Int) ∧ (k : Int) < t.lives.length := by omega
        have i3 : InI64 ((k : Int) + 1) := by unfold InI64; omega
        have hQs : Q ++ [idxS lives t.lives[k]] = (t.lives.take (k + 1)).map (idxS lives) := by rw [hQ, take_map_succ _ ha']
        simp only [VCA, simprocAttr, encL, MCA, TTA, LDA, wX_imv, wX_snap, wX_sok, ha', i1]
        refine callV_of (number_ret lives t.lives[k] (by omega)) (by first | exact .inr rfl | exact .inl rfl) ?_
        simp only [VCA, simprocAttr, encL, MCA, TTA, LDA, wX_imv, wX_snap, wX_sok, ha', i1, i3, ld4_0, ld4_1, ld4_2, ld4_3, ld4_a, sc4_2, sc4_3, sc4_a]
        refine ⟨⟨by omega, by omega⟩, backTo_of ((k + 1, Q ++ [idxS lives t.lives[k]]), _) ⟨ha', hQs⟩ (by simp only []; omega) (ent_of _ [] rfl rfl (by simp only [VCA, simprocAttr, encL, MCA, TTA, LDA, wX_imv, wX_snap, wX_sok, ld4_0, ld4_1, ld4_2, ld4_3, ld4_a, sc4_2, sc4_3, sc4_a]; decide))⟩
      have hk' : k = t.lives.length := by omega
      subst hk'
      rw [List.take_length] at hQ
      simp only [VCA, simprocAttr, encL, MCA, TTA, LDA, wX_imv, wX_snap, wX_sok]
      refine callX_of (rstruct_ret t.name) (by first | exact .inr rfl | exact .inl rfl) ?_
      have hsn : (stD t.name).lives.length = scN t.name := rfl
      have hst0 : stIs t.name = false → scN t.name = 0 := scN_no
      simp only [VCA, simprocAttr, encL, MCA, TTA, LDA, wX_imv, wX_snap, wX_sok, fill5]
      have hR2 : R = if t.lives.length = 0 then upS next (scN t.name) else Q := by rw [hR, regsS, if_neg hk, if_pos n3, hQ]
      have hnx2 : nx = if t.lives.length = 0 then next + scN t.name else next := by
        rw [hnx, nextS, if_neg hk]
        by_cases h0 : t.lives.length = 0
        · rw [if_pos ⟨n3, h0⟩, if_pos h0]
        · rw [if_neg (fun h => h0 h.2), if_neg h0]
      generalize stD t.name = X at *
      generalize scN t.name = N at *
      clear h hk1
      rw [hfin (fun h => hk h.1)]
      refine loop_vcg (ι := (Nat × List Int) × (Nat → Nat)) (fun y => stO [(3, .val (.int .i64 (next + y.1.1))), (5, .box t.cells), (8, .box [.int .i64 0, .str ⟨#[]⟩, .e0, .e0]), (10, .boxG [.int .i64 t.kind, .str t.name] 1 y.1.2.length (y.1.2.flatMap cI) [.e0]), (12, .box X.cells), (14, .val (.int .i64 y.1.1))] y.2)
        (fun y => y.1.1 ≤ N ∧ y.1.2 = Q ++ upS next y.1.1 ∧ (0 < y.1.1 → t.lives.length = 0)) (fun y => N - y.1.1) ((0, Q), _) ⟨Nat.zero_le _, by simp [upS], fun h => absurd h (Nat.not_lt_zero _)⟩ (ent_of _ [] rfl rfl (by simp only [VCA, simprocAttr, encL, MCA, TTA, LDA, wX_imv, wX_snap, wX_sok, List.flatMap_nil, Int.add_zero, Int.natCast_zero]; decide)) ?_
      rintro ⟨⟨j, W⟩, c⟩ hj1
      obtain ⟨hj1, hW, hj0⟩ : j ≤ N ∧ W = Q ++ upS next j ∧ (0 < j → t.lives.length = 0) := hj1
      have hWl : W.length = t.lives.length + j := by rw [hW, List.length_append, up_len, hQl]
      simp only [VCA, simprocAttr, encL, MCA, TTA, LDA, wX_imv, wX_snap, wX_sok, hsn]
      cases bj : decide ((j : Int) < N) <;> simp only [VCA, simprocAttr, encL, MCA, TTA, LDA, bj]
      · have hjN : j = N := by have := of_decide_eq_false bj; omega
        have hWR : W = R ∧ next + (j : Int) = nx := by
          rw [hR2, hnx2, hW]
          by_cases h0 : t.lives.length = 0
          · rw [if_pos h0, if_pos h0, hjN]
            have : Q = [] := List.eq_nil_of_length_eq_zero (by omega)
            rw [this]; exact ⟨rfl, rfl⟩
          · have : j = 0 := by
              by_cases hj : 0 < j
              · exact absurd (hj0 hj) h0
              · omega
            rw [if_neg h0, if_neg h0, this]
            simp [upS]
        simp only [VCA, simprocAttr, encL, MCA, TTA, LDA, wX_imv, wX_snap, wX_sok, List.mapM_cons, List.mapM_nil, Option.pure_def, Option.bind_eq_bind, Option.bind_some, Option.map_some, some_ex, lda4, ld4_a, sc4_a, NZA, List.take_nil, List.map_nil]
        rw [hWR.1, hWR.2, mk0_cells]; rfl
      cases b0 : decide ((t.lives.length : Int) = 0) <;> simp only [VCA, simprocAttr, encL, MCA, TTA, LDA, b0]
      · have h0 : ¬ t.lives.length = 0 := by have := of_decide_eq_false b0; omega
        have hWR : W = R ∧ next + (j : Int) = nx := by
          rw [hR2, hnx2, hW]
          have : j = 0 := by
            by_cases hj : 0 < j
            · exact absurd (hj0 hj) h0
            · omega
          rw [if_neg h0, if_neg h0, this]
          simp [upS]
        simp only [VCA, simprocAttr, encL, MCA, TTA, LDA, wX_imv, wX_snap, wX_sok, List.mapM_cons, List.mapM_nil, Option.pure_def, Option.bind_eq_bind, Option.bind_some, Option.map_some, some_ex, lda4, ld4_a, sc4_a, NZA, List.take_nil, List.map_nil]
        rw [hWR.1, hWR.2, mk0_cells]; rfl
      have h0 : t.lives.length = 0 := by have := of_decide_eq_true b0; omega
      have hj1' : j < N := by have := of_decide_eq_true bj; omega
      have i3 : InI64 ((j : Int) + 1) := by unfold InI64; omega
      have i4 : InI64 (next + (j : Int) + 1) := by unfold InI64; omega
      have hWs : W ++ [next + (j : Int)] = Q ++ upS next (j + 1) := by rw [hW, ← up_succ, List.append_assoc]
      simp only [VCA, simprocAttr, encL, MCA, TTA, LDA, wX_imv, wX_snap, wX_sok, i3, i4, ld4_0, ld4_1, ld4_2, ld4_3, ld4_a, sc4_2, sc4_3, sc4_a]
      refine ⟨⟨by omega, by omega⟩, backTo_of ((j + 1, W ++ [next + (j : Int)]), _) ⟨hj1', hWs, fun _ => h0⟩ (by simp only []; omega) (ent_of _ [] rfl rfl (by simp only [VCA, simprocAttr, encL, MCA, TTA, LDA, wX_imv, wX_snap, wX_sok, ld4_0, ld4_1, ld4_2, ld4_3, ld4_a, sc4_2, sc4_3, sc4_a, Int.add_assoc]; decide))⟩
    have n3 : ¬ t.kind = 3 := of_decide_eq_false b3
    by_cases hk : isRef t.kind = true
    · have hc3 : decide (t.kind = 4) = true ∧ decide (t.kind = 4) = true ∨ decide (t.kind = 4) = false ∧ decide (t.kind = 5) = true := by
        rw [isRef] at hk
        cases b4 : decide (t.kind = 4)
        · rw [b4, Bool.false_or] at hk; exact .inr ⟨rfl, hk⟩
        · exact .inl ⟨rfl, rfl⟩
      rcases hc3 with ⟨b4, b5⟩ | ⟨b4, b5⟩
      all_goals
        simp only [VCA, simprocAttr, encL, MCA, TTA, LDA, b4, b5]
        cases b0 : decide ((0 : Int) < t.lives.length) <;> simp only [VCA, simprocAttr, encL, MCA, TTA, LDA, b0]
        · have hp : t.lives.length = 0 := by have := of_decide_eq_false b0; omega
          have hR2 : R = [next] := by rw [hR, regsS, if_pos hk, if_pos hp]
          have hnx2 : nx = next + 1 := by rw [hnx, nextS, if_pos hk, if_pos hp]
          have i1 : InI64 (next + 1) := by unfold InI64; omega
          simp only [VCA, simprocAttr, encL, MCA, TTA, LDA, i1, sc4_2]
          cases be : decide ((0 : Int) < t.elem.length) <;> simp only [VCA, simprocAttr, encL, MCA, TTA, LDA, be]
          · rw [hfin (by rintro ⟨_, h⟩; have := of_decide_eq_false be; omega), hR2, hnx2]
            simp only [VCA, simprocAttr, encL, MCA, TTA, LDA, wX_imv, wX_snap, wX_sok, List.mapM_cons, List.mapM_nil, Option.pure_def, Option.bind_eq_bind, Option.bind_some, Option.map_some, some_ex, lda4, ld4_a, sc4_a, sc4_2, NZA, List.take_nil, List.map_nil]
            rw [mk0_cells]; rfl
          have hpe : 0 < t.elem.length := by have := of_decide_eq_true be; omega
          have hpe' : (0 : Int) < t.elem.length := by omega
          have hf := tt_first hpe
          rw [if_pos ⟨hk, hpe⟩, liftH_pos hpe, hR2, hnx2] at hkey
          simp only [VCA, simprocAttr, encL, MCA, TTA, LDA, wX_imv, wX_snap, wX_sok, hpe, hpe', hf]
          refine callX_of (ih t.elem[0] (next + 1) (by omega) (hc hpe) (by omega) (by omega)) (by first | exact .inr rfl | exact .inl rfl) ?_
          rw [hkey]
          generalize liftS scN lives t.elem[0] (next + 1) = X
          simp only [VCA, simprocAttr, encL, MCA, TTA, LDA, wX_imv, wX_snap, wX_sok, fill1, ld4_a, sc4_a, sc4_3, sc4_2]
          simp only [VCA, simprocAttr, encL, MCA, TTA, LDA, List.mapM_cons, List.mapM_nil, Option.pure_def, Option.bind_eq_bind, Option.bind_some, Option.map_some, some_ex, NZA, List.take_nil, List.map_nil]
          try (rw [mk1_cells]; rfl)
        · have hp : 0 < t.lives.length := by have := of_decide_eq_true b0; omega
          have hp' : (0 : Int) < t.lives.length := by omega
          have hR2 : R = [idxS lives t.lives[0]] := by
            rw [hR, regsS, if_pos hk, if_neg (by omega), List.getD_eq_getElem?_getD, List.getElem?_eq_getElem hp]; rfl
          have hnx2 : nx = next := by rw [hnx, nextS, if_pos hk, if_neg (by omega)]
          have hls : ldV false 1 (t.lives.flatMap cS) 0 = some (.str t.lives[0]) := ld_cS hp
          simp only [VCA, simprocAttr, encL, MCA, TTA, LDA, hp, hp', hls]
          refine callX_of (number_ret lives t.lives[0] (by omega)) (by first | exact .inr rfl | exact .inl rfl) ?_
          simp only [VCA, simprocAttr, encL, MCA, TTA, LDA, sc4_2]
          cases be : decide ((0 : Int) < t.elem.length) <;> simp only [VCA, simprocAttr, encL, MCA, TTA, LDA, be]
          · rw [hfin (by rintro ⟨_, h⟩; have := of_decide_eq_false be; omega), hR2, hnx2]
            simp only [VCA, simprocAttr, encL, MCA, TTA, LDA, wX_imv, wX_snap, wX_sok, List.mapM_cons, List.mapM_nil, Option.pure_def, Option.bind_eq_bind, Option.bind_some, Option.map_some, some_ex, lda4, ld4_a, sc4_a, sc4_2, NZA, List.take_nil, List.map_nil]
            rw [mk0_cells]; rfl
          have hpe : 0 < t.elem.length := by have := of_decide_eq_true be; omega
          have hpe' : (0 : Int) < t.elem.length := by omega
          have hf := tt_first hpe
          rw [if_pos ⟨hk, hpe⟩, liftH_pos hpe, hR2, hnx2] at hkey
          simp only [VCA, simprocAttr, encL, MCA, TTA, LDA, wX_imv, wX_snap, wX_sok, hpe, hpe', hf]
          refine callX_of (ih t.elem[0] next (by omega) (hc hpe) (by omega) (by omega)) (by first | exact .inr rfl | exact .inl rfl) ?_
          rw [hkey]
          generalize liftS scN lives t.elem[0] next = X
          simp only [VCA, simprocAttr, encL, MCA, TTA, LDA, wX_imv, wX_snap, wX_sok, fill1, ld4_a, sc4_a, sc4_3, sc4_2]
          simp only [VCA, simprocAttr, encL, MCA, TTA, LDA, List.mapM_cons, List.mapM_nil, Option.pure_def, Option.bind_eq_bind, Option.bind_some, Option.map_some, some_ex, NZA, List.take_nil, List.map_nil]
          try (rw [mk1_cells]; rfl)
    · have b4 : decide (t.kind = 4) = false := by
        rw [isRef] at hk; cases b4 : decide (t.kind = 4); rfl; simp [b4] at hk
      have b5 : decide (t.kind = 5) = false := by
        rw [isRef] at hk; cases b5 : decide (t.kind = 5); rfl; simp [b5] at hk
      have hR2 : R = [] := by rw [hR, regsS, if_neg hk, if_neg n3]
      have hnx2 : nx = next := by rw [hnx, nextS, if_neg hk, if_neg (fun h => n3 h.1)]
      rw [hfin (fun h => hk h.1), hR2, hnx2]
      simp only [VCA, simprocAttr, encL, MCA, TTA, LDA, b4, b5, wX_imv, wX_snap, wX_sok, List.mapM_cons, List.mapM_nil, Option.pure_def, Option.bind_eq_bind, Option.bind_some, Option.map_some, some_ex, lda4, ld4_a, sc4_a, NZA, List.take_nil, List.map_nil]
      rw [mk0_cells]; rfl
end Go.Proofs.YtgpeaibhhonikaaGreatDoor
