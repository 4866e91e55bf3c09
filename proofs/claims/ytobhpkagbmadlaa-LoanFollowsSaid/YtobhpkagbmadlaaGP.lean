/-
  Texts Loa, Lob, Loc, Lod, Loe of this claim, put together.
-/
import Derived.Test.YtobhpkagbmadlaaGF
import Derived.Test.YtobhpkagbmadlaaGA
import Derived.Test.YtobhpkagbmadlaaGG2
/-
  Loans: as cells; which a function's points take; what ends one. Plain laws.
-/
set_option linter.unusedSimpArgs false
set_option linter.unusedVariables false
namespace Go.Lg
open Go Go.RowKit

structure MLoan where
  pt : Int
  reg : Int
  mut' : Bool
  path : MPath
@[irreducible] def MLoan.cells (x : MLoan) : List V := [.int .i64 x.pt, .int .i64 x.reg, .bool x.mut', .int .i64 x.path.loc, encL cS x.path.steps]
theorem MLoan.len (x : MLoan) : x.cells.length = 5 := by simp [MLoan.cells]
theorem MLoan.c0 (x : MLoan) : ldV false 1 x.cells 0 = some (.int .i64 x.pt) := by simp [ldV, MLoan.cells]
theorem MLoan.c1 (x : MLoan) : ldV false 1 x.cells 1 = some (.int .i64 x.reg) := by simp [ldV, MLoan.cells]
theorem MLoan.c2 (x : MLoan) : ldV false 1 x.cells 2 = some (.bool x.mut') := by simp [ldV, MLoan.cells]
theorem MLoan.c3 (x : MLoan) : ldV false 1 x.cells 3 = some (.int .i64 x.path.loc) := by simp [ldV, MLoan.cells]
theorem MLoan.c4 (x : MLoan) : ldV false 1 x.cells 4 = some (encL cS x.path.steps) := by simp [ldV, MLoan.cells]
theorem MLoan.s3_2 (x : MLoan) : ldV true 2 x.cells 3 = some (.agg x.path.cells) := by simp [ldV, MLoan.cells, MPath.cells]
theorem MLoan.call (x : MLoan) : ldV true 5 x.cells 0 = some (.agg x.cells) := by simp only [ldV, if_true, Nat.zero_add, MLoan.len, Nat.le_refl, List.drop_zero]; rw [List.take_of_length_le (by rw [MLoan.len]; exact Nat.le_refl _)]
theorem MLoan.snapc (x : MLoan) (H : Heap) (d : Nat) : x.cells.map (snap H (d + 1)) = x.cells := by simp [MLoan.cells, snap, encL]
theorem MLoan.sokc (x : MLoan) (H : Heap) (d : Nat) : x.cells.all (sok H (d + 1)) = true := by simp [MLoan.cells, sok, encL]
theorem MLoan.onec (x : MLoan) : x.cells.all V.one = true := by simp [MLoan.cells, V.one, encL]
theorem MLoan.imvc (x : MLoan) (d : Nat) : x.cells.all (imV (d + 1)) = true := by simp [MLoan.cells, imV, encL]
theorem lo_len (l : List MLoan) : (l.flatMap MLoan.cells).length = l.length * 5 := flat_len MLoan.len l
theorem lo_snap (H : Heap) (d : Nat) (l : List MLoan) : (l.flatMap MLoan.cells).map (snap H (d + 1)) = l.flatMap MLoan.cells := by
  induction l with
  | nil => rfl
  | cons x r ih => rw [List.flatMap_cons, List.map_append, ih, MLoan.snapc]
theorem lo_imv (d : Nat) (l : List MLoan) : (l.flatMap MLoan.cells).all (imV (d + 1)) = true := by
  induction l with
  | nil => rfl
  | cons x r ih => rw [List.flatMap_cons, List.all_append, ih, MLoan.imvc]; rfl
theorem lo_app (l : List MLoan) (p r : Int) (b : Bool) (q : MPath) : l.flatMap MLoan.cells ++ [.int .i64 p, .int .i64 r, .bool b, .int .i64 q.loc, .sl q.steps.length (q.steps.flatMap cS)] = (l ++ [MLoan.mk p r b q]).flatMap MLoan.cells := by
  rw [List.flatMap_append]; simp [MLoan.cells, encL]
theorem lo_ld {l : List MLoan} {i j n : Nat} {agg : Bool} (h : i < l.length) (hj : j + n ≤ 5) (hn : 0 < n) : ldV agg n (l.flatMap MLoan.cells) (i * 5 + j) = ldV agg n (l[i]).cells j := ld_flat MLoan.len h hj hn
theorem lo_ld0 {l : List MLoan} {i n : Nat} {agg : Bool} (h : i < l.length) (hj : n ≤ 5) (hn : 0 < n) : ldV agg n (l.flatMap MLoan.cells) (i * 5) = ldV agg n (l[i]).cells 0 := ld_flat0 MLoan.len h hj hn

theorem sc_0 (x a : V) (r : List V) : setCells (x :: r) 0 [a] = a :: r := rfl
theorem sc_1 (x y a : V) (r : List V) : setCells (x :: y :: r) 1 [a] = x :: a :: r := rfl
theorem sc_2 (x y z a : V) (r : List V) : setCells (x :: y :: z :: r) 2 [a] = x :: y :: a :: r := rfl
theorem sc_32 (x y z u v a b : V) (r : List V) : setCells (x :: y :: z :: u :: v :: r) 3 [a, b] = x :: y :: z :: a :: b :: r := rfl
theorem sc_20 (x y a b : V) : setCells [x, y] 0 [a, b] = [a, b] := rfl
theorem sc_50 (x y z u v a b c d e : V) : setCells [x, y, z, u, v] 0 [a, b, c, d, e] = [a, b, c, d, e] := rfl
theorem ld_20 (a b : V) : ldV true 2 [a, b] 0 = some (.agg [a, b]) := rfl
/-- Does a point take a loan? -/
def takes (x : MInst) : Bool := decide (x.kind = 1) && (decide (x.val.kind = 2) || decide (x.val.kind = 3))
def loanAt (i : Nat) (x : MInst) : MLoan := ⟨i, x.val.region, decide (x.val.kind = 3), x.val.path⟩
def loansS : Nat → List MInst → List MLoan
  | _, [] => []
  | i, x :: r => if takes x = true then loanAt i x :: loansS (i + 1) r else loansS (i + 1) r
def loansOf (m : Mir) : List MLoan := loansS 0 m.code
theorem loansS_app : ∀ (a b : List MInst) (i : Nat), loansS i (a ++ b) = loansS i a ++ loansS (i + a.length) b
  | [], b, i => by simp [loansS]
  | x :: a, b, i => by
    simp only [List.cons_append, loansS, loansS_app a b (i + 1), List.length_cons, show i + 1 + a.length = i + (a.length + 1) by omega]
    split <;> rfl
theorem loansS_len : ∀ (a : List MInst) (i : Nat), (loansS i a).length ≤ a.length
  | [], _ => Nat.le_refl _
  | x :: a, i => by
    have := loansS_len a (i + 1)
    simp only [loansS]
    split <;> simp only [List.length_cons] <;> omega
theorem loans_next {l : List MInst} {k : Nat} (h : k < l.length) : loansS 0 (l.take (k + 1)) = loansS 0 (l.take k) ++ (if takes l[k] = true then [loanAt k l[k]] else []) := by
  have e : l.take (k + 1) = l.take k ++ [l[k]] := by rw [List.take_add_one, List.getElem?_eq_getElem h]; rfl
  rw [e, loansS_app]
  simp only [List.length_take, Nat.min_eq_left (Nat.le_of_lt h), Nat.zero_add, loansS]

/-- Is the one path the other one's beginning? -/
def prefS (a b : MPath) : Bool := decide (a.loc = b.loc) && (decide (a.steps.length ≤ b.steps.length) && decide (a.steps = b.steps.take a.steps.length))
def endsS (l : MLoan) (x : MInst) : Bool := decide (x.kind = 1) && (x.has && prefS x.to l.path)
end Go.Lg

/-
  What goes on from where it begins, by a list of what is still to be done. Plain laws.
-/
set_option linter.unusedSimpArgs false
set_option linter.unusedVariables false
namespace Go.Lg

abbrev Pr := Nat × Nat
def pushW (ok : Nat → Bool) (k : Nat) (s : List Pr × List Pr) (p : Nat) : List Pr × List Pr := if ok p = true ∧ (k, p) ∉ s.1 then (s.1 ++ [(k, p)], s.2 ++ [(k, p)]) else s
def onW (ok : Nat → Bool) (k : Nat) (ps : List Nat) (s : List Pr × List Pr) : List Pr × List Pr := ps.foldl (pushW ok k) s

def grid (L N : Nat) : List Pr := (List.range L).flatMap fun k => (List.range N).map fun p => (k, p)
theorem mem_grid {L N : Nat} {q : Pr} : q ∈ grid L N ↔ q.1 < L ∧ q.2 < N := by
  obtain ⟨a, b⟩ := q
  simp only [grid, List.mem_flatMap, List.mem_map, List.mem_range, Prod.mk.injEq]
  constructor
  · rintro ⟨k, hk, p, hp, rfl, rfl⟩; exact ⟨hk, hp⟩
  · rintro ⟨h1, h2⟩; exact ⟨a, h1, b, h2, rfl, rfl⟩
/-- How many have not been seen. -/
def unseen (l vs : List Pr) : Nat := l.countP fun q => decide (q ∉ vs)
theorem unseen_le (l vs : List Pr) (e : Pr) : unseen l (vs ++ [e]) ≤ unseen l vs := by
  unfold unseen
  refine List.countP_mono_left fun q _ h => ?_
  simp only [List.mem_append, not_or, decide_eq_true_eq] at h ⊢
  exact h.1
theorem unseen_lt {vs : List Pr} {e : Pr} (hv : e ∉ vs) : ∀ {l : List Pr}, e ∈ l → unseen l (vs ++ [e]) + 1 ≤ unseen l vs
  | x :: l, he => by
    have hle := unseen_le l vs e
    unfold unseen at hle ⊢
    simp only [List.countP_cons]
    by_cases hx : x = e
    · subst hx
      have h1 : decide (x ∉ vs ++ [x]) = false := by simp
      have h2 : decide (x ∉ vs) = true := by simpa using hv
      rw [h1, h2]; simp only [Bool.false_eq_true, if_false, if_true]; omega
    · have hl : e ∈ l := by
        rcases List.mem_cons.1 he with h | h
        · exact absurd h.symm hx
        · exact h
      have ih := unseen_lt hv hl
      unfold unseen at ih
      have h3 : decide (x ∉ vs ++ [e]) = decide (x ∉ vs) := by simp [hx]
      rw [h3]; omega

theorem onW_spec {ok : Nat → Bool} {k L N : Nat} (hk : k < L) : ∀ (ps : List Nat) (vs w : List Pr), (∀ p ∈ ps, p < N) → ∃ es, onW ok k ps (vs, w) = (vs ++ es, w ++ es) ∧ es.Nodup ∧ (∀ e ∈ es, e ∉ vs ∧ e.1 = k ∧ e.2 ∈ ps ∧ ok e.2 = true) ∧
    (∀ p ∈ ps, ok p = true → (k, p) ∈ vs ++ es) ∧ unseen (grid L N) (vs ++ es) + es.length ≤ unseen (grid L N) vs
  | [], vs, w, _ => ⟨[], by simp [onW], List.nodup_nil, fun e h => (by cases h), fun p h => (by cases h), by simp⟩
  | p :: ps, vs, w, hp => by
    by_cases h : ok p = true ∧ (k, p) ∉ vs
    · obtain ⟨es, h1, h2, h3, h4, h5⟩ := onW_spec hk ps (vs ++ [(k, p)]) (w ++ [(k, p)]) fun q hq => hp q (List.mem_cons_of_mem _ hq)
      have hlt := unseen_lt (l := grid L N) h.2 (mem_grid.2 ⟨hk, hp p (List.mem_cons_self ..)⟩)
      refine ⟨(k, p) :: es, ?_, ?_, ?_, ?_, ?_⟩
      · have : onW ok k (p :: ps) (vs, w) = onW ok k ps (vs ++ [(k, p)], w ++ [(k, p)]) := by
          show (ps.foldl (pushW ok k) (pushW ok k (vs, w) p)) = _
          rw [pushW, if_pos h]; rfl
        rw [this, h1]; simp
      · refine List.nodup_cons.2 ⟨fun hm => ?_, h2⟩
        exact (h3 _ hm).1 (by simp)
      · intro e he
        rcases List.mem_cons.1 he with rfl | he
        · exact ⟨h.2, rfl, List.mem_cons_self .., h.1⟩
        · obtain ⟨a, b, c, d⟩ := h3 e he
          exact ⟨fun hm => a (List.mem_append_left _ hm), b, List.mem_cons_of_mem _ c, d⟩
      · intro q hq hok
        rcases List.mem_cons.1 hq with rfl | hq
        · simp
        · have := h4 q hq hok
          simpa using this
      · simp only [List.append_assoc, List.singleton_append] at h5
        simp only [List.length_cons]; omega
    · obtain ⟨es, h1, h2, h3, h4, h5⟩ := onW_spec hk ps vs w fun q hq => hp q (List.mem_cons_of_mem _ hq)
      refine ⟨es, ?_, h2, fun e he => ?_, fun q hq hok => ?_, h5⟩
      · have : onW ok k (p :: ps) (vs, w) = onW ok k ps (vs, w) := by
          show (ps.foldl (pushW ok k) (pushW ok k (vs, w) p)) = _
          rw [pushW, if_neg h]; rfl
        rw [this, h1]
      · obtain ⟨a, b, c, d⟩ := h3 e he
        exact ⟨a, b, List.mem_cons_of_mem _ c, d⟩
      · rcases List.mem_cons.1 hq with rfl | hq
        · by_cases hm : (k, q) ∈ vs
          · exact List.mem_append_left _ hm
          · exact absurd ⟨hok, hm⟩ h
        · exact h4 q hq hok

section
variable (nxf : Nat → List Nat) (pt : Nat → Nat) (ok ends : Nat → Nat → Bool) (L N : Nat)
/-- What goes on where. -/
inductive Goes : Nat → Nat → Prop
  | seed (k p) : k < L → p ∈ nxf (pt k) → ok k p = true → Goes k p
  | step (k p q) : Goes k p → ends k p = false → q ∈ nxf p → ok k q = true → Goes k q

structure WInv (vs w : List Pr) : Prop where
  sub : ∀ q ∈ w, q ∈ vs
  wnd : w.Nodup
  rng : ∀ q ∈ vs, q.1 < L ∧ q.2 < N
  snd : ∀ q ∈ vs, Goes nxf pt ok ends L q.1 q.2
  cl : ∀ q ∈ vs, q ∉ w → ends q.1 q.2 = false → ∀ p ∈ nxf q.2, ok q.1 p = true → (q.1, p) ∈ vs
variable {nxf pt ok ends L N}

/-- The ways that begin. -/
theorem WInv.seed (hnx : ∀ u, ∀ v ∈ nxf u, v < N) {vs : List Pr} (h : WInv nxf pt ok ends L N vs vs) {k : Nat} (hk : k < L) :
    ∃ vs', onW (ok k) k (nxf (pt k)) (vs, vs) = (vs', vs') ∧ WInv nxf pt ok ends L N vs' vs' ∧ (∀ q ∈ vs, q ∈ vs') ∧ ∀ p ∈ nxf (pt k), ok k p = true → (k, p) ∈ vs' := by
  obtain ⟨es, h1, h2, h3, h4, _⟩ := onW_spec (ok := ok k) (N := N) hk (nxf (pt k)) vs vs (hnx _)
  refine ⟨vs ++ es, h1, ⟨fun q hq => hq, ?_, fun q hq => ?_, fun q hq => ?_, fun q hq hn => absurd hq hn⟩, fun q hq => List.mem_append_left _ hq, h4⟩
  · exact List.nodup_append.2 ⟨h.wnd, h2, fun a ha b hb e => (h3 b hb).1 (e ▸ ha)⟩
  · rcases List.mem_append.1 hq with hq | hq
    · exact h.rng q hq
    · obtain ⟨_, b, c, _⟩ := h3 q hq
      exact ⟨by rw [b]; exact hk, hnx _ _ c⟩
  · rcases List.mem_append.1 hq with hq | hq
    · exact h.snd q hq
    · obtain ⟨_, b, c, d⟩ := h3 q hq
      rw [b]; exact .seed k _ hk c d

/-- One is done. -/
theorem WInv.pop (hnx : ∀ u, ∀ v ∈ nxf u, v < N) {vs w : List Pr} {k p : Nat} (h : WInv nxf pt ok ends L N vs (w ++ [(k, p)])) :
    ∃ es, (if ends k p = true then (vs, w) else onW (ok k) k (nxf p) (vs, w)) = (vs ++ es, w ++ es) ∧ WInv nxf pt ok ends L N (vs ++ es) (w ++ es) ∧ (∀ e ∈ es, e ∉ vs) ∧ unseen (grid L N) (vs ++ es) + es.length ≤ unseen (grid L N) vs := by
  have hq : (k, p) ∈ vs := h.sub _ (by simp)
  have hwn := List.nodup_append.1 h.wnd
  have hqw : (k, p) ∉ w := fun hm => hwn.2.2 _ hm _ (List.mem_singleton.2 rfl) rfl
  by_cases he : ends k p = true
  · refine ⟨[], by simp [he], ⟨fun q hq => by simpa using h.sub q (List.mem_append_left _ (by simpa using hq)), by simpa using hwn.1, by simpa using h.rng, by simpa using h.snd, ?_⟩, fun e h => (by cases h), by simp⟩
    intro q hq' hn hen r hr hok
    simp only [List.append_nil] at hq' hn ⊢
    by_cases e : q = (k, p)
    · subst e; simp only [] at hen; rw [he] at hen; cases hen
    · exact h.cl q hq' (by simp [hn, e]) hen r hr hok
  · obtain ⟨es, h1, h2, h3, h4, h5⟩ := onW_spec (ok := ok k) (N := N) (h.rng _ hq).1 (nxf p) vs w (hnx _)
    have he : ends k p = false := by simpa using he
    refine ⟨es, by rw [if_neg (by rw [he]; decide)]; exact h1, ⟨fun q hq => ?_, ?_, fun q hq => ?_, fun q hq => ?_, ?_⟩, fun e he => (h3 e he).1, h5⟩
    · rcases List.mem_append.1 hq with hq | hq
      · exact List.mem_append_left _ (h.sub q (List.mem_append_left _ hq))
      · exact List.mem_append_right _ hq
    · exact List.nodup_append.2 ⟨hwn.1, h2, fun a ha b hb e => (h3 b hb).1 (e ▸ h.sub a (List.mem_append_left _ ha))⟩
    · rcases List.mem_append.1 hq with hq | hq
      · exact h.rng q hq
      · obtain ⟨_, b, c, _⟩ := h3 q hq
        exact ⟨by rw [b]; exact (h.rng _ ‹(k, p) ∈ vs›).1, hnx _ _ c⟩
    · rcases List.mem_append.1 hq with hq | hq
      · exact h.snd q hq
      · obtain ⟨_, b, c, d⟩ := h3 q hq
        have := h.snd _ ‹(k, p) ∈ vs›
        rw [b]; exact .step k p _ this he c d
    · intro q hq' hn hen r hr hok
      rcases List.mem_append.1 hq' with hq' | hq'
      · by_cases e : q = (k, p)
        · subst e; exact h4 r hr hok
        · exact List.mem_append_left _ (h.cl q hq' (fun hm => hn (by
            rcases List.mem_append.1 hm with hm | hm
            · exact List.mem_append_left _ hm
            · exact absurd (List.mem_singleton.1 hm) e)) hen r hr hok)
      · exact absurd (List.mem_append_right _ hq') hn

/-- All is done: just what goes on has been seen. -/
theorem WInv.all {vs : List Pr} (h : WInv nxf pt ok ends L N vs []) (hs : ∀ k, k < L → ∀ p ∈ nxf (pt k), ok k p = true → (k, p) ∈ vs) (k p : Nat) : (k, p) ∈ vs ↔ Goes nxf pt ok ends L k p := by
  refine ⟨fun hm => h.snd _ hm, fun hg => ?_⟩
  induction hg with
  | seed p hk hp hok => exact hs k hk p hp hok
  | step p q _ he hq hok ih => exact h.cl _ ih (by simp) he q hq hok

/-- What is told of each point under way. -/
def RowsInv (rch : Nat → Bool) (N : Nat) (vs w : List Pr) (R : List (List Int)) : Prop :=
  R.length = N ∧ ∀ p, p < N → (R.getD p []).Nodup ∧ ∀ x : Int, x ∈ R.getD p [] ↔ ∃ k : Nat, x = k ∧ (k, p) ∈ vs ∧ (k, p) ∉ w ∧ rch p = true
theorem RowsInv.pop {rch : Nat → Bool} {vs w es : List Pr} {k p : Nat} {R : List (List Int)} (h : RowsInv rch N vs (w ++ [(k, p)]) R) (hw : WInv nxf pt ok ends L N vs (w ++ [(k, p)])) (hes : ∀ e ∈ es, e ∉ vs) :
    RowsInv rch N (vs ++ es) (w ++ es) (if rch p = true then R.set p (R.getD p [] ++ [(k : Int)]) else R) := by
  have hq : (k, p) ∈ vs := hw.sub _ (by simp)
  have hpN := (hw.rng _ hq).2
  have hqw : (k, p) ∉ w := fun hm => (List.nodup_append.1 hw.wnd).2.2 _ hm _ (List.mem_singleton.2 rfl) rfl
  have key : ∀ q : Pr, (q ∈ vs ++ es ∧ q ∉ w ++ es) ↔ (q ∈ vs ∧ q ∉ w) := by
    intro q
    simp only [List.mem_append, not_or]
    constructor
    · rintro ⟨h1 | h1, h2, h3⟩
      · exact ⟨h1, h2⟩
      · exact absurd h1 h3
    · rintro ⟨h1, h2⟩
      exact ⟨.inl h1, h2, fun h3 => hes q h3 h1⟩
  have key2 : ∀ q : Pr, (q ∈ vs ∧ q ∉ w) ↔ (q = (k, p) ∨ (q ∈ vs ∧ q ∉ w ++ [(k, p)])) := by
    intro q
    simp only [List.mem_append, List.mem_singleton, not_or]
    constructor
    · rintro ⟨h1, h2⟩
      by_cases e : q = (k, p)
      · exact .inl e
      · exact .inr ⟨h1, h2, e⟩
    · rintro (rfl | ⟨h1, h2, _⟩)
      · exact ⟨hq, hqw⟩
      · exact ⟨h1, h2⟩
  have base : ∀ (q : Nat) (x : Int), (∃ k' : Nat, x = k' ∧ (k', q) ∈ vs ++ es ∧ (k', q) ∉ w ++ es ∧ rch q = true) ↔ ((x = k ∧ q = p ∧ rch p = true) ∨ ∃ k' : Nat, x = k' ∧ (k', q) ∈ vs ∧ (k', q) ∉ w ++ [(k, p)] ∧ rch q = true) := by
    intro q x
    constructor
    · rintro ⟨k', rfl, h1, h2, h3⟩
      rcases (key2 _).1 ((key _).1 ⟨h1, h2⟩) with e | ⟨a, b⟩
      · injection e with e1 e2; subst e1 e2; exact .inl ⟨rfl, rfl, h3⟩
      · exact .inr ⟨k', rfl, a, b, h3⟩
    · rintro (⟨rfl, rfl, h3⟩ | ⟨k', rfl, a, b, h3⟩)
      · obtain ⟨c, d⟩ := (key _).2 ((key2 _).2 (.inl rfl))
        exact ⟨k, rfl, c, d, h3⟩
      · obtain ⟨c, d⟩ := (key _).2 ((key2 _).2 (.inr ⟨a, b⟩))
        exact ⟨k', rfl, c, d, h3⟩
  obtain ⟨hl, hR⟩ := h
  by_cases hr : rch p = true
  · rw [if_pos hr]
    refine ⟨by simpa using hl, fun q hqN => ?_⟩
    obtain ⟨n1, n2⟩ := hR q hqN
    by_cases e : q = p
    · subst e
      have hg : (R.set q (R.getD q [] ++ [(k : Int)])).getD q [] = R.getD q [] ++ [(k : Int)] := by
        rw [List.getD_eq_getElem?_getD, List.getElem?_set_self (by omega)]; rfl
      rw [hg]
      refine ⟨List.nodup_append.2 ⟨n1, by simp, fun a ha b hb e => ?_⟩, fun x => ?_⟩
      · have hb := List.mem_singleton.1 hb
        obtain ⟨k', e', _, hn, _⟩ := (n2 a).1 ha
        have : k' = k := by omega
        subst this
        exact hn (by simp)
      · rw [List.mem_append, n2 x, List.mem_singleton, base]
        constructor
        · rintro (h | h)
          · exact .inr h
          · exact .inl ⟨h, rfl, hr⟩
        · rintro (⟨h, _, _⟩ | h)
          · exact .inr h
          · exact .inl h
    · have hg : (R.set p (R.getD p [] ++ [(k : Int)])).getD q [] = R.getD q [] := by
        simp only [List.getD_eq_getElem?_getD]
        rw [List.getElem?_set_ne (Ne.symm e)]
      rw [hg]
      refine ⟨n1, fun x => ?_⟩
      rw [n2 x, base]
      exact ⟨fun h => .inr h, fun h => h.elim (fun h => absurd h.2.1 e) id⟩
  · rw [if_neg hr]
    refine ⟨hl, fun q hqN => ?_⟩
    obtain ⟨n1, n2⟩ := hR q hqN
    refine ⟨n1, fun x => ?_⟩
    rw [n2 x, base]
    exact ⟨fun h => .inr h, fun h => h.elim (fun h => absurd h.2.2 hr) id⟩
end
end Go.Lg

/-
  A row of a slice of slices put anew: the states are the same.
-/
set_option linter.unusedSimpArgs false
set_option linter.unusedVariables false
namespace Go.Lg
open Go Go.RowKit

theorem rowV_congr (d : Nat) : ∀ (rs rs' : List (Nat × List V)) (i : Nat), rs.map (·.1) = rs'.map (·.1) → rowV d i rs = rowV d i rs'
  | [], [], _, _ => rfl
  | [], _ :: _, _, h => by cases h
  | _ :: _, [], _, h => by cases h
  | r :: rs, r' :: rs', i, h => by
    simp only [List.map_cons, List.cons.injEq] at h
    simp only [rowV, h.1, rowV_congr d rs rs' (i + 1) h.2]
theorem rsI_set_fst {α : Type} {f : α → List V} {R : List (List α)} {i : Nat} {r : List α} (hi : i < R.length) (hr : r.length = R[i].length) : (rsI f (R.set i r)).map (·.1) = (rsI f R).map (·.1) := by
  simp only [rsI, List.map_map]
  apply List.ext_getElem?
  intro j
  simp only [List.getElem?_map]
  by_cases e : j = i
  · subst e
    rw [List.getElem?_set_self hi, List.getElem?_eq_getElem hi]
    simp [hr]
  · rw [List.getElem?_set_ne (Ne.symm e)]
/-- One row is put anew. -/
theorem rows_put {α : Type} {f : α → List V} {R : List (List α)} {i d esz : Nat} {r : List α} (hi : i < R.length) (hr : r.length = R[i].length) (k : Key) :
    (if k = (4398046511104 + d, i) then some (LObj.row 0 esz (r.flatMap f)) else hpO [(d, .rows esz (rsI f R))] k) = hpO [(d, .rows esz (rsI f (R.set i r)))] k := by
  obtain ⟨a, b⟩ := k
  simp only [hpO, rowV_congr d _ _ 0 (rsI_set_fst (f := f) hi hr), Prod.mk.injEq]
  by_cases h1 : a = 4398046511104 + d
  · subst h1
    have h0 : ¬ (4398046511104 + d = 2199023255552 + d ∧ b = 0) := by omega
    simp only [h0, if_false, if_true, true_and]
    by_cases h2 : b = i
    · subst h2
      simp [rsI, hi]
    · have : (rsI f (R.set i r))[b]? = (rsI f R)[b]? := by
        simp only [rsI, List.getElem?_map]
        rw [List.getElem?_set_ne (Ne.symm h2)]
      rw [if_neg h2, this]
  · simp only [h1, false_and, if_false]
/-- All rows are the call's own. -/
theorem rowV_frs {α : Type} {f : α → List V} {H : Heap} {d j : Nat} {R : List (List α)} (ho : ∀ (i : Nat) (h : i < R.length), H (4398046511104 + d, i) = some (.row 0 1 (R[i].flatMap f))) (hf : ∀ x, (f x).length = 1) (hs : ∀ r : List α, (r.flatMap f).all (frs H j) = true) :
    (rowV d 0 (rsI f R)).all (frs H (j + 1)) = true := by
  refine List.all_eq_true.2 fun v hv => ?_
  obtain ⟨i, hi, rfl⟩ := List.getElem_of_mem hv
  have hi' : i < R.length := by rwa [rowV_len, rsI_len] at hi
  have h0 := rowV_at d (rsI f R) 0 i (by rw [rsI_len]; exact hi')
  rw [Nat.zero_add, List.getElem?_eq_getElem hi] at h0
  injection h0 with h0
  rw [h0, rsI_at]
  have hl : (R[i].flatMap f).length = R[i].length := by rw [flat_len hf, Nat.mul_one]
  simp only [frs, ho i hi', hs, Bool.and_true, Nat.zero_add, Nat.mul_one, hl, Nat.le_refl, decide_true, beq_self_eq_true]
theorem li_frs (H : Heap) (j : Nat) (l : List Int) : (l.flatMap cI).all (frs H j) = true := by
  induction l with
  | nil => rfl
  | cons x r ih => rw [List.flatMap_cons, List.all_append, ih, Bool.and_true]; cases j <;> rfl
end Go.Lg

/-
  Rows that rise: told by what is among them. Plain laws.
-/
set_option linter.unusedSimpArgs false
set_option linter.unusedVariables false
namespace Go.Lg

theorem rise_uniq : ∀ {a b : List Int}, a.Pairwise (· < ·) → b.Pairwise (· < ·) → (∀ x, x ∈ a ↔ x ∈ b) → a = b
  | [], [], _, _, _ => rfl
  | [], y :: b, _, _, h => by cases (h y).2 (List.mem_cons_self ..)
  | x :: a, [], _, _, h => by cases (h x).1 (List.mem_cons_self ..)
  | x :: a, y :: b, ha, hb, h => by
    have ha' := List.pairwise_cons.1 ha
    have hb' := List.pairwise_cons.1 hb
    have e : x = y := by
      have h1 := List.mem_cons.1 ((h x).1 (List.mem_cons_self ..))
      have h2 := List.mem_cons.1 ((h y).2 (List.mem_cons_self ..))
      rcases h1 with h1 | h1
      · exact h1
      · rcases h2 with h2 | h2
        · exact h2.symm
        · have := hb'.1 _ h1
          have := ha'.1 _ h2
          omega
    subst e
    rw [rise_uniq ha'.2 hb'.2 fun z => ?_]
    constructor
    · intro hz
      rcases List.mem_cons.1 ((h z).1 (List.mem_cons_of_mem _ hz)) with e | e
      · have := ha'.1 _ hz; omega
      · exact e
    · intro hz
      rcases List.mem_cons.1 ((h z).2 (List.mem_cons_of_mem _ hz)) with e | e
      · have := hb'.1 _ hz; omega
      · exact e
theorem sortI_lt {l : List Int} (h : l.Nodup) : (sortI l).Pairwise (· < ·) := by
  have hn : (sortI l).Nodup := (List.mergeSort_perm l _).nodup_iff.2 h
  have := List.pairwise_and_iff.2 ⟨sortI_rise l, hn⟩
  exact this.imp fun h => by omega

open Classical in
/-- The numbers for which something holds there. -/
noncomputable def inS (P : Nat → Nat → Prop) (L p : Nat) : List Int := ((List.range L).filter fun k => decide (P k p)).map fun k : Nat => (k : Int)
noncomputable def inR (P : Nat → Nat → Prop) (L N : Nat) : List (List Int) := (List.range N).map (inS P L)
theorem inR_len (P : Nat → Nat → Prop) (L N : Nat) : (inR P L N).length = N := by simp [inR]
theorem inR_at {P : Nat → Nat → Prop} {L N p : Nat} (h : p < (inR P L N).length) : (inR P L N)[p] = inS P L p := by simp [inR]
theorem mem_inS {P : Nat → Nat → Prop} {L p : Nat} (x : Int) : x ∈ inS P L p ↔ ∃ k : Nat, x = k ∧ k < L ∧ P k p := by
  simp only [inS, List.mem_map, List.mem_filter, List.mem_range, decide_eq_true_eq]
  constructor
  · rintro ⟨k, ⟨h1, h2⟩, rfl⟩; exact ⟨k, rfl, h1, h2⟩
  · rintro ⟨k, rfl, h1, h2⟩; exact ⟨k, ⟨h1, h2⟩, rfl⟩
theorem inS_rise (P : Nat → Nat → Prop) (L p : Nat) : (inS P L p).Pairwise (· < ·) := by
  unfold inS
  refine List.pairwise_map.2 ?_
  refine (List.Pairwise.filter _ List.pairwise_lt_range).imp ?_
  intro a b h
  omega
theorem inS_len (P : Nat → Nat → Prop) (L p : Nat) : (inS P L p).length ≤ L := by
  unfold inS
  rw [List.length_map]
  exact Nat.le_trans (List.length_filter_le _ _) (by simp)
section
variable {nxf : Nat → List Nat} {pt : Nat → Nat} {ok ends : Nat → Nat → Bool} {L N : Nat}
theorem Goes.lt {k p : Nat} (h : Goes nxf pt ok ends L k p) : k < L := by
  induction h with
  | seed p hk _ _ => exact hk
  | step p q _ _ _ _ ih => exact ih
theorem Goes.okd {k p : Nat} (h : Goes nxf pt ok ends L k p) : ok k p = true := by
  induction h with
  | seed p _ _ h => exact h
  | step p q _ _ _ h ih => exact h
/-- More that is allowed: nothing is lost. -/
theorem Goes.mono {ok' : Nat → Nat → Bool} (hm : ∀ k p, ok k p = true → ok' k p = true) {k p : Nat} (h : Goes nxf pt ok ends L k p) : Goes nxf pt ok' ends L k p := by
  induction h with
  | seed p hk hp h => exact .seed _ p hk hp (hm _ _ h)
  | step p q _ he hq h ih => exact .step _ p q ih he hq (hm _ _ h)
theorem rows_inR {rch : Nat → Bool} {Rc : Nat → Prop} {vs : List Pr} {R : List (List Int)} (hR : RowsInv rch N vs [] R) (hall : ∀ k p, (k, p) ∈ vs ↔ Goes nxf pt ok ends L k p) (hr : ∀ p, p < N → (rch p = true ↔ Rc p)) :
    R.map sortI = inR (fun k p => Goes nxf pt ok ends L k p ∧ Rc p) L N := by
  obtain ⟨hl, hR⟩ := hR
  apply List.ext_getElem
  · rw [inR_len, List.length_map, hl]
  · intro p h1 h2
    rw [List.length_map] at h1
    have hp : p < N := by omega
    obtain ⟨n1, n2⟩ := hR p hp
    have hg : R.getD p [] = R[p] := by simp [h1]
    rw [hg] at n1 n2
    rw [inR_at, List.getElem_map]
    refine rise_uniq (sortI_lt n1) (inS_rise _ _ _) fun x => ?_
    rw [mem_sortI, n2, mem_inS]
    constructor
    · rintro ⟨k, rfl, h3, _, h4⟩
      have := (hall _ _).1 h3
      exact ⟨k, rfl, this.lt, this, (hr p hp).1 h4⟩
    · rintro ⟨k, rfl, _, h3, h4⟩
      exact ⟨k, rfl, (hall _ _).2 h3, by simp, (hr p hp).2 h4⟩
end
end Go.Lg

/-
  Where regions last, put wider bit by bit. Plain laws.
-/
set_option linter.unusedSimpArgs false
set_option linter.unusedVariables false
namespace Go.Lg
open Go Go.RowKit

/-- A row of the wider ones: up to r, k done. -/
def orAt (N : Nat) (more bits : List Bool) (r k j u : Nat) : Bool := if j < r ∨ (j = r ∧ u < k) then more.getD (j * N + u) false || bits.getD (j * N + u) false else more.getD (j * N + u) false
def orRows (N : Nat) (more bits : List Bool) (R r k : Nat) : List (List Bool) := (List.range R).map fun j => (List.range N).map fun u => orAt N more bits r k j u
theorem orRows_len (N : Nat) (more bits : List Bool) (R r k : Nat) : (orRows N more bits R r k).length = R := by simp [orRows]
theorem orRows_row {N : Nat} {more bits : List Bool} {R r k j : Nat} (h : j < (orRows N more bits R r k).length) : (orRows N more bits R r k)[j].length = N := by simp [orRows]
theorem orRows_at {N : Nat} {more bits : List Bool} {R r k j u : Nat} (h : j < (orRows N more bits R r k).length) (h2 : u < (orRows N more bits R r k)[j].length) : (orRows N more bits R r k)[j][u] = orAt N more bits r k j u := by simp [orRows]
theorem orRows_next {N : Nat} {more bits : List Bool} {R r : Nat} : orRows N more bits R r N = orRows N more bits R (r + 1) 0 := by
  unfold orRows
  refine List.map_congr_left fun j _ => List.map_congr_left fun u hu => ?_
  have hu := List.mem_range.1 hu
  unfold orAt
  by_cases h : j < r ∨ (j = r ∧ u < N)
  · rw [if_pos h, if_pos (by omega)]
  · rw [if_neg h, if_neg (by omega)]
theorem orRows_set {N : Nat} {more bits : List Bool} {R r k : Nat} (hr : r < R) (hk : k < N) :
    (orRows N more bits R r k).set r (((List.range N).map fun u => orAt N more bits r k r u).set k (more.getD (r * N + k) false || bits.getD (r * N + k) false)) = orRows N more bits R r (k + 1) := by
  apply List.ext_getElem
  · simp [orRows]
  · intro j h1 h2
    rw [List.getElem_set]
    by_cases e : r = j
    · subst e
      rw [if_pos rfl]
      apply List.ext_getElem
      · simp [orRows]
      · intro u h3 h4
        rw [List.getElem_set]
        simp only [orRows, List.getElem_map, List.getElem_range]
        by_cases e2 : k = u
        · subst e2
          rw [if_pos rfl]
          unfold orAt
          rw [if_pos (by omega)]
        · rw [if_neg e2]
          unfold orAt
          by_cases h : r < r ∨ (r = r ∧ u < k)
          · rw [if_pos h, if_pos (by omega)]
          · rw [if_neg h, if_neg (by omega)]
    · rw [if_neg e]
      simp only [orRows, List.getElem_map, List.getElem_range]
      refine List.map_congr_left fun u _ => ?_
      unfold orAt
      by_cases h : j < r ∨ (j = r ∧ u < k)
      · rw [if_pos h, if_pos (by omega)]
      · rw [if_neg h, if_neg (by omega)]
theorem orRows_get {N : Nat} {more bits : List Bool} {R r k : Nat} (h : r < (orRows N more bits R r k).length) : (orRows N more bits R r k)[r] = (List.range N).map fun u => orAt N more bits r k r u := by simp [orRows]
theorem orAt_here (N : Nat) (more bits : List Bool) (r k : Nat) : orAt N more bits r k r k = more.getD (r * N + k) false := by
  unfold orAt; rw [if_neg (by omega)]
theorem orRows_all {N : Nat} {more bits : List Bool} {R g p : Nat} (hg : g < R) (hp : p < N) : ((orRows N more bits R R 0).getD g []).getD p false = (more.getD (g * N + p) false || bits.getD (g * N + p) false) := by
  simp [orRows, orAt, hg, hp]

theorem rowV_sok {α : Type} {f : α → List V} {H : Heap} {d j : Nat} {R : List (List α)} (ho : ∀ (i : Nat) (h : i < R.length), H (4398046511104 + d, i) = some (.row 0 1 (R[i].flatMap f))) (hf : ∀ x, (f x).length = 1) (hs : ∀ r : List α, (r.flatMap f).all (sok H j) = true) :
    (rowV d 0 (rsI f R)).all (sok H (j + 1)) = true := by
  refine List.all_eq_true.2 fun v hv => ?_
  obtain ⟨i, hi, rfl⟩ := List.getElem_of_mem hv
  have hi' : i < R.length := by rwa [rowV_len, rsI_len] at hi
  have h0 := rowV_at d (rsI f R) 0 i (by rw [rsI_len]; exact hi')
  rw [Nat.zero_add, List.getElem?_eq_getElem hi] at h0
  injection h0 with h0
  rw [h0, rsI_at]
  have hl : (R[i].flatMap f).length = R[i].length := by rw [flat_len hf, Nat.mul_one]
  have ht : (R[i].flatMap f).take R[i].length = R[i].flatMap f := List.take_of_length_le (by rw [hl]; exact Nat.le_refl _)
  simp only [sok, ho i hi', Nat.zero_add, Nat.mul_one, hl, Nat.le_refl, decide_true, beq_self_eq_true, List.drop_zero, ht, hs, Bool.and_true]
/-- A part of a list. -/
theorem any_range_succ (C : Nat → Bool) (j : Nat) : (List.range (j + 1)).any C = ((List.range j).any C || C j) := by simp [List.range_succ]
end Go.Lg
