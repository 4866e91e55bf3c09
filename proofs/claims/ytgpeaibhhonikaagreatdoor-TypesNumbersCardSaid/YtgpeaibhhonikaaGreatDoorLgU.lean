/-
  States told slot by slot: a plain value; a slice of the call's own; a pointer to an object of its own; a slice of slices of its own. What is to be shown for a state to be such a one.
-/
import Derived.Test.YtgpeaibhhonikaaGreatDoorLgQ
import Derived.Test.YtgpeaibhhonikaaGreatDoorLgT
set_option linter.unusedSimpArgs false
set_option linter.unusedVariables false
namespace Go.Lg
open Go Go.RowKit

/-- What a slot holds. -/
inductive SS where
  | val (v : V)
  | frz (v : V)
  | own (esz n : Nat) (cs : List V)
  | box (cs : List V)
  | rows (esz : Nat) (rs : List (Nat × List V))
  | mapS (es : List (V × V))
  | boxm (cs : List V) (es : List (V × V))
  | ownF (esz n : Nat) (cs : List V)
  | boxo (esz n : Nat) (cs : List V)
  | boxG (pre : List V) (esz n : Nat) (cs post : List V)
  | clo (f : FuncId) (ds : List Nat)
  | ali (d' : Nat)

def rowV (d : Nat) : Nat → List (Nat × List V) → List V
  | _, [] => []
  | i, r :: rs => .msl (4398046511104 + d, i) 0 0 r.1 :: rowV d (i + 1) rs

def SS.v (d : Nat) : SS → V
  | .val v => v
  | .frz v => v
  | .own _ n _ => .msl (2199023255552 + d, 0) 0 0 n
  | .box _ => .mp (2199023255552 + d, 0) 0 0
  | .rows _ rs => .msl (2199023255552 + d, 0) 0 0 rs.length
  | .mapS _ => .mm (2199023255552 + d, 0)
  | .boxm _ _ => .mp (2199023255552 + d, 0) 0 0
  | .ownF _ n _ => .msl (2199023255552 + d, 0) 0 0 n
  | .boxo _ _ _ => .mp (2199023255552 + d, 0) 0 0
  | .boxG .. => .mp (2199023255552 + d, 0) 0 0
  | .clo f ds => .fn f (ds.map fun d' => .mp (2199023255552 + d', 0) 0 0)
  | .ali d' => .mp (2199023255552 + d', 0) 0 0

/-- Is it a pointer to an object of its own? -/
def SS.isBox : SS → Bool
  | .box _ | .boxm .. | .boxo .. | .boxG .. => true
  | _ => false

def slO : List (Nat × SS) → Nat → V
  | [], _ => .junk
  | (d, s) :: r, t => if t = d then s.v d else slO r t

def rowO (d esz : Nat) (rs : List (Nat × List V)) (k : Key) : Option LObj := if k.1 = 4398046511104 + d then (rs[k.2]?).map fun r => .row 0 esz r.2 else none

def hpO : List (Nat × SS) → Heap
  | [], _ => none
  | (_, .val _) :: r, k => hpO r k
  | (_, .frz _) :: r, k => hpO r k
  | (d, .own esz _ cs) :: r, k => if k = (2199023255552 + d, 0) then some (.row 0 esz cs) else hpO r k
  | (d, .box cs) :: r, k => if k = (2199023255552 + d, 0) then some (.row 0 0 cs) else hpO r k
  | (d, .mapS es) :: r, k => if k = (2199023255552 + d, 0) then some (.map es) else hpO r k
  | (d, .boxm cs es) :: r, k => if k = (2199023255552 + d, 0) then some (.row 0 0 (cs ++ [.mm (4398046511104 + d, 0)])) else if k = (4398046511104 + d, 0) then some (.map es) else hpO r k
  | (d, .ownF esz _ cs) :: r, k => if k = (2199023255552 + d, 0) then some (.row 0 esz cs) else hpO r k
  | (d, .boxo esz n cs) :: r, k => if k = (2199023255552 + d, 0) then some (.row 0 0 [.msl (4398046511104 + d, 0) 0 0 n]) else if k = (4398046511104 + d, 0) then some (.row 0 esz cs) else hpO r k
  | (d, .boxG pre esz n cs post) :: r, k => if k = (2199023255552 + d, 0) then some (.row 0 0 (pre ++ .msl (4398046511104 + d, 0) 0 0 n :: post)) else if k = (4398046511104 + d, 0) then some (.row 0 esz cs) else hpO r k
  | (_, .clo ..) :: r, k => hpO r k
  | (_, .ali _) :: r, k => hpO r k
  | (d, .rows esz rs) :: r, k => if k = (2199023255552 + d, 0) then some (.row 0 1 (rowV d 0 rs)) else if k.1 = 4398046511104 + d then (rs[k.2]?).map (fun r => .row 0 esz r.2) else hpO r k

def mxO : List (Nat × SS) → Nat
  | [] => 1
  | (_, .rows _ rs) :: r => rs.length + mxO r
  | _ :: r => mxO r
def cnO (L : List (Nat × SS)) (c : Nat → Nat) (s : Nat) : Nat := if s < 2199023255552 then 0 else if s < PK then mxO L else c s

def stO (L : List (Nat × SS)) (c : Nat → Nat) : St := ⟨slO L, hpO L, cnO L c⟩

/-- One row of a slice of slices. -/
def rowAt (H : Heap) (esz : Nat) (U : Key → Prop) (κ : Nat → Option Key) (i : Nat) (r : Nat × List V) : Option V → Prop
  | some (.msl k g off m) => ∃ cs, H k = some (.row g esz cs) ∧ off = 0 ∧ m = r.1 ∧ cs = r.2 ∧ cs.all (imV 8) = true ∧ ¬ U k ∧ k.1 < PK ∧ κ i = some k
  | some .e0 => r.1 = 0 ∧ r.2 = [] ∧ κ i = none
  | _ => False

def ownAt (H : Heap) (esz n : Nat) (cs : List V) (U : Key → Prop) (K : (Key → Prop) → Prop) : V → Prop
  | .msl k g off m => match H k with
    | some (.row g' esz' cs') => (g' = g ∧ off = 0 ∧ m = n ∧ esz' = esz ∧ cs' = cs ∧ cs.all (imV 8) = true ∧ ¬ U k ∧ k.1 < PK) ∧ K fun k' => k' = k ∨ U k'
    | _ => False
  | .e0 => (n = 0 ∧ cs = []) ∧ K U
  | _ => False
def boxAt (H : Heap) (cs : List V) (U : Key → Prop) (K : (Key → Prop) → Prop) : V → Prop
  | .mp k g off => match H k with
    | some (.row g' esz' cs') => (g' = g ∧ off = 0 ∧ esz' = 0 ∧ cs' = cs ∧ cs.all (imV 8) = true ∧ ¬ U k ∧ k.1 < PK) ∧ K fun k' => k' = k ∨ U k'
    | _ => False
  | _ => False
def mapAt (H hf : Heap) (es : List (V × V)) (U : Key → Prop) (K : (Key → Prop) → Prop) : V → Prop
  | .mm k => match H k with
    | some (.map es') => (es'.map (fun p => (p.1, snap hf 8 p.2)) = es ∧ es'.all (fun p => imV 8 p.1) = true ∧ ¬ U k ∧ k.1 < PK) ∧ K fun k' => k' = k ∨ U k'
    | _ => False
  | _ => False
def boxmAt (H hf : Heap) (cs : List V) (es : List (V × V)) (U : Key → Prop) (K : (Key → Prop) → Prop) : V → Prop
  | .mp k g off => match H k with
    | some (.row g' esz' cs') => match cs'[cs.length]? with
      | some (.mm k2) => match H k2 with
        | some (.map es') => (g' = g ∧ off = 0 ∧ esz' = 0 ∧ cs'.length = cs.length + 1 ∧ cs'.take cs.length = cs ∧ cs.all (imV 8) = true ∧ ¬ U k ∧ k.1 < PK) ∧
            (es'.map (fun p => (p.1, snap hf 8 p.2)) = es ∧ es'.all (fun p => imV 8 p.1) = true ∧ ¬ U k2 ∧ k2.1 < PK) ∧ K fun k' => (k' = k ∨ k' = k2) ∨ U k'
        | _ => False
      | _ => False
    | _ => False
  | _ => False
def ownFAt (H hf : Heap) (esz n : Nat) (cs : List V) (U : Key → Prop) (K : (Key → Prop) → Prop) : V → Prop
  | .msl k g off m => match H k with
    | some (.row g' esz' cs') => (g' = g ∧ off = 0 ∧ m = n ∧ esz' = esz ∧ cs'.map (snap hf 8) = cs ∧ ¬ U k ∧ k.1 < PK) ∧ K fun k' => k' = k ∨ U k'
    | _ => False
  | .e0 => (n = 0 ∧ cs = []) ∧ K U
  | _ => False
def boxoAt (H : Heap) (esz n : Nat) (cs : List V) (U : Key → Prop) (K : (Key → Prop) → Prop) : V → Prop
  | .mp k g off => match H k with
    | some (.row g' esz0 [.msl k2 g2 off2 m]) => match H k2 with
      | some (.row g2' esz' cs') => (g' = g ∧ off = 0 ∧ esz0 = 0 ∧ ¬ U k ∧ k.1 < PK) ∧ (g2' = g2 ∧ off2 = 0 ∧ m = n ∧ esz' = esz ∧ cs' = cs ∧ cs.all (imV 8) = true ∧ ¬ U k2 ∧ k2.1 < PK) ∧ k2 ≠ k ∧ K fun k' => (k' = k ∨ k' = k2) ∨ U k'
      | _ => False
    | some (.row g' esz0 [.e0]) => (g' = g ∧ off = 0 ∧ esz0 = 0 ∧ n = 0 ∧ cs = [] ∧ ¬ U k ∧ k.1 < PK) ∧ K fun k' => k' = k ∨ U k'
    | _ => False
  | _ => False
/-- A list cut where another one ends. -/
def cutAt : List V → List V → Option (List V × V × List V)
  | [], x :: r => some ([], x, r)
  | _ :: p, x :: r => match cutAt p r with
    | some (a, y, b) => some (x :: a, y, b)
    | none => none
  | _, [] => none
theorem cutAt_ok : ∀ (p l : List V) {a : List V} {y : V} {b : List V}, cutAt p l = some (a, y, b) → l = a ++ y :: b ∧ a.length = p.length
  | [], [], _, _, _, h => by cases h
  | [], x :: r, _, _, _, h => by cases h; exact ⟨rfl, rfl⟩
  | _ :: _, [], _, _, _, h => by cases h
  | _ :: p, x :: r, a, y, b, h => by
    simp only [cutAt] at h
    cases hc : cutAt p r with
    | none => rw [hc] at h; cases h
    | some q =>
      obtain ⟨a', y', b'⟩ := q
      rw [hc] at h
      cases h
      obtain ⟨h1, h2⟩ := cutAt_ok p r hc
      exact ⟨by rw [h1]; rfl, by rw [List.length_cons, List.length_cons, h2]⟩
def boxGAt (H hf : Heap) (pre : List V) (esz n : Nat) (cs post : List V) (U : Key → Prop) (K : (Key → Prop) → Prop) : V → Prop
  | .mp k g off => match H k with
    | some (.row g' esz0 cells) => match cutAt pre cells with
      | some (a, .msl k2 g2 off2 m, b) => match H k2 with
        | some (.row g2' esz' cs') => (g' = g ∧ off = 0 ∧ esz0 = 0 ∧ a.map (snap hf 8) = pre ∧ b.map (snap hf 8) = post ∧ ¬ U k ∧ k.1 < PK) ∧ (g2' = g2 ∧ off2 = 0 ∧ m = n ∧ esz' = esz ∧ cs'.map (snap hf 8) = cs ∧ ¬ U k2 ∧ k2.1 < PK) ∧ k2 ≠ k ∧ K fun k' => (k' = k ∨ k' = k2) ∨ U k'
        | _ => False
      | some (a, .e0, b) => (g' = g ∧ off = 0 ∧ esz0 = 0 ∧ n = 0 ∧ cs = [] ∧ a.map (snap hf 8) = pre ∧ b.map (snap hf 8) = post ∧ ¬ U k ∧ k.1 < PK) ∧ K fun k' => k' = k ∨ U k'
      | _ => False
    | _ => False
  | _ => False
theorem vr_cells {H hf : Heap} {r : Ren} {a b pre post : List V} {y y' : V} (hr : r.fz = hf) (ha : a.map (snap hf 8) = pre) (hb : b.map (snap hf 8) = post) (hy : VR H r y y') (j : Nat) (x z : V) (hx : (a ++ y :: b)[j]? = some x) (hz : (pre ++ y' :: post)[j]? = some z) : VR H r x z := by
  subst hr ha hb
  rw [List.getElem?_append] at hx hz
  rw [List.length_map] at hz
  by_cases hj : j < a.length
  · rw [if_pos hj] at hx hz
    rw [List.getElem?_map, hx] at hz
    cases hz; exact .frz _ 8
  · rw [if_neg hj] at hx hz
    cases hd : j - a.length with
    | zero => rw [hd] at hx hz; cases hx; cases hz; exact hy
    | succ m =>
      rw [hd] at hx hz
      rw [List.getElem?_cons_succ] at hx hz
      rw [List.getElem?_map, hx] at hz
      cases hz; exact .frz _ 8
def rowsAt (H : Heap) (esz : Nat) (rs : List (Nat × List V)) (U : Key → Prop) (K : (Key → Prop) → Prop) : V → Prop
  | .msl k g off m => match H k with
    | some (.row g' esz' cells) => (g' = g ∧ off = 0 ∧ m = rs.length ∧ esz' = 1 ∧ cells.length = rs.length ∧ ¬ U k ∧ k.1 < PK) ∧
        ∃ κ : Nat → Option Key, (∀ (i : Nat) (r : Nat × List V), rs[i]? = some r → rowAt H esz (fun k' => k' = k ∨ U k') κ i r cells[i]?) ∧ (∀ i j k, κ i = some k → κ j = some k → i = j) ∧
          (∀ i, rs.length ≤ i → κ i = none) ∧ K fun k' => (k' = k ∨ ∃ i, κ i = some k') ∨ U k'
    | _ => False
  | .e0 => rs = [] ∧ K U
  | _ => False

def entS (σ : St) (hf : Heap) (d : Nat) (L : List (Nat × SS)) (U : Key → Prop) (K : (Key → Prop) → Prop) : SS → Prop
  | .val v => (σ.tm d = v ∧ imV 8 v = true) ∧ K U
  | .frz v => snap hf 8 (σ.tm d) = v ∧ K U
  | .own esz n cs => ownAt σ.H esz n cs U K (σ.tm d)
  | .box cs => boxAt σ.H cs U K (σ.tm d)
  | .rows esz rs => rowsAt σ.H esz rs U K (σ.tm d)
  | .mapS es => mapAt σ.H hf es U K (σ.tm d)
  | .boxm cs es => boxmAt σ.H hf cs es U K (σ.tm d)
  | .ownF esz n cs => ownFAt σ.H hf esz n cs U K (σ.tm d)
  | .boxo esz n cs => boxoAt σ.H esz n cs U K (σ.tm d)
  | .boxG pre esz n cs post => boxGAt σ.H hf pre esz n cs post U K (σ.tm d)
  | .clo f ds => (σ.tm d = .fn f (ds.map σ.tm) ∧ ds.all (fun d' => L.any fun p => p.1 == d' && p.2.isBox) = true) ∧ K U
  | .ali d' => (σ.tm d = σ.tm d' ∧ (L.any fun p => p.1 == d' && p.2.isBox) = true) ∧ K U

def entL (σ : St) (hf : Heap) : List (Nat × SS) → (Key → Prop) → Prop
  | [], _ => True
  | (d, s) :: r, U => entS σ hf d r U (entL σ hf r) s

def dOk (L : List (Nat × SS)) : Bool := (L.map (·.1)).Nodup && (L.map (·.1)).all fun d => decide (d < 1099511627776)

/-- The new keys of a slot. -/
def nK (d : Nat) (k : Key) : Prop := k.1 = 2199023255552 + d ∨ k.1 = 4398046511104 + d

structure Wit (σ : St) (hf : Heap) (L : List (Nat × SS)) (U : Key → Prop) (pi : Key → Option Key) (nil : Key → Bool) : Prop where
  fpi : ∀ k' k, pi k' = some k → ¬ U k ∧ k.1 < PK ∧ ∃ p ∈ L, nK p.1 k'
  finj : ∀ k1 k2 k, pi k1 = some k → pi k2 = some k → k1 = k2
  fnil : ∀ k', nil k' = true → pi k' = none ∧ ∃ p ∈ L, nK p.1 k'
  ftm : ∀ r : Ren, (∀ k' k, pi k' = some k → r.pi k' = some k) → (∀ k', nil k' = true → r.nil k' = true) → r.fz = hf → ∀ p ∈ L, VR σ.H r (σ.tm p.1) (p.2.v p.1)
  fH : ∀ r : Ren, (∀ k' k, pi k' = some k → r.pi k' = some k) → (∀ k', nil k' = true → r.nil k' = true) → r.fz = hf → ∀ k' o', hpO L k' = some o' →
    (∃ k gen esz cs cs', pi k' = some k ∧ σ.H k = some (.row gen esz cs) ∧ o' = .row 0 esz cs' ∧ cs.length = cs'.length ∧ ∀ (j : Nat) (x y : V), cs[j]? = some x → cs'[j]? = some y → VR σ.H r x y) ∨
      (nil k' = true ∧ ∃ esz, o' = .row 0 esz []) ∨ (∃ k es, pi k' = some k ∧ σ.H k = some (.map es) ∧ o' = .map (es.map fun p => (p.1, snap hf 8 p.2)) ∧ es.all (fun p => imV 8 p.1) = true)
  fcnt : ∀ s n, mxO L ≤ n → pi (s, n) = none ∧ nil (s, n) = false

theorem hpO_keys : ∀ {L : List (Nat × SS)} {k : Key} {o : LObj}, hpO L k = some o → ∃ p ∈ L, nK p.1 k
  | [], _, _, h => by cases h
  | (d, .val _) :: r, k, o, h => by
    obtain ⟨p, h1, h2⟩ := hpO_keys (L := r) h
    exact ⟨p, List.mem_cons_of_mem _ h1, h2⟩
  | (d, .frz _) :: r, k, o, h => by
    obtain ⟨p, h1, h2⟩ := hpO_keys (L := r) h
    exact ⟨p, List.mem_cons_of_mem _ h1, h2⟩
  | (d, .own esz n cs) :: r, k, o, h => by
    simp only [hpO] at h
    split at h
    · rename_i e; subst e; exact ⟨_, List.mem_cons_self .., .inl rfl⟩
    · obtain ⟨p, h1, h2⟩ := hpO_keys (L := r) h
      exact ⟨p, List.mem_cons_of_mem _ h1, h2⟩
  | (d, .box cs) :: r, k, o, h => by
    simp only [hpO] at h
    split at h
    · rename_i e; subst e; exact ⟨_, List.mem_cons_self .., .inl rfl⟩
    · obtain ⟨p, h1, h2⟩ := hpO_keys (L := r) h
      exact ⟨p, List.mem_cons_of_mem _ h1, h2⟩
  | (d, .mapS es) :: r, k, o, h => by
    simp only [hpO] at h
    split at h
    · rename_i e; subst e; exact ⟨_, List.mem_cons_self .., .inl rfl⟩
    · obtain ⟨p, h1, h2⟩ := hpO_keys (L := r) h
      exact ⟨p, List.mem_cons_of_mem _ h1, h2⟩
  | (d, .boxm cs es) :: r, k, o, h => by
    simp only [hpO] at h
    split at h
    · rename_i e; subst e; exact ⟨_, List.mem_cons_self .., .inl rfl⟩
    · split at h
      · rename_i e; subst e; exact ⟨_, List.mem_cons_self .., .inr rfl⟩
      · obtain ⟨p, h1, h2⟩ := hpO_keys (L := r) h
        exact ⟨p, List.mem_cons_of_mem _ h1, h2⟩
  | (d, .ownF esz n cs) :: r, k, o, h => by
    simp only [hpO] at h
    split at h
    · rename_i e; subst e; exact ⟨_, List.mem_cons_self .., .inl rfl⟩
    · obtain ⟨p, h1, h2⟩ := hpO_keys (L := r) h
      exact ⟨p, List.mem_cons_of_mem _ h1, h2⟩
  | (d, .boxo esz n cs) :: r, k, o, h => by
    simp only [hpO] at h
    split at h
    · rename_i e; subst e; exact ⟨_, List.mem_cons_self .., .inl rfl⟩
    · split at h
      · rename_i e; subst e; exact ⟨_, List.mem_cons_self .., .inr rfl⟩
      · obtain ⟨p, h1, h2⟩ := hpO_keys (L := r) h
        exact ⟨p, List.mem_cons_of_mem _ h1, h2⟩
  | (d, .boxG pre esz n cs post) :: r, k, o, h => by
    simp only [hpO] at h
    split at h
    · rename_i e; subst e; exact ⟨_, List.mem_cons_self .., .inl rfl⟩
    · split at h
      · rename_i e; subst e; exact ⟨_, List.mem_cons_self .., .inr rfl⟩
      · obtain ⟨p, h1, h2⟩ := hpO_keys (L := r) h
        exact ⟨p, List.mem_cons_of_mem _ h1, h2⟩
  | (d, .clo ..) :: r, k, o, h => by
    obtain ⟨p, h1, h2⟩ := hpO_keys (L := r) h
    exact ⟨p, List.mem_cons_of_mem _ h1, h2⟩
  | (d, .ali _) :: r, k, o, h => by
    obtain ⟨p, h1, h2⟩ := hpO_keys (L := r) h
    exact ⟨p, List.mem_cons_of_mem _ h1, h2⟩
  | (d, .rows esz rs) :: r, k, o, h => by
    simp only [hpO] at h
    split at h
    · rename_i e; subst e; exact ⟨_, List.mem_cons_self .., .inl rfl⟩
    · split at h
      · rename_i e; exact ⟨_, List.mem_cons_self .., .inr e⟩
      · obtain ⟨p, h1, h2⟩ := hpO_keys (L := r) h
        exact ⟨p, List.mem_cons_of_mem _ h1, h2⟩

theorem rowV_get (d : Nat) : ∀ (rs : List (Nat × List V)) (i j : Nat) (x : V), (rowV d i rs)[j]? = some x → ∃ r, rs[j]? = some r ∧ x = .msl (4398046511104 + d, i + j) 0 0 r.1
  | [], i, j, x, h => by simp [rowV] at h
  | r :: rs, i, 0, x, h => by
    simp only [rowV, List.getElem?_cons_zero, Option.some.injEq] at h
    exact ⟨r, rfl, h.symm⟩
  | r :: rs, i, j + 1, x, h => by
    simp only [rowV, List.getElem?_cons_succ] at h
    obtain ⟨r', h1, h2⟩ := rowV_get d rs (i + 1) j x h
    exact ⟨r', by simpa using h1, by rw [h2, show i + 1 + j = i + (j + 1) by omega]⟩
theorem rowV_len (d : Nat) : ∀ (rs : List (Nat × List V)) (i : Nat), (rowV d i rs).length = rs.length
  | [], _ => rfl
  | _ :: rs, i => by simp [rowV, rowV_len d rs (i + 1)]

theorem dOk_cons {d : Nat} {s : SS} {L : List (Nat × SS)} (h : dOk ((d, s) :: L) = true) : dOk L = true ∧ d < 1099511627776 ∧ ∀ p ∈ L, p.1 ≠ d ∧ p.1 < 1099511627776 := by
  simp only [dOk, List.map_cons, Bool.and_eq_true, decide_eq_true_eq, List.nodup_cons, List.all_cons, List.all_eq_true, List.mem_map, forall_exists_index, and_imp, forall_apply_eq_imp_iff₂] at h ⊢
  obtain ⟨⟨h1, h2⟩, h3, h4⟩ := h
  refine ⟨⟨h2, h4⟩, h3, fun p hp => ⟨?_, h4 p hp⟩⟩
  rintro rfl
  exact h1 ⟨p, hp, rfl⟩

theorem nK_apart {d : Nat} {L : List (Nat × SS)} (hd : d < 1099511627776) (hL : ∀ p ∈ L, p.1 ≠ d ∧ p.1 < 1099511627776) {k : Key} (h : ∃ p ∈ L, nK p.1 k) : ¬ nK d k := by
  obtain ⟨p, hp, h⟩ := h
  obtain ⟨h1, h2⟩ := hL p hp
  unfold nK at *
  omega

instance (d : Nat) (k : Key) : Decidable (nK d k) := by unfold nK; infer_instance

section
variable {σ : St} {hf : Heap}

theorem Wit.consX {d : Nat} {s : SS} {L : List (Nat × SS)} {U U' : Key → Prop} {pi hp : Key → Option Key} {nil hn : Key → Bool} (hok : dOk ((d, s) :: L) = true) (ht : Wit σ hf L U' pi nil) (hU : ∀ k, U k → U' k)
    (h1 : ∀ k' k, nK d k' → hp k' = some k → ¬ U k ∧ k.1 < PK ∧ U' k) (h2 : ∀ k1 k2 k, nK d k1 → nK d k2 → hp k1 = some k → hp k2 = some k → k1 = k2) (h3 : ∀ k', nK d k' → hn k' = true → hp k' = none)
    (h4 : ∀ r : Ren, (∀ k' k, nK d k' → hp k' = some k → r.pi k' = some k) → (∀ k', nK d k' → hn k' = true → r.nil k' = true) → r.fz = hf → (∀ p ∈ L, VR σ.H r (σ.tm p.1) (p.2.v p.1)) → VR σ.H r (σ.tm d) (s.v d))
    (h5 : ∀ r : Ren, (∀ k' k, nK d k' → hp k' = some k → r.pi k' = some k) → (∀ k', nK d k' → hn k' = true → r.nil k' = true) → r.fz = hf → ∀ k' o', nK d k' → hpO ((d, s) :: L) k' = some o' →
      (∃ k gen esz cs cs', hp k' = some k ∧ σ.H k = some (.row gen esz cs) ∧ o' = .row 0 esz cs' ∧ cs.length = cs'.length ∧ ∀ (j : Nat) (x y : V), cs[j]? = some x → cs'[j]? = some y → VR σ.H r x y) ∨
        (hn k' = true ∧ ∃ esz, o' = .row 0 esz []) ∨ (∃ k es, hp k' = some k ∧ σ.H k = some (.map es) ∧ o' = .map (es.map fun p => (p.1, snap hf 8 p.2)) ∧ es.all (fun p => imV 8 p.1) = true))
    (h6 : ∀ k', ¬ nK d k' → hpO ((d, s) :: L) k' = hpO L k') (h7 : ∀ k', nK d k' → mxO ((d, s) :: L) ≤ k'.2 → hp k' = none ∧ hn k' = false) (h8 : mxO L ≤ mxO ((d, s) :: L)) :
    Wit σ hf ((d, s) :: L) U (fun k' => if nK d k' then hp k' else pi k') (fun k' => if nK d k' then hn k' else nil k') := by
  obtain ⟨_, hd, hL⟩ := dOk_cons hok
  have offp : ∀ k' k, pi k' = some k → ¬ nK d k' := fun k' k h => nK_apart hd hL (ht.fpi k' k h).2.2
  have offn : ∀ k', nil k' = true → ¬ nK d k' := fun k' h => nK_apart hd hL (ht.fnil k' h).2
  have self : ∃ p ∈ (d, s) :: L, p.1 = d := ⟨_, List.mem_cons_self .., rfl⟩
  refine ⟨?_, ?_, ?_, ?_, ?_, ?_⟩
  · intro k' k h
    try simp only [] at h
    split at h
    · rename_i hk
      obtain ⟨a1, a2, _⟩ := h1 k' k hk h
      exact ⟨a1, a2, _, List.mem_cons_self .., hk⟩
    · obtain ⟨a1, a2, p, hp1, hp2⟩ := ht.fpi k' k h
      exact ⟨fun hu => a1 (hU k hu), a2, p, List.mem_cons_of_mem _ hp1, hp2⟩
  · intro k1 k2 k ha hb
    try simp only [] at ha hb
    split at ha <;> split at hb
    · rename_i e1 e2; exact h2 k1 k2 k e1 e2 ha hb
    · rename_i e1 e2; exact absurd (h1 k1 k e1 ha).2.2 (ht.fpi k2 k hb).1
    · rename_i e1 e2; exact absurd (h1 k2 k e2 hb).2.2 (ht.fpi k1 k ha).1
    · exact ht.finj k1 k2 k ha hb
  · intro k' h
    try simp only [] at h ⊢
    split at h
    · rename_i hk
      rw [if_pos hk]
      exact ⟨h3 k' hk h, _, List.mem_cons_self .., hk⟩
    · rename_i hk
      rw [if_neg hk]
      obtain ⟨a1, p, hp1, hp2⟩ := ht.fnil k' h
      exact ⟨a1, p, List.mem_cons_of_mem _ hp1, hp2⟩
  · intro r e1 e2 e3 p hp'
    rcases List.mem_cons.1 hp' with rfl | hp'
    · exact h4 r (fun k' k hk h => e1 k' k (by rw [if_pos hk]; exact h)) (fun k' hk h => e2 k' (by rw [if_pos hk]; exact h)) e3 (ht.ftm r (fun k' k h => e1 k' k (by rw [if_neg (offp k' k h)]; exact h)) (fun k' h => e2 k' (by rw [if_neg (offn k' h)]; exact h)) e3)
    · exact ht.ftm r (fun k' k h => e1 k' k (by rw [if_neg (offp k' k h)]; exact h)) (fun k' h => e2 k' (by rw [if_neg (offn k' h)]; exact h)) e3 p hp'
  · intro r e1 e2 e3 k' o' ho
    by_cases hk : nK d k'
    · rcases h5 r (fun k' k hk h => e1 k' k (by rw [if_pos hk]; exact h)) (fun k' hk h => e2 k' (by rw [if_pos hk]; exact h)) e3 k' o' hk ho with ⟨k, gen, esz, cs, cs', a1, a2⟩ | ⟨a1, a2⟩ | ⟨k, es, a1, a2⟩
      · exact .inl ⟨k, gen, esz, cs, cs', by rw [if_pos hk]; exact a1, a2⟩
      · exact .inr (.inl ⟨by rw [if_pos hk]; exact a1, a2⟩)
      · exact .inr (.inr ⟨k, es, by rw [if_pos hk]; exact a1, a2⟩)
    · rw [h6 k' hk] at ho
      rcases ht.fH r (fun k' k h => e1 k' k (by rw [if_neg (offp k' k h)]; exact h)) (fun k' h => e2 k' (by rw [if_neg (offn k' h)]; exact h)) e3 k' o' ho with ⟨k, gen, esz, cs, cs', a1, a2⟩ | ⟨a1, a2⟩ | ⟨k, es, a1, a2⟩
      · exact .inl ⟨k, gen, esz, cs, cs', by rw [if_neg hk]; exact a1, a2⟩
      · exact .inr (.inl ⟨by rw [if_neg hk]; exact a1, a2⟩)
      · exact .inr (.inr ⟨k, es, by rw [if_neg hk]; exact a1, a2⟩)
  · intro s' n hn'
    try simp only []
    by_cases hk : nK d (s', n)
    · rw [if_pos hk, if_pos hk]; exact h7 _ hk hn'
    · rw [if_neg hk, if_neg hk]; exact ht.fcnt s' n (Nat.le_trans h8 hn')

theorem Wit.cons {d : Nat} {s : SS} {L : List (Nat × SS)} {U U' : Key → Prop} {pi hp : Key → Option Key} {nil hn : Key → Bool} (hok : dOk ((d, s) :: L) = true) (ht : Wit σ hf L U' pi nil) (hU : ∀ k, U k → U' k)
    (h1 : ∀ k' k, nK d k' → hp k' = some k → ¬ U k ∧ k.1 < PK ∧ U' k) (h2 : ∀ k1 k2 k, nK d k1 → nK d k2 → hp k1 = some k → hp k2 = some k → k1 = k2) (h3 : ∀ k', nK d k' → hn k' = true → hp k' = none)
    (h4 : ∀ r : Ren, (∀ k' k, nK d k' → hp k' = some k → r.pi k' = some k) → (∀ k', nK d k' → hn k' = true → r.nil k' = true) → r.fz = hf → VR σ.H r (σ.tm d) (s.v d))
    (h5 : ∀ r : Ren, (∀ k' k, nK d k' → hp k' = some k → r.pi k' = some k) → (∀ k', nK d k' → hn k' = true → r.nil k' = true) → r.fz = hf → ∀ k' o', nK d k' → hpO ((d, s) :: L) k' = some o' →
      (∃ k gen esz cs cs', hp k' = some k ∧ σ.H k = some (.row gen esz cs) ∧ o' = .row 0 esz cs' ∧ cs.length = cs'.length ∧ ∀ (j : Nat) (x y : V), cs[j]? = some x → cs'[j]? = some y → VR σ.H r x y) ∨
        (hn k' = true ∧ ∃ esz, o' = .row 0 esz []) ∨ (∃ k es, hp k' = some k ∧ σ.H k = some (.map es) ∧ o' = .map (es.map fun p => (p.1, snap hf 8 p.2)) ∧ es.all (fun p => imV 8 p.1) = true))
    (h6 : ∀ k', ¬ nK d k' → hpO ((d, s) :: L) k' = hpO L k') (h7 : ∀ k', nK d k' → mxO ((d, s) :: L) ≤ k'.2 → hp k' = none ∧ hn k' = false) (h8 : mxO L ≤ mxO ((d, s) :: L)) :
    Wit σ hf ((d, s) :: L) U (fun k' => if nK d k' then hp k' else pi k') (fun k' => if nK d k' then hn k' else nil k') :=
  ht.consX hok hU h1 h2 h3 (fun r a b c _ => h4 r a b c) h5 h6 h7 h8

theorem mxO_pos : ∀ L : List (Nat × SS), 1 ≤ mxO L
  | [] => Nat.le_refl _
  | (_, .val _) :: r => mxO_pos r
  | (_, .frz _) :: r => mxO_pos r
  | (_, .own ..) :: r => mxO_pos r
  | (_, .box _) :: r => mxO_pos r
  | (_, .mapS _) :: r => mxO_pos r
  | (_, .boxm ..) :: r => mxO_pos r
  | (_, .ownF ..) :: r => mxO_pos r
  | (_, .boxo ..) :: r => mxO_pos r
  | (_, .boxG ..) :: r => mxO_pos r
  | (_, .clo ..) :: r => mxO_pos r
  | (_, .ali _) :: r => mxO_pos r
  | (_, .rows _ rs) :: r => by have := mxO_pos r; simp only [mxO]; omega

theorem pure_get {cs : List V} {r : Ren} (h : cs.all (imV 8) = true) (j : Nat) (x y : V) (hx : cs[j]? = some x) (hy : cs[j]? = some y) : VR σ.H r x y := by
  rw [hx] at hy; cases hy
  exact .pure x 8 (List.all_eq_true.1 h x (List.mem_of_getElem? hx))

theorem wit_of : ∀ (L : List (Nat × SS)) (U : Key → Prop), dOk L = true → entL σ hf L U → ∃ pi nil, Wit σ hf L U pi nil
  | [], U, _, _ => ⟨fun _ => none, fun _ => false, ⟨fun _ _ h => (by cases h), fun _ _ _ h => (by cases h), fun _ h => (by cases h), fun _ _ _ _ p hp => (by cases hp), fun _ _ _ _ _ _ h => (by cases h), fun _ _ _ => ⟨rfl, rfl⟩⟩⟩
  | (d, s) :: L, U, hok, h => by
    obtain ⟨hok', hd, hL⟩ := dOk_cons hok
    have noK : ∀ (k' : Key) o, nK d k' → hpO L k' = some o → False := fun k' o hk ho => nK_apart hd hL (hpO_keys ho) hk
    cases s with
    | val v =>
      obtain ⟨⟨h1, h2⟩, h⟩ := h
      obtain ⟨pi, nil, hw⟩ := wit_of L U hok' h
      exact ⟨_, _, hw.cons (hp := fun _ => none) (hn := fun _ => false) hok (fun _ h => h) (fun _ _ _ h => by cases h) (fun _ _ _ _ _ h => by cases h) (fun _ _ _ => rfl) (fun r _ _ _ => by rw [h1]; exact .pure v 8 h2)
        (fun r _ _ _ k' o' hk ho => (noK k' o' hk ho).elim) (fun _ _ => rfl) (fun _ _ _ => ⟨rfl, rfl⟩) (Nat.le_refl _)⟩
    | frz v =>
      obtain ⟨h1, h⟩ := h
      obtain ⟨pi, nil, hw⟩ := wit_of L U hok' h
      exact ⟨_, _, hw.cons (hp := fun _ => none) (hn := fun _ => false) hok (fun _ h => h) (fun _ _ _ h => by cases h) (fun _ _ _ _ _ h => by cases h) (fun _ _ _ => rfl) (fun r _ _ hr => by rw [SS.v, ← h1, ← hr]; exact .frz _ 8)
        (fun r _ _ _ k' o' hk ho => (noK k' o' hk ho).elim) (fun _ _ => rfl) (fun _ _ _ => ⟨rfl, rfl⟩) (Nat.le_refl _)⟩
    | own esz n cs =>
      simp only [entL, entS] at h
      generalize htm : σ.tm d = X at h
      cases X with
      | msl k g off m =>
        simp only [ownAt] at h
        split at h
        case h_2 => exact h.elim
        rename_i g' esz' cs' hk
        obtain ⟨⟨rfl, rfl, rfl, rfl, rfl, hall, hU, hP⟩, h⟩ := h
        obtain ⟨pi, nil, hw⟩ := wit_of L _ hok' h
        refine ⟨_, _, hw.cons (hp := fun k' => if k' = (2199023255552 + d, 0) then some k else none) (hn := fun _ => false) hok (fun _ h => .inr h) ?_ ?_ (fun _ _ h => by cases h) ?_ ?_ ?_ ?_ (Nat.le_refl _)⟩
        · intro k' k1 _ h1
          try simp only [] at h1
          split at h1
          · cases h1; exact ⟨hU, hP, .inl rfl⟩
          · cases h1
        · intro k1 k2 k3 _ _ a b
          try simp only [] at a b
          split at a
          · split at b
            · rename_i e1 e2; rw [e1, e2]
            · cases b
          · cases a
        · intro r e1 _ _
          rw [htm]
          exact .msl _ _ _ _ _ _ _ (by show _ < PK; unfold PK; omega) (e1 _ k (.inl rfl) (by simp)) hk
        · intro r e1 _ _ k' o' hk' ho
          simp only [hpO] at ho
          split at ho
          · rename_i e
            cases ho
            exact .inl ⟨k, _, _, _, _, by simp [e], hk, rfl, rfl, pure_get hall⟩
          · exact (noK k' o' hk' ho).elim
        · intro k' hk'
          simp only [hpO]
          rw [if_neg]
          rintro rfl
          exact hk' (.inl rfl)
        · intro k' _ hm
          have := mxO_pos L
          simp only [mxO] at hm
          refine ⟨if_neg ?_, rfl⟩
          rintro rfl
          simp at hm; omega
      | e0 =>
        obtain ⟨⟨rfl, rfl⟩, h⟩ := h
        obtain ⟨pi, nil, hw⟩ := wit_of L _ hok' h
        refine ⟨_, _, hw.cons (hp := fun _ => none) (hn := fun k' => decide (k' = (2199023255552 + d, 0))) hok (fun _ h => h) (fun _ _ _ h => by cases h) (fun _ _ _ _ _ h => by cases h) (fun _ _ _ => rfl) ?_ ?_ ?_ ?_ (Nat.le_refl _)⟩
        · intro r _ e2 _
          rw [htm]
          exact .nil _ (e2 _ (.inl rfl) (by simp))
        · intro r e1 _ _ k' o' hk' ho
          simp only [hpO] at ho
          split at ho
          · rename_i e
            cases ho
            exact .inr (.inl ⟨by simp [e], _, rfl⟩)
          · exact (noK k' o' hk' ho).elim
        · intro k' hk'
          simp only [hpO]
          rw [if_neg]
          rintro rfl
          exact hk' (.inl rfl)
        · intro k' _ hm
          have := mxO_pos L
          simp only [mxO] at hm
          refine ⟨rfl, ?_⟩
          simp only [decide_eq_false_iff_not]
          rintro rfl
          simp at hm; omega
      | _ => exact h.elim
    | ownF esz n cs =>
      simp only [entL, entS] at h
      generalize htm : σ.tm d = X at h
      cases X with
      | msl k g off m =>
        simp only [ownFAt] at h
        split at h
        case h_2 => exact h.elim
        rename_i g' esz' cs' hk
        obtain ⟨⟨rfl, rfl, rfl, rfl, rfl, hU, hP⟩, h⟩ := h
        obtain ⟨pi, nil, hw⟩ := wit_of L _ hok' h
        refine ⟨_, _, hw.cons (hp := fun k' => if k' = (2199023255552 + d, 0) then some k else none) (hn := fun _ => false) hok (fun _ h => .inr h) ?_ ?_ (fun _ _ h => by cases h) ?_ ?_ ?_ ?_ (Nat.le_refl _)⟩
        · intro k' k1 _ h1
          try simp only [] at h1
          split at h1
          · cases h1; exact ⟨hU, hP, .inl rfl⟩
          · cases h1
        · intro k1 k2 k3 _ _ a b
          try simp only [] at a b
          split at a
          · split at b
            · rename_i e1 e2; rw [e1, e2]
            · cases b
          · cases a
        · intro r e1 _ _
          rw [htm]
          exact .msl _ _ _ _ _ _ _ (by show _ < PK; unfold PK; omega) (e1 _ k (.inl rfl) (by simp)) hk
        · intro r e1 _ hr k' o' hk' ho
          simp only [hpO] at ho
          split at ho
          · rename_i e
            cases ho
            refine .inl ⟨k, _, _, _, _, by simp [e], hk, rfl, by simp, fun j x y hx hy => ?_⟩
            rw [List.getElem?_map, hx] at hy
            cases hy
            rw [← hr]; exact .frz _ 8
          · exact (noK k' o' hk' ho).elim
        · intro k' hk'
          simp only [hpO]
          rw [if_neg]
          rintro rfl
          exact hk' (.inl rfl)
        · intro k' _ hm
          have := mxO_pos L
          simp only [mxO] at hm
          refine ⟨if_neg ?_, rfl⟩
          rintro rfl
          simp at hm; omega
      | e0 =>
        obtain ⟨⟨rfl, rfl⟩, h⟩ := h
        obtain ⟨pi, nil, hw⟩ := wit_of L _ hok' h
        refine ⟨_, _, hw.cons (hp := fun _ => none) (hn := fun k' => decide (k' = (2199023255552 + d, 0))) hok (fun _ h => h) (fun _ _ _ h => by cases h) (fun _ _ _ _ _ h => by cases h) (fun _ _ _ => rfl) ?_ ?_ ?_ ?_ (Nat.le_refl _)⟩
        · intro r _ e2 _
          rw [htm]
          exact .nil _ (e2 _ (.inl rfl) (by simp))
        · intro r e1 _ _ k' o' hk' ho
          simp only [hpO] at ho
          split at ho
          · rename_i e
            cases ho
            exact .inr (.inl ⟨by simp [e], _, rfl⟩)
          · exact (noK k' o' hk' ho).elim
        · intro k' hk'
          simp only [hpO]
          rw [if_neg]
          rintro rfl
          exact hk' (.inl rfl)
        · intro k' _ hm
          have := mxO_pos L
          simp only [mxO] at hm
          refine ⟨rfl, ?_⟩
          simp only [decide_eq_false_iff_not]
          rintro rfl
          simp at hm; omega
      | _ => exact h.elim
    | boxo esz n cs =>
      simp only [entL, entS] at h
      generalize htm : σ.tm d = X at h
      cases X with
      | mp k g off =>
        have hdd : ((4398046511104 + d, 0) : Key) ≠ (2199023255552 + d, 0) := by intro e; injection e with e; omega
        simp only [boxoAt] at h
        split at h
        · rename_i g' esz0 k2 g2 off2 m hk
          split at h
          case h_2 => exact h.elim
          rename_i g2' esz' cs' hk2
          obtain ⟨⟨rfl, rfl, rfl, hU, hP⟩, ⟨rfl, rfl, rfl, rfl, rfl, hall, hU2, hP2⟩, hne, h⟩ := h
          obtain ⟨pi, nil, hw⟩ := wit_of L _ hok' h
          refine ⟨_, _, hw.cons (hp := fun k' => if k' = (2199023255552 + d, 0) then some k else if k' = (4398046511104 + d, 0) then some k2 else none) (hn := fun _ => false) hok (fun _ h => .inr h) ?_ ?_ (fun _ _ h => by cases h) ?_ ?_ ?_ ?_ (Nat.le_refl _)⟩
          · intro k' k1 _ h1
            try simp only [] at h1
            split at h1
            · cases h1; exact ⟨hU, hP, .inl (.inl rfl)⟩
            · split at h1
              · cases h1; exact ⟨hU2, hP2, .inl (.inr rfl)⟩
              · cases h1
          · intro k1 k3 k4 _ _ a b
            try simp only [] at a b
            split at a
            · rename_i e1
              split at b
              · rename_i e2; rw [e1, e2]
              · split at b
                · cases a; cases b; exact (hne rfl).elim
                · cases b
            · split at a
              · rename_i e1
                split at b
                · cases a; cases b; exact (hne rfl).elim
                · split at b
                  · rename_i e2; rw [e1, e2]
                  · cases b
              · cases a
          · intro r e1 _ _
            rw [htm]
            exact .mp _ _ _ _ _ _ (by show _ < PK; unfold PK; omega) (e1 _ k (.inl rfl) (by simp)) hk
          · intro r e1 _ _ k' o' hk' ho
            simp only [hpO] at ho
            split at ho
            · rename_i e
              cases ho
              refine .inl ⟨k, _, _, _, _, by simp [e], hk, rfl, rfl, fun j x y hx hy => ?_⟩
              cases j with
              | zero =>
                simp at hx hy; subst hx hy
                exact .msl _ _ _ _ _ _ _ (by show _ < PK; unfold PK; omega) (e1 _ k2 (.inr rfl) (by rw [if_neg hdd, if_pos rfl])) hk2
              | succ j => simp at hx
            · split at ho
              · rename_i e0 e
                cases ho
                exact .inl ⟨k2, _, _, _, _, by rw [if_neg e0, if_pos e], hk2, rfl, rfl, pure_get hall⟩
              · exact (noK k' o' hk' ho).elim
          · intro k' hk'
            simp only [hpO]
            rw [if_neg, if_neg]
            · rintro rfl; exact hk' (.inr rfl)
            · rintro rfl; exact hk' (.inl rfl)
          · intro k' _ hm
            have := mxO_pos L
            simp only [mxO] at hm
            refine ⟨?_, rfl⟩
            rw [if_neg (by rintro rfl; simp at hm; omega), if_neg (by rintro rfl; simp at hm; omega)]
        · rename_i g' esz0 hk
          obtain ⟨⟨rfl, rfl, rfl, rfl, rfl, hU, hP⟩, h⟩ := h
          obtain ⟨pi, nil, hw⟩ := wit_of L _ hok' h
          refine ⟨_, _, hw.cons (hp := fun k' => if k' = (2199023255552 + d, 0) then some k else none) (hn := fun k' => decide (k' = (4398046511104 + d, 0))) hok (fun _ h => .inr h) ?_ ?_ ?_ ?_ ?_ ?_ ?_ (Nat.le_refl _)⟩
          · intro k' k1 _ h1
            try simp only [] at h1
            split at h1
            · cases h1; exact ⟨hU, hP, .inl rfl⟩
            · cases h1
          · intro k1 k2 k3 _ _ a b
            try simp only [] at a b
            split at a
            · split at b
              · rename_i e1 e2; rw [e1, e2]
              · cases b
            · cases a
          · intro k' _ h1
            have : k' = (4398046511104 + d, 0) := of_decide_eq_true h1
            rw [this, if_neg hdd]
          · intro r e1 _ _
            rw [htm]
            exact .mp _ _ _ _ _ _ (by show _ < PK; unfold PK; omega) (e1 _ k (.inl rfl) (by simp)) hk
          · intro r e1 e2 _ k' o' hk' ho
            simp only [hpO] at ho
            split at ho
            · rename_i e
              cases ho
              refine .inl ⟨k, _, _, _, _, by simp [e], hk, rfl, rfl, fun j x y hx hy => ?_⟩
              cases j with
              | zero =>
                simp at hx hy; subst hx hy
                exact .nil _ (e2 _ (.inr rfl) (by simp))
              | succ j => simp at hx
            · split at ho
              · rename_i e0 e
                cases ho
                exact .inr (.inl ⟨by simp [e], _, rfl⟩)
              · exact (noK k' o' hk' ho).elim
          · intro k' hk'
            simp only [hpO]
            rw [if_neg, if_neg]
            · rintro rfl; exact hk' (.inr rfl)
            · rintro rfl; exact hk' (.inl rfl)
          · intro k' _ hm
            have := mxO_pos L
            simp only [mxO] at hm
            refine ⟨if_neg (by rintro rfl; simp at hm; omega), ?_⟩
            simp only [decide_eq_false_iff_not]
            rintro rfl
            simp at hm; omega
        · exact h.elim
      | _ => exact h.elim
    | boxG pre esz n cs post =>
      simp only [entL, entS] at h
      generalize htm : σ.tm d = X at h
      cases X with
      | mp k g off =>
        have hdd : ((4398046511104 + d, 0) : Key) ≠ (2199023255552 + d, 0) := by intro e; injection e with e; omega
        simp only [boxGAt] at h
        split at h
        case h_2 => exact h.elim
        rename_i g' esz0 cells hk
        split at h
        · rename_i a k2 g2 off2 m b hcut
          split at h
          case h_2 => exact h.elim
          rename_i g2' esz' cs' hk2
          obtain ⟨⟨rfl, rfl, rfl, ha, hb, hU, hP⟩, ⟨rfl, rfl, rfl, rfl, hcs, hU2, hP2⟩, hne, h⟩ := h
          obtain ⟨hcl, hpl⟩ := cutAt_ok _ _ hcut
          obtain ⟨pi, nil, hw⟩ := wit_of L _ hok' h
          refine ⟨_, _, hw.cons (hp := fun k' => if k' = (2199023255552 + d, 0) then some k else if k' = (4398046511104 + d, 0) then some k2 else none) (hn := fun _ => false) hok (fun _ h => .inr h) ?_ ?_ (fun _ _ h => by cases h) ?_ ?_ ?_ ?_ (Nat.le_refl _)⟩
          · intro k' k1 _ h1
            try simp only [] at h1
            split at h1
            · cases h1; exact ⟨hU, hP, .inl (.inl rfl)⟩
            · split at h1
              · cases h1; exact ⟨hU2, hP2, .inl (.inr rfl)⟩
              · cases h1
          · intro k1 k3 k4 _ _ a b
            try simp only [] at a b
            split at a
            · rename_i e1
              split at b
              · rename_i e2; rw [e1, e2]
              · split at b
                · cases a; cases b; exact (hne rfl).elim
                · cases b
            · split at a
              · rename_i e1
                split at b
                · cases a; cases b; exact (hne rfl).elim
                · split at b
                  · rename_i e2; rw [e1, e2]
                  · cases b
              · cases a
          · intro r e1 _ _
            rw [htm]
            exact .mp _ _ _ _ _ _ (by show _ < PK; unfold PK; omega) (e1 _ k (.inl rfl) (by simp)) hk
          · intro r e1 _ e3 k' o' hk' ho
            simp only [hpO] at ho
            split at ho
            · rename_i e
              cases ho
              subst hcl
              refine .inl ⟨k, _, _, _, _, by simp [e], hk, rfl, by rw [← ha, ← hb]; simp, vr_cells e3 ha hb ?_⟩
              exact .msl _ _ _ _ _ _ _ (by show _ < PK; unfold PK; omega) (e1 _ k2 (.inr rfl) (by rw [if_neg hdd, if_pos rfl])) hk2
            · split at ho
              · rename_i e0 e
                cases ho
                refine .inl ⟨k2, _, _, _, _, by rw [if_neg e0, if_pos e], hk2, rfl, by rw [← hcs]; simp, fun j x y hx hy => ?_⟩
                rw [← hcs, List.getElem?_map, hx] at hy
                cases hy
                rw [← e3]
                exact .frz _ 8
              · exact (noK k' o' hk' ho).elim
          · intro k' hk'
            simp only [hpO]
            rw [if_neg, if_neg]
            · rintro rfl; exact hk' (.inr rfl)
            · rintro rfl; exact hk' (.inl rfl)
          · intro k' _ hm
            have := mxO_pos L
            simp only [mxO] at hm
            refine ⟨?_, rfl⟩
            rw [if_neg (by rintro rfl; simp at hm; omega), if_neg (by rintro rfl; simp at hm; omega)]
        · rename_i a b hcut
          obtain ⟨⟨rfl, rfl, rfl, rfl, rfl, ha, hb, hU, hP⟩, h⟩ := h
          obtain ⟨hcl, hpl⟩ := cutAt_ok _ _ hcut
          obtain ⟨pi, nil, hw⟩ := wit_of L _ hok' h
          refine ⟨_, _, hw.cons (hp := fun k' => if k' = (2199023255552 + d, 0) then some k else none) (hn := fun k' => decide (k' = (4398046511104 + d, 0))) hok (fun _ h => .inr h) ?_ ?_ ?_ ?_ ?_ ?_ ?_ (Nat.le_refl _)⟩
          · intro k' k1 _ h1
            try simp only [] at h1
            split at h1
            · cases h1; exact ⟨hU, hP, .inl rfl⟩
            · cases h1
          · intro k1 k2 k3 _ _ a b
            try simp only [] at a b
            split at a
            · split at b
              · rename_i e1 e2; rw [e1, e2]
              · cases b
            · cases a
          · intro k' _ h1
            have : k' = (4398046511104 + d, 0) := of_decide_eq_true h1
            rw [this, if_neg hdd]
          · intro r e1 _ _
            rw [htm]
            exact .mp _ _ _ _ _ _ (by show _ < PK; unfold PK; omega) (e1 _ k (.inl rfl) (by simp)) hk
          · intro r e1 e2 e3 k' o' hk' ho
            simp only [hpO] at ho
            split at ho
            · rename_i e
              cases ho
              subst hcl
              refine .inl ⟨k, _, _, _, _, by simp [e], hk, rfl, by rw [← ha, ← hb]; simp, vr_cells e3 ha hb ?_⟩
              exact .nil _ (e2 _ (.inr rfl) (by simp))
            · split at ho
              · rename_i e0 e
                cases ho
                exact .inr (.inl ⟨by simp [e], _, rfl⟩)
              · exact (noK k' o' hk' ho).elim
          · intro k' hk'
            simp only [hpO]
            rw [if_neg, if_neg]
            · rintro rfl; exact hk' (.inr rfl)
            · rintro rfl; exact hk' (.inl rfl)
          · intro k' _ hm
            have := mxO_pos L
            simp only [mxO] at hm
            refine ⟨if_neg (by rintro rfl; simp at hm; omega), ?_⟩
            simp only [decide_eq_false_iff_not]
            rintro rfl
            simp at hm; omega
        · exact h.elim
      | _ => exact h.elim
    | ali d' =>
      obtain ⟨⟨h1, h2⟩, h⟩ := h
      obtain ⟨pi, nil, hw⟩ := wit_of L U hok' h
      have hbox : ∀ (d' : Nat) (s' : SS), s'.isBox = true → s'.v d' = .mp (2199023255552 + d', 0) 0 0 := by
        intro d' s' hb
        cases s' <;> first | rfl | cases hb
      refine ⟨_, _, hw.consX (hp := fun _ => none) (hn := fun _ => false) hok (fun _ h => h) (fun _ _ _ h => by cases h) (fun _ _ _ _ _ h => by cases h) (fun _ _ _ => rfl) (fun r e1 e2 e3 e4 => ?_)
        (fun r _ _ _ k' o' hk ho => (noK k' o' hk ho).elim) (fun _ _ => rfl) (fun _ _ _ => ⟨rfl, rfl⟩) (Nat.le_refl _)⟩
      rw [h1]
      obtain ⟨q, hq, hq2⟩ := List.any_eq_true.1 h2
      simp only [Bool.and_eq_true, beq_iff_eq] at hq2
      obtain ⟨rfl, hb⟩ := hq2
      have := e4 q hq
      rw [hbox _ _ hb] at this
      exact this
    | clo f ds =>
      obtain ⟨⟨h1, h2⟩, h⟩ := h
      obtain ⟨pi, nil, hw⟩ := wit_of L U hok' h
      have hbox : ∀ (d' : Nat) (s' : SS), s'.isBox = true → s'.v d' = .mp (2199023255552 + d', 0) 0 0 := by
        intro d' s' hb
        cases s' <;> first | rfl | cases hb
      refine ⟨_, _, hw.consX (hp := fun _ => none) (hn := fun _ => false) hok (fun _ h => h) (fun _ _ _ h => by cases h) (fun _ _ _ _ _ h => by cases h) (fun _ _ _ => rfl) (fun r e1 e2 e3 e4 => ?_)
        (fun r _ _ _ k' o' hk ho => (noK k' o' hk ho).elim) (fun _ _ => rfl) (fun _ _ _ => ⟨rfl, rfl⟩) (Nat.le_refl _)⟩
      rw [h1]
      refine .fn f _ _ (by simp) fun j x y hx hy => ?_
      rw [List.getElem?_map, Option.map_eq_some_iff] at hx hy
      obtain ⟨d1, hd1, rfl⟩ := hx
      obtain ⟨d2, hd2, rfl⟩ := hy
      rw [hd1] at hd2; cases hd2
      have := List.all_eq_true.1 h2 d1 (List.mem_of_getElem? hd1)
      obtain ⟨q, hq, hq2⟩ := List.any_eq_true.1 this
      simp only [Bool.and_eq_true, beq_iff_eq] at hq2
      obtain ⟨rfl, hb⟩ := hq2
      have := e4 q hq
      rw [hbox _ _ hb] at this
      exact this
    | box cs =>
      simp only [entL, entS] at h
      generalize htm : σ.tm d = X at h
      cases X with
      | mp k g off =>
        simp only [boxAt] at h
        split at h
        case h_2 => exact h.elim
        rename_i g' esz' cs' hk
        obtain ⟨⟨rfl, rfl, rfl, rfl, hall, hU, hP⟩, h⟩ := h
        obtain ⟨pi, nil, hw⟩ := wit_of L _ hok' h
        refine ⟨_, _, hw.cons (hp := fun k' => if k' = (2199023255552 + d, 0) then some k else none) (hn := fun _ => false) hok (fun _ h => .inr h) ?_ ?_ (fun _ _ h => by cases h) ?_ ?_ ?_ ?_ (Nat.le_refl _)⟩
        · intro k' k1 _ h1
          try simp only [] at h1
          split at h1
          · cases h1; exact ⟨hU, hP, .inl rfl⟩
          · cases h1
        · intro k1 k2 k3 _ _ a b
          try simp only [] at a b
          split at a
          · split at b
            · rename_i e1 e2; rw [e1, e2]
            · cases b
          · cases a
        · intro r e1 _ _
          rw [htm]
          exact .mp _ _ _ _ _ _ (by show _ < PK; unfold PK; omega) (e1 _ k (.inl rfl) (by simp)) hk
        · intro r e1 _ _ k' o' hk' ho
          simp only [hpO] at ho
          split at ho
          · rename_i e
            cases ho
            exact .inl ⟨k, _, _, _, _, by simp [e], hk, rfl, rfl, pure_get hall⟩
          · exact (noK k' o' hk' ho).elim
        · intro k' hk'
          simp only [hpO]
          rw [if_neg]
          rintro rfl
          exact hk' (.inl rfl)
        · intro k' _ hm
          have := mxO_pos L
          simp only [mxO] at hm
          refine ⟨if_neg ?_, rfl⟩
          rintro rfl
          simp at hm; omega
      | _ => exact h.elim
    | mapS es =>
      simp only [entL, entS] at h
      generalize htm : σ.tm d = X at h
      cases X with
      | mm k =>
        simp only [mapAt] at h
        split at h
        case h_2 => exact h.elim
        rename_i es' hk
        obtain ⟨⟨rfl, hall, hU, hP⟩, h⟩ := h
        obtain ⟨pi, nil, hw⟩ := wit_of L _ hok' h
        refine ⟨_, _, hw.cons (hp := fun k' => if k' = (2199023255552 + d, 0) then some k else none) (hn := fun _ => false) hok (fun _ h => .inr h) ?_ ?_ (fun _ _ h => by cases h) ?_ ?_ ?_ ?_ (Nat.le_refl _)⟩
        · intro k' k1 _ h1
          try simp only [] at h1
          split at h1
          · cases h1; exact ⟨hU, hP, .inl rfl⟩
          · cases h1
        · intro k1 k2 k3 _ _ a b
          try simp only [] at a b
          split at a
          · split at b
            · rename_i e1 e2; rw [e1, e2]
            · cases b
          · cases a
        · intro r e1 _ _
          rw [htm]
          exact .mm _ _ _ (by show _ < PK; unfold PK; omega) (e1 _ k (.inl rfl) (by simp)) hk
        · intro r e1 _ _ k' o' hk' ho
          simp only [hpO] at ho
          split at ho
          · rename_i e
            cases ho
            exact .inr (.inr ⟨k, _, by simp [e], hk, rfl, hall⟩)
          · exact (noK k' o' hk' ho).elim
        · intro k' hk'
          simp only [hpO]
          rw [if_neg]
          rintro rfl
          exact hk' (.inl rfl)
        · intro k' _ hm
          have := mxO_pos L
          simp only [mxO] at hm
          refine ⟨if_neg ?_, rfl⟩
          rintro rfl
          simp at hm; omega
      | _ => exact h.elim
    | boxm cs es =>
      simp only [entL, entS] at h
      generalize htm : σ.tm d = X at h
      cases X with
      | mp k g off =>
        simp only [boxmAt] at h
        split at h
        case h_2 => exact h.elim
        rename_i g' esz' cs' hk
        split at h
        case h_2 => exact h.elim
        rename_i k2 hlast
        split at h
        case h_2 => exact h.elim
        rename_i es' hk2
        obtain ⟨⟨rfl, rfl, rfl, hlen, htake, hall, hU, hP⟩, ⟨rfl, hall2, hU2, hP2⟩, h⟩ := h
        obtain ⟨pi, nil, hw⟩ := wit_of L _ hok' h
        have hne : k ≠ k2 := by rintro rfl; rw [hk] at hk2; cases hk2
        have hdd : ((4398046511104 + d, 0) : Key) ≠ (2199023255552 + d, 0) := by intro e; injection e with e; omega
        refine ⟨_, _, hw.cons (hp := fun k' => if k' = (2199023255552 + d, 0) then some k else if k' = (4398046511104 + d, 0) then some k2 else none) (hn := fun _ => false) hok (fun _ h => .inr h) ?_ ?_ (fun _ _ h => by cases h) ?_ ?_ ?_ ?_ (Nat.le_refl _)⟩
        · intro k' k1 _ h1
          try simp only [] at h1
          split at h1
          · cases h1; exact ⟨hU, hP, .inl (.inl rfl)⟩
          · split at h1
            · cases h1; exact ⟨hU2, hP2, .inl (.inr rfl)⟩
            · cases h1
        · intro k1 k3 k4 _ _ a b
          try simp only [] at a b
          split at a
          · rename_i e1
            split at b
            · rename_i e2; rw [e1, e2]
            · split at b
              · cases a; cases b; exact (hne rfl).elim
              · cases b
          · split at a
            · rename_i e1
              split at b
              · cases a; cases b; exact (hne rfl).elim
              · split at b
                · rename_i e2; rw [e1, e2]
                · cases b
            · cases a
        · intro r e1 _ _
          rw [htm]
          exact .mp _ _ _ _ _ _ (by show _ < PK; unfold PK; omega) (e1 _ k (.inl rfl) (by simp)) hk
        · intro r e1 _ _ k' o' hk' ho
          simp only [hpO] at ho
          split at ho
          · rename_i e
            cases ho
            refine .inl ⟨k, _, _, _, _, by simp [e], hk, rfl, by simp [hlen], fun j x y hx hy => ?_⟩
            rcases Nat.lt_trichotomy j cs.length with hj | hj | hj
            · rw [List.getElem?_append_left hj] at hy
              have hx' : cs[j]? = some x := by rw [← htake, List.getElem?_take, if_pos hj]; exact hx
              exact pure_get hall j x y hx' hy
            · subst hj
              rw [hlast] at hx; cases hx
              rw [List.getElem?_append_right (Nat.le_refl _), Nat.sub_self] at hy
              simp at hy
              subst hy
              exact .mm _ _ _ (by show _ < PK; unfold PK; omega) (e1 _ k2 (.inr rfl) (by rw [if_neg hdd, if_pos rfl])) hk2
            · rw [List.getElem?_eq_none (by omega)] at hx; cases hx
          · split at ho
            · rename_i e0 e
              cases ho
              exact .inr (.inr ⟨k2, _, by rw [if_neg e0, if_pos e], hk2, rfl, hall2⟩)
            · exact (noK k' o' hk' ho).elim
        · intro k' hk'
          simp only [hpO]
          rw [if_neg, if_neg]
          · rintro rfl; exact hk' (.inr rfl)
          · rintro rfl; exact hk' (.inl rfl)
        · intro k' _ hm
          have := mxO_pos L
          simp only [mxO] at hm
          refine ⟨?_, rfl⟩
          rw [if_neg (by rintro rfl; simp at hm; omega), if_neg (by rintro rfl; simp at hm; omega)]
      | _ => exact h.elim
    | rows esz rs =>
      simp only [entL, entS] at h
      generalize htm : σ.tm d = X at h
      cases X with
      | msl k g off m =>
        simp only [rowsAt] at h
        split at h
        case h_2 => exact h.elim
        rename_i g' esz' cells hk
        obtain ⟨⟨rfl, rfl, rfl, rfl, hlen, hU, hP⟩, κ, hrow, hinj, hout, h⟩ := h
        obtain ⟨pi, nil, hw⟩ := wit_of L _ hok' h
        have hκ : ∀ i k', κ i = some k' → ¬ (k' = k ∨ U k') ∧ k'.1 < PK ∧ i < rs.length := by
          intro i k' hi
          have hlt : i < rs.length := by
            rcases Nat.lt_or_ge i rs.length with h | h
            · exact h
            · rw [hout i h] at hi; cases hi
          have hr := hrow i _ (List.getElem?_eq_getElem hlt)
          revert hr
          cases cells[i]? with
          | none => exact fun h => h.elim
          | some c =>
            cases c with
            | msl k1 g1 o1 m1 =>
              rintro ⟨cs, _, _, _, _, _, a1, a2, a3⟩
              rw [a3] at hi; cases hi
              exact ⟨a1, a2, hlt⟩
            | e0 =>
              rintro ⟨_, _, a3⟩
              rw [a3] at hi; cases hi
            | _ => exact fun h => h.elim
        refine ⟨_, _, hw.cons (hp := fun k' => if k' = (2199023255552 + d, 0) then some k else if k'.1 = 4398046511104 + d then κ k'.2 else none)
          (hn := fun k' => decide (k'.1 = 4398046511104 + d) && (decide (k'.2 < rs.length) && (κ k'.2).isNone)) hok (fun _ h => .inr h) ?_ ?_ ?_ ?_ ?_ ?_ ?_ (by simp only [mxO]; omega)⟩
        · intro k' k1 _ h1
          try simp only [] at h1
          split at h1
          · cases h1; exact ⟨hU, hP, .inl (.inl rfl)⟩
          · split at h1
            · obtain ⟨a1, a2, _⟩ := hκ _ _ h1
              exact ⟨fun hu => a1 (.inr hu), a2, .inl (.inr ⟨_, h1⟩)⟩
            · cases h1
        · intro k1 k2 k3 _ _ a b
          try simp only [] at a b
          split at a
          · rename_i e1
            split at b
            · rename_i e2; rw [e1, e2]
            · split at b
              · cases a; exact ((hκ _ _ b).1 (.inl rfl)).elim
              · cases b
          · split at a
            · rename_i e1
              split at b
              · cases b; exact ((hκ _ _ a).1 (.inl rfl)).elim
              · split at b
                · rename_i e2
                  have := hinj _ _ _ a b
                  exact Prod.ext (e1.trans e2.symm) this
                · cases b
            · cases a
        · intro k' _ h1
          simp only [Bool.and_eq_true, decide_eq_true_eq, Option.isNone_iff_eq_none] at h1
          obtain ⟨a1, a2, a3⟩ := h1
          rw [if_neg (by rintro rfl; try simp only [] at a1; omega), if_pos a1]; exact a3
        · intro r e1 _ _
          rw [htm]
          exact .msl _ _ _ _ _ _ _ (by show _ < PK; unfold PK; omega) (e1 _ k (.inl rfl) (by simp)) hk
        · intro r e1 e2 _ k' o' hk' ho
          simp only [hpO] at ho
          split at ho
          · rename_i e
            cases ho
            refine .inl ⟨k, _, _, _, _, by simp [e], hk, rfl, by rw [rowV_len]; exact hlen, fun j x y hx hy => ?_⟩
            obtain ⟨rj, a1, rfl⟩ := rowV_get d rs 0 j y hy
            have hr := hrow j rj a1
            rw [hx] at hr
            rw [Nat.zero_add]
            cases x with
            | msl k1 g1 o1 m1 =>
              obtain ⟨cs, b1, rfl, rfl, _, _, _, _, b3⟩ := hr
              exact .msl _ _ _ _ _ _ _ (by show _ < PK; unfold PK; omega) (e1 _ k1 (.inr rfl) (by
                rw [if_neg (by intro e; injection e with e; omega), if_pos rfl]; exact b3)) b1
            | e0 =>
              obtain ⟨b1, b2, b3⟩ := hr
              rw [b1]
              have hlt := (List.getElem?_eq_some_iff.1 a1).1
              exact .nil _ (e2 _ (.inr rfl) (by simp [b3, hlt]))
            | _ => exact hr.elim
          · split at ho
            · rename_i e0 e
              rw [Option.map_eq_some_iff] at ho
              obtain ⟨rj, a1, rfl⟩ := ho
              have hr := hrow _ rj a1
              revert hr
              cases cells[k'.2]? with
              | none => exact fun h => h.elim
              | some c =>
                cases c with
                | msl k1 g1 o1 m1 =>
                  rintro ⟨cs, b1, _, _, rfl, b2, _, _, b3⟩
                  exact .inl ⟨k1, _, _, _, _, by rw [if_neg e0, if_pos e]; exact b3, b1, rfl, rfl, pure_get b2⟩
                | e0 =>
                  rintro ⟨b1, b2, b3⟩
                  have hlt := (List.getElem?_eq_some_iff.1 a1).1
                  exact .inr (.inl ⟨by simp [e, b3, hlt], _, by rw [b2]⟩)
                | _ => exact fun h => h.elim
            · exact (noK k' o' hk' ho).elim
        · intro k' hk'
          simp only [hpO]
          rw [if_neg, if_neg]
          · intro e; exact hk' (.inr e)
          · rintro rfl
            exact hk' (.inl rfl)
        · intro k' _ hm
          have := mxO_pos L
          simp only [mxO] at hm
          have hge : rs.length ≤ k'.2 := by omega
          refine ⟨?_, ?_⟩
          · rw [if_neg (by rintro rfl; simp at hm; omega)]
            split
            · exact hout _ hge
            · rfl
          · simp only [show ¬ k'.2 < rs.length by omega, decide_false, Bool.false_and, Bool.and_false]
      | e0 =>
        obtain ⟨rfl, h⟩ := h
        obtain ⟨pi, nil, hw⟩ := wit_of L _ hok' h
        refine ⟨_, _, hw.cons (hp := fun _ => none) (hn := fun k' => decide (k' = (2199023255552 + d, 0))) hok (fun _ h => h) (fun _ _ _ h => by cases h) (fun _ _ _ _ _ h => by cases h) (fun _ _ _ => rfl) ?_ ?_ ?_ ?_ (by simp only [mxO]; omega)⟩
        · intro r _ e2 _
          rw [htm]
          exact .nil _ (e2 _ (.inl rfl) (by simp))
        · intro r e1 _ _ k' o' hk' ho
          simp only [hpO] at ho
          split at ho
          · rename_i e
            cases ho
            exact .inr (.inl ⟨by simp [e], _, rfl⟩)
          · split at ho
            · simp at ho
            · exact (noK k' o' hk' ho).elim
        · intro k' hk'
          simp only [hpO]
          rw [if_neg, if_neg]
          · intro e; exact hk' (.inr e)
          · rintro rfl
            exact hk' (.inl rfl)
        · intro k' _ hm
          have := mxO_pos L
          simp only [mxO] at hm
          refine ⟨rfl, ?_⟩
          simp only [decide_eq_false_iff_not]
          rintro rfl
          simp at hm; omega
      | _ => exact h.elim

def hfz (H : Heap) (fl : List Key) : Heap := fun k => if k ∈ fl then H k else none

theorem slO_get : ∀ {L : List (Nat × SS)} {t : Nat}, (∃ p ∈ L, p.1 = t ∧ slO L t = p.2.v p.1) ∨ slO L t = .junk
  | [], _ => .inr rfl
  | (d, s) :: r, t => by
    simp only [slO]
    split
    · rename_i e; exact .inl ⟨_, List.mem_cons_self .., e.symm, rfl⟩
    · rcases slO_get (L := r) (t := t) with ⟨p, h1, h2, h3⟩ | h
      · exact .inl ⟨p, List.mem_cons_of_mem _ h1, h2, h3⟩
      · exact .inr h

/-- A state is one that is told slot by slot. -/
theorem ent_of (L : List (Nat × SS)) (fl : List Key) (hok : dOk L = true) (hfl : fl.all (fun k => decide (k.1 < PK)) = true) (h : entL σ (hfz σ.H fl) L (fun k => k ∈ fl)) : Ent σ (stO L σ.cnt) := by
  obtain ⟨pi, nil, hw⟩ := wit_of L _ hok h
  refine Ent.ren (r := ⟨pi, nil, hfz σ.H fl⟩) ⟨?_, ?_, hw.finj, ?_, ?_, ?_, ?_, ?_⟩
  · intro k o hk
    simp only [hfz] at hk
    split at hk
    · rename_i hm; exact ⟨hk, by simpa using List.all_eq_true.1 hfl k hm⟩
    · cases hk
  · intro k' k hk
    obtain ⟨a1, a2, p, hp, a3⟩ := hw.fpi k' k hk
    have hlt : k'.1 < PK := by
      have : ∀ p ∈ L, p.1 < 1099511627776 := by
        intro p hp
        simp only [dOk, Bool.and_eq_true, List.all_eq_true, List.mem_map, forall_exists_index, and_imp, forall_apply_eq_imp_iff₂, decide_eq_true_eq] at hok
        exact hok.2 p hp
      have := this p hp
      unfold nK at a3; unfold PK; omega
    refine ⟨?_, fun h => by omega, fun _ => a2⟩
    simp only [hfz]; rw [if_neg a1]
  · intro k' hk
    obtain ⟨a1, p, hp, a3⟩ := hw.fnil k' hk
    refine ⟨a1, ?_⟩
    have : ∀ p ∈ L, p.1 < 1099511627776 := by
      intro p hp
      simp only [dOk, Bool.and_eq_true, List.all_eq_true, List.mem_map, forall_exists_index, and_imp, forall_apply_eq_imp_iff₂, decide_eq_true_eq] at hok
      exact hok.2 p hp
    have := this p hp
    unfold nK at a3; unfold PK; omega
  · intro t
    rcases slO_get (L := L) (t := t) with ⟨p, h1, h2, h3⟩ | h3
    · simp only [stO, h3]
      rw [← h2]
      exact hw.ftm _ (fun _ _ h => h) (fun _ h => h) rfl p h1
    · simp only [stO, h3]; exact .junk _
  · intro k' o' ho
    rcases hw.fH ⟨pi, nil, hfz σ.H fl⟩ (fun _ _ h => h) (fun _ h => h) rfl k' o' ho with ⟨k, gen, esz, cs, cs', a1, a2, a3, a4⟩ | h | ⟨k, es, a1, a2, a3, a4⟩
    · left
      have hlt : ¬ PK ≤ k'.1 := by
        obtain ⟨_, _, p, hp, a5⟩ := hw.fpi k' k a1
        have : ∀ p ∈ L, p.1 < 1099511627776 := by
          intro p hp
          simp only [dOk, Bool.and_eq_true, List.all_eq_true, List.mem_map, forall_exists_index, and_imp, forall_apply_eq_imp_iff₂, decide_eq_true_eq] at hok
          exact hok.2 p hp
        have := this p hp
        unfold nK at a5; unfold PK; omega
      exact ⟨k, gen, esz, cs, cs', a1, a2, by rw [if_neg hlt]; exact a3, a4⟩
    · exact .inr (.inl h)
    · right; right
      have hlt : k'.1 < PK := by
        obtain ⟨_, _, p, hp, a5⟩ := hw.fpi k' k a1
        have : ∀ p ∈ L, p.1 < 1099511627776 := by
          intro p hp
          simp only [dOk, Bool.and_eq_true, List.all_eq_true, List.mem_map, forall_exists_index, and_imp, forall_apply_eq_imp_iff₂, decide_eq_true_eq] at hok
          exact hok.2 p hp
        have := this p hp
        unfold nK at a5; unfold PK; omega
      refine ⟨k, es, _, hlt, a1, a2, a3, by simp, fun j p q hp hq => ?_⟩
      rw [List.getElem?_map, hp] at hq; cases hq
      have := List.all_eq_true.1 a4 p (List.mem_of_getElem? hp)
      exact ⟨.pure _ 8 this, .frz _ 8⟩
  · intro s n hn
    simp only [stO, cnO] at hn
    have hlt : ∀ p ∈ L, p.1 < 1099511627776 := by
      intro p hp
      simp only [dOk, Bool.and_eq_true, List.all_eq_true, List.mem_map, forall_exists_index, and_imp, forall_apply_eq_imp_iff₂, decide_eq_true_eq] at hok
      exact hok.2 p hp
    by_cases hs : 2199023255552 ≤ s ∧ s < PK
    · rw [if_neg (by omega), if_pos hs.2] at hn
      exact hw.fcnt s n hn
    · have off : ∀ p ∈ L, ¬ nK p.1 (s, n) := by
        intro p hp hk
        have := hlt p hp
        unfold nK at hk; unfold PK at hs; try simp only [] at hk; omega
      refine ⟨?_, ?_⟩
      · cases hh : pi (s, n) with
        | none => exact hh
        | some k => obtain ⟨_, _, p, hp, hk⟩ := hw.fpi _ k hh; exact (off p hp hk).elim
      · cases hh : nil (s, n) with
        | false => exact hh
        | true => obtain ⟨_, p, hp, hk⟩ := hw.fnil _ hh; exact (off p hp hk).elim
  · intro s hs
    simp only [stO, cnO]
    rw [if_neg (by unfold PK at hs; omega), if_neg (by omega)]
    exact Nat.le_refl _

end

theorem rowV_at (d : Nat) : ∀ (rs : List (Nat × List V)) (i j : Nat) (h : j < rs.length), (rowV d i rs)[j]? = some (.msl (4398046511104 + d, i + j) 0 0 rs[j].1)
  | r :: rs, i, 0, _ => rfl
  | r :: rs, i, j + 1, h => by
    simp only [rowV, List.getElem?_cons_succ]
    rw [rowV_at d rs (i + 1) j (by simpa using h), show i + 1 + j = i + (j + 1) by omega]; rfl
theorem rowV_ld {d j : Nat} {rs : List (Nat × List V)} (h : j < rs.length) : ldV false 1 (rowV d 0 rs) j = some (.msl (4398046511104 + d, j) 0 0 rs[j].1) := by
  have := rowV_at d rs 0 j h
  rw [Nat.zero_add] at this
  simpa [ldV] using this

/-- An object told by fewer of its cells. -/
theorem Ent.cut {σ : St} {key : Key} {g esz : Nat} {cs : List V} (k : Nat) (h : σ.H key = some (.row g esz cs)) : Ent σ ⟨σ.tm, hupd σ.H key (.row g esz (cs.take k)), σ.cnt⟩ := by
  rintro E a w ⟨gh, hs⟩
  refine ⟨gh, ⟨hs.below, hs.sizeB, hs.size, hs.defers, hs.tm, hs.immlt, hs.imm0, hs.immB, ?_, ?_, ?_, hs.ref0⟩⟩
  · intro k' o ho
    simp only [hupd] at ho
    split at ho
    · rename_i e; subst e; cases ho
      obtain ⟨blk, cap, r1, r2, r3⟩ := hs.obj _ _ h
      refine ⟨blk, cap, r1, r2, ?_⟩
      cases blk with
      | none => exact ⟨by rw [r3.1]; simp, r3.2⟩
      | some b =>
        obtain ⟨q1, q2, q3, us, T, fz, t1, t2, t3, t4, t5⟩ := r3
        refine ⟨q1, q2, q3, us, T, fz, t1, t2, by rw [List.length_take]; omega, t4, fun j u c hu hc => ?_⟩
        rw [List.getElem?_take] at hc
        split at hc
        · exact t5 j u c hu hc
        · cases hc
    · exact hs.obj _ _ ho
  · intro k1 k2 o1 o2 b h1 h2 hb1 hb2
    have old : ∀ (k' : Key) (o : LObj), hupd σ.H key (.row g esz (cs.take k)) k' = some o → ∃ o', σ.H k' = some o' ∧ blkOf gh k' o' = blkOf gh k' o := by
      intro k' o ho
      simp only [hupd] at ho
      split at ho
      · rename_i e; subst e; cases ho
        exact ⟨_, h, rfl⟩
      · exact ⟨o, ho, rfl⟩
    obtain ⟨o1', a1, a2⟩ := old k1 o1 h1
    obtain ⟨o2', b1, b2⟩ := old k2 o2 h2
    exact hs.apart k1 k2 o1' o2' b a1 b1 (by rw [a2]; exact hb1) (by rw [b2]; exact hb2)
  · intro s n hn
    have hf := hs.fresh s n hn
    refine ⟨?_, hf.2⟩
    simp only [hupd]
    rw [if_neg]
    · exact hf.1
    · rintro rfl; rw [hf.1] at h; cases h

end Go.Lg
