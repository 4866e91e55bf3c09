/-
  LgU LgV LgR LgS Byt Byc Sha ShaB Csh Csk: put together.
-/
import Derived.Test.YthpffaofpcikiaaCPc
import GoSem.ClaimChange
import Derived.ChangeArms
import Derived.OpenShut
import Derived.Lib.SmallJoins
import Derived.Test.YthpffaofpcikiaaProg
import Derived.WalkKit
import Derived.Lib.Bytealg
import Derived.Lib.BytesEntry
set_option linter.unusedSimpArgs false
set_option linter.unusedVariables false
namespace Go.Lg
open Go Go.RowKit

/-- What a slot holds. -/
inductive SS where
  | val (v : V)
  | frz (v : V)
  | own (esz n : Nat) (cs : List V)
  | box (cs : List V)
  | rows (esz : Nat) (rs : List (Nat × List V))
  | mapS (es : List (V × V))
  | boxm (cs : List V) (es : List (V × V))
  | ownF (esz n : Nat) (cs : List V)
  | boxo (esz n : Nat) (cs : List V)
  | boxG (pre : List V) (esz n : Nat) (cs post : List V)
  | clo (f : FuncId) (ds : List Nat)
  | ali (d' : Nat)
  | que (esz q n : Nat) (cs : List V)
  | itr (left : List (V × V))

def rowV (d : Nat) : Nat → List (Nat × List V) → List V
  | _, [] => []
  | i, r :: rs => .msl (4398046511104 + d, i) 0 0 r.1 :: rowV d (i + 1) rs

def SS.v (d : Nat) : SS → V
  | .val v => v
  | .frz v => v
  | .own _ n _ => .msl (2199023255552 + d, 0) 0 0 n
  | .box _ => .mp (2199023255552 + d, 0) 0 0
  | .rows _ rs => .msl (2199023255552 + d, 0) 0 0 rs.length
  | .mapS _ => .mm (2199023255552 + d, 0)
  | .boxm _ _ => .mp (2199023255552 + d, 0) 0 0
  | .ownF _ n _ => .msl (2199023255552 + d, 0) 0 0 n
  | .boxo _ _ _ => .mp (2199023255552 + d, 0) 0 0
  | .boxG .. => .mp (2199023255552 + d, 0) 0 0
  | .clo f ds => .fn f (ds.map fun d' => .mp (2199023255552 + d', 0) 0 0)
  | .ali d' => .mp (2199023255552 + d', 0) 0 0
  | .que esz q n _ => .qsl (2199023255552 + d, 0) 0 esz q n
  | .itr _ => .mp (2199023255552 + d, 0) 0 0

/-- Is it a pointer to an object of its own? -/
def SS.isBox : SS → Bool
  | .box _ | .boxm .. | .boxo .. | .boxG .. => true
  | _ => false

def slO : List (Nat × SS) → Nat → V
  | [], _ => .junk
  | (d, s) :: r, t => if t = d then s.v d else slO r t

def hpO : List (Nat × SS) → Heap
  | [], _ => none
  | (_, .val _) :: r, k => hpO r k
  | (_, .frz _) :: r, k => hpO r k
  | (d, .own esz _ cs) :: r, k => if k = (2199023255552 + d, 0) then some (.row 0 esz cs) else hpO r k
  | (d, .box cs) :: r, k => if k = (2199023255552 + d, 0) then some (.row 0 0 cs) else hpO r k
  | (d, .mapS es) :: r, k => if k = (2199023255552 + d, 0) then some (.map es) else hpO r k
  | (d, .boxm cs es) :: r, k => if k = (2199023255552 + d, 0) then some (.row 0 0 (cs ++ [.mm (4398046511104 + d, 0)])) else if k = (4398046511104 + d, 0) then some (.map es) else hpO r k
  | (d, .ownF esz _ cs) :: r, k => if k = (2199023255552 + d, 0) then some (.row 0 esz cs) else hpO r k
  | (d, .boxo esz n cs) :: r, k => if k = (2199023255552 + d, 0) then some (.row 0 0 [.msl (4398046511104 + d, 0) 0 0 n]) else if k = (4398046511104 + d, 0) then some (.row 0 esz cs) else hpO r k
  | (d, .boxG pre esz n cs post) :: r, k => if k = (2199023255552 + d, 0) then some (.row 0 0 (pre ++ .msl (4398046511104 + d, 0) 0 0 n :: post)) else if k = (4398046511104 + d, 0) then some (.row 0 esz cs) else hpO r k
  | (_, .clo ..) :: r, k => hpO r k
  | (_, .ali _) :: r, k => hpO r k
  | (d, .que esz _ _ cs) :: r, k => if k = (2199023255552 + d, 0) then some (.row 0 esz cs) else hpO r k
  | (d, .itr left) :: r, k => if k = (2199023255552 + d, 0) then some (.it left none) else hpO r k
  | (d, .rows esz rs) :: r, k => if k = (2199023255552 + d, 0) then some (.row 0 1 (rowV d 0 rs)) else if k.1 = 4398046511104 + d then (rs[k.2]?).map (fun r => .row 0 esz r.2) else hpO r k

def mxO : List (Nat × SS) → Nat
  | [] => 1
  | (_, .rows _ rs) :: r => rs.length + mxO r
  | _ :: r => mxO r
def cnO (L : List (Nat × SS)) (c : Nat → Nat) (s : Nat) : Nat := if s < 2199023255552 then 0 else if s < PK then mxO L else c s

def stO (L : List (Nat × SS)) (c : Nat → Nat) : St := ⟨slO L, hpO L, cnO L c⟩

/-- One row of a slice of slices. -/
def rowAt (H : Heap) (esz : Nat) (U : Key → Prop) (κ : Nat → Option Key) (i : Nat) (r : Nat × List V) : Option V → Prop
  | some (.msl k g off m) => ∃ cs, H k = some (.row g esz cs) ∧ off = 0 ∧ m = r.1 ∧ cs = r.2 ∧ cs.all (imV 8) = true ∧ ¬ U k ∧ k.1 < PK ∧ κ i = some k
  | some .e0 => r.1 = 0 ∧ r.2 = [] ∧ κ i = none
  | _ => False

def ownAt (H : Heap) (esz n : Nat) (cs : List V) (U : Key → Prop) (K : (Key → Prop) → Prop) : V → Prop
  | .msl k g off m => match H k with
    | some (.row g' esz' cs') => (g' = g ∧ off = 0 ∧ m = n ∧ esz' = esz ∧ cs' = cs ∧ cs.all (imV 8) = true ∧ ¬ U k ∧ k.1 < PK) ∧ K fun k' => k' = k ∨ U k'
    | _ => False
  | .e0 => (n = 0 ∧ cs = []) ∧ K U
  | _ => False
def queAt (H : Heap) (esz q n : Nat) (cs : List V) (U : Key → Prop) (K : (Key → Prop) → Prop) : V → Prop
  | .qsl k g e q' m => match H k with
    | some (.row g' esz' cs') => (g' = g ∧ e = esz ∧ q' = q ∧ m = n ∧ esz' = esz ∧ cs' = cs ∧ cs.all (imV 8) = true ∧ ¬ U k ∧ k.1 < PK) ∧ K fun k' => k' = k ∨ U k'
    | _ => False
  | .msl k g off m => match H k with
    | some (.row g' esz' cs') => (g' = g ∧ off = 0 ∧ q = 0 ∧ m = n ∧ esz' = esz ∧ cs' = cs ∧ cs.all (imV 8) = true ∧ ¬ U k ∧ k.1 < PK) ∧ K fun k' => k' = k ∨ U k'
    | _ => False
  | _ => False
def itAt (H : Heap) (left : List (V × V)) (U : Key → Prop) (K : (Key → Prop) → Prop) : V → Prop
  | .mp k g off => match H k with
    | some (.it left' _) => (g = 0 ∧ off = 0 ∧ left' = left ∧ left.all (fun p => imV 8 p.1 && imV 8 p.2) = true ∧ ¬ U k ∧ k.1 < PK) ∧ K fun k' => k' = k ∨ U k'
    | _ => False
  | _ => False
def boxAt (H : Heap) (cs : List V) (U : Key → Prop) (K : (Key → Prop) → Prop) : V → Prop
  | .mp k g off => match H k with
    | some (.row g' esz' cs') => (g' = g ∧ off = 0 ∧ esz' = 0 ∧ cs' = cs ∧ cs.all (imV 8) = true ∧ ¬ U k ∧ k.1 < PK) ∧ K fun k' => k' = k ∨ U k'
    | _ => False
  | _ => False
def mapAt (H hf : Heap) (es : List (V × V)) (U : Key → Prop) (K : (Key → Prop) → Prop) : V → Prop
  | .mm k => match H k with
    | some (.map es') => (es'.map (fun p => (p.1, snap hf 8 p.2)) = es ∧ es'.all (fun p => imV 8 p.1) = true ∧ ¬ U k ∧ k.1 < PK) ∧ K fun k' => k' = k ∨ U k'
    | _ => False
  | _ => False
def boxmAt (H hf : Heap) (cs : List V) (es : List (V × V)) (U : Key → Prop) (K : (Key → Prop) → Prop) : V → Prop
  | .mp k g off => match H k with
    | some (.row g' esz' cs') => match cs'[cs.length]? with
      | some (.mm k2) => match H k2 with
        | some (.map es') => (g' = g ∧ off = 0 ∧ esz' = 0 ∧ cs'.length = cs.length + 1 ∧ cs'.take cs.length = cs ∧ cs.all (imV 8) = true ∧ ¬ U k ∧ k.1 < PK) ∧
            (es'.map (fun p => (p.1, snap hf 8 p.2)) = es ∧ es'.all (fun p => imV 8 p.1) = true ∧ ¬ U k2 ∧ k2.1 < PK) ∧ K fun k' => (k' = k ∨ k' = k2) ∨ U k'
        | _ => False
      | _ => False
    | _ => False
  | _ => False
def ownFAt (H hf : Heap) (esz n : Nat) (cs : List V) (U : Key → Prop) (K : (Key → Prop) → Prop) : V → Prop
  | .msl k g off m => match H k with
    | some (.row g' esz' cs') => (g' = g ∧ off = 0 ∧ m = n ∧ esz' = esz ∧ cs'.map (snap hf 8) = cs ∧ ¬ U k ∧ k.1 < PK) ∧ K fun k' => k' = k ∨ U k'
    | _ => False
  | .e0 => (n = 0 ∧ cs = []) ∧ K U
  | _ => False
def boxoAt (H : Heap) (esz n : Nat) (cs : List V) (U : Key → Prop) (K : (Key → Prop) → Prop) : V → Prop
  | .mp k g off => match H k with
    | some (.row g' esz0 [.msl k2 g2 off2 m]) => match H k2 with
      | some (.row g2' esz' cs') => (g' = g ∧ off = 0 ∧ esz0 = 0 ∧ ¬ U k ∧ k.1 < PK) ∧ (g2' = g2 ∧ off2 = 0 ∧ m = n ∧ esz' = esz ∧ cs' = cs ∧ cs.all (imV 8) = true ∧ ¬ U k2 ∧ k2.1 < PK) ∧ k2 ≠ k ∧ K fun k' => (k' = k ∨ k' = k2) ∨ U k'
      | _ => False
    | some (.row g' esz0 [.e0]) => (g' = g ∧ off = 0 ∧ esz0 = 0 ∧ n = 0 ∧ cs = [] ∧ ¬ U k ∧ k.1 < PK) ∧ K fun k' => k' = k ∨ U k'
    | _ => False
  | _ => False
/-- A list cut where another one ends. -/
def cutAt : List V → List V → Option (List V × V × List V)
  | [], x :: r => some ([], x, r)
  | _ :: p, x :: r => match cutAt p r with
    | some (a, y, b) => some (x :: a, y, b)
    | none => none
  | _, [] => none
theorem cutAt_ok : ∀ (p l : List V) {a : List V} {y : V} {b : List V}, cutAt p l = some (a, y, b) → l = a ++ y :: b ∧ a.length = p.length
  | [], [], _, _, _, h => by cases h
  | [], x :: r, _, _, _, h => by cases h; exact ⟨rfl, rfl⟩
  | _ :: _, [], _, _, _, h => by cases h
  | _ :: p, x :: r, a, y, b, h => by
    simp only [cutAt] at h
    cases hc : cutAt p r with
    | none => rw [hc] at h; cases h
    | some q =>
      obtain ⟨a', y', b'⟩ := q
      rw [hc] at h
      cases h
      obtain ⟨h1, h2⟩ := cutAt_ok p r hc
      exact ⟨by rw [h1]; rfl, by rw [List.length_cons, List.length_cons, h2]⟩
def boxGAt (H hf : Heap) (pre : List V) (esz n : Nat) (cs post : List V) (U : Key → Prop) (K : (Key → Prop) → Prop) : V → Prop
  | .mp k g off => match H k with
    | some (.row g' esz0 cells) => match cutAt pre cells with
      | some (a, .msl k2 g2 off2 m, b) => match H k2 with
        | some (.row g2' esz' cs') => (g' = g ∧ off = 0 ∧ esz0 = 0 ∧ a.map (snap hf 8) = pre ∧ b.map (snap hf 8) = post ∧ ¬ U k ∧ k.1 < PK) ∧ (g2' = g2 ∧ off2 = 0 ∧ m = n ∧ esz' = esz ∧ cs'.map (snap hf 8) = cs ∧ ¬ U k2 ∧ k2.1 < PK) ∧ k2 ≠ k ∧ K fun k' => (k' = k ∨ k' = k2) ∨ U k'
        | _ => False
      | some (a, .e0, b) => (g' = g ∧ off = 0 ∧ esz0 = 0 ∧ n = 0 ∧ cs = [] ∧ a.map (snap hf 8) = pre ∧ b.map (snap hf 8) = post ∧ ¬ U k ∧ k.1 < PK) ∧ K fun k' => k' = k ∨ U k'
      | _ => False
    | _ => False
  | _ => False
theorem vr_cells {H hf : Heap} {r : Ren} {a b pre post : List V} {y y' : V} (hr : r.fz = hf) (ha : a.map (snap hf 8) = pre) (hb : b.map (snap hf 8) = post) (hy : VR H r y y') (j : Nat) (x z : V) (hx : (a ++ y :: b)[j]? = some x) (hz : (pre ++ y' :: post)[j]? = some z) : VR H r x z := by
  subst hr ha hb
  rw [List.getElem?_append] at hx hz
  rw [List.length_map] at hz
  by_cases hj : j < a.length
  · rw [if_pos hj] at hx hz
    rw [List.getElem?_map, hx] at hz
    cases hz; exact .frz _ 8
  · rw [if_neg hj] at hx hz
    cases hd : j - a.length with
    | zero => rw [hd] at hx hz; cases hx; cases hz; exact hy
    | succ m =>
      rw [hd] at hx hz
      rw [List.getElem?_cons_succ] at hx hz
      rw [List.getElem?_map, hx] at hz
      cases hz; exact .frz _ 8
def rowsAt (H : Heap) (esz : Nat) (rs : List (Nat × List V)) (U : Key → Prop) (K : (Key → Prop) → Prop) : V → Prop
  | .msl k g off m => match H k with
    | some (.row g' esz' cells) => (g' = g ∧ off = 0 ∧ m = rs.length ∧ esz' = 1 ∧ cells.length = rs.length ∧ ¬ U k ∧ k.1 < PK) ∧
        ∃ κ : Nat → Option Key, (∀ (i : Nat) (r : Nat × List V), rs[i]? = some r → rowAt H esz (fun k' => k' = k ∨ U k') κ i r cells[i]?) ∧ (∀ i j k, κ i = some k → κ j = some k → i = j) ∧
          (∀ i, rs.length ≤ i → κ i = none) ∧ K fun k' => (k' = k ∨ ∃ i, κ i = some k') ∨ U k'
    | _ => False
  | .e0 => rs = [] ∧ K U
  | _ => False

def entS (σ : St) (hf : Heap) (d : Nat) (L : List (Nat × SS)) (U : Key → Prop) (K : (Key → Prop) → Prop) : SS → Prop
  | .val v => (σ.tm d = v ∧ imV 8 v = true) ∧ K U
  | .frz v => snap hf 8 (σ.tm d) = v ∧ K U
  | .own esz n cs => ownAt σ.H esz n cs U K (σ.tm d)
  | .box cs => boxAt σ.H cs U K (σ.tm d)
  | .rows esz rs => rowsAt σ.H esz rs U K (σ.tm d)
  | .mapS es => mapAt σ.H hf es U K (σ.tm d)
  | .boxm cs es => boxmAt σ.H hf cs es U K (σ.tm d)
  | .ownF esz n cs => ownFAt σ.H hf esz n cs U K (σ.tm d)
  | .boxo esz n cs => boxoAt σ.H esz n cs U K (σ.tm d)
  | .boxG pre esz n cs post => boxGAt σ.H hf pre esz n cs post U K (σ.tm d)
  | .clo f ds => (σ.tm d = .fn f (ds.map σ.tm) ∧ ds.all (fun d' => L.any fun p => p.1 == d' && p.2.isBox) = true) ∧ K U
  | .que esz q n cs => queAt σ.H esz q n cs U K (σ.tm d)
  | .itr left => itAt σ.H left U K (σ.tm d)
  | .ali d' => (σ.tm d = σ.tm d' ∧ (L.any fun p => p.1 == d' && p.2.isBox) = true) ∧ K U

def entL (σ : St) (hf : Heap) : List (Nat × SS) → (Key → Prop) → Prop
  | [], _ => True
  | (d, s) :: r, U => entS σ hf d r U (entL σ hf r) s

def dOk (L : List (Nat × SS)) : Bool := (L.map (·.1)).Nodup && (L.map (·.1)).all fun d => decide (d < 1099511627776)

/-- The new keys of a slot. -/
def nK (d : Nat) (k : Key) : Prop := k.1 = 2199023255552 + d ∨ k.1 = 4398046511104 + d

structure Wit (σ : St) (hf : Heap) (L : List (Nat × SS)) (U : Key → Prop) (pi : Key → Option Key) (nil : Key → Bool) : Prop where
  fpi : ∀ k' k, pi k' = some k → ¬ U k ∧ k.1 < PK ∧ ∃ p ∈ L, nK p.1 k'
  finj : ∀ k1 k2 k, pi k1 = some k → pi k2 = some k → k1 = k2
  fnil : ∀ k', nil k' = true → pi k' = none ∧ ∃ p ∈ L, nK p.1 k'
  ftm : ∀ r : Ren, (∀ k' k, pi k' = some k → r.pi k' = some k) → (∀ k', nil k' = true → r.nil k' = true) → r.fz = hf → ∀ p ∈ L, VR σ.H r (σ.tm p.1) (p.2.v p.1)
  fH : ∀ r : Ren, (∀ k' k, pi k' = some k → r.pi k' = some k) → (∀ k', nil k' = true → r.nil k' = true) → r.fz = hf → ∀ k' o', hpO L k' = some o' →
    (∃ k gen esz cs cs', pi k' = some k ∧ σ.H k = some (.row gen esz cs) ∧ o' = .row 0 esz cs' ∧ cs.length = cs'.length ∧ ∀ (j : Nat) (x y : V), cs[j]? = some x → cs'[j]? = some y → VR σ.H r x y) ∨
      (nil k' = true ∧ ∃ esz, o' = .row 0 esz []) ∨ (∃ k es, pi k' = some k ∧ σ.H k = some (.map es) ∧ o' = .map (es.map fun p => (p.1, snap hf 8 p.2)) ∧ es.all (fun p => imV 8 p.1) = true) ∨
      (∃ k left last, pi k' = some k ∧ σ.H k = some (.it left last) ∧ o' = .it left none ∧ left.all (fun p => imV 8 p.1 && imV 8 p.2) = true)
  fcnt : ∀ s n, mxO L ≤ n → pi (s, n) = none ∧ nil (s, n) = false

theorem hpO_keys : ∀ {L : List (Nat × SS)} {k : Key} {o : LObj}, hpO L k = some o → ∃ p ∈ L, nK p.1 k
  | [], _, _, h => by cases h
  | (d, .val _) :: r, k, o, h => by
    obtain ⟨p, h1, h2⟩ := hpO_keys (L := r) h
    exact ⟨p, List.mem_cons_of_mem _ h1, h2⟩
  | (d, .frz _) :: r, k, o, h => by
    obtain ⟨p, h1, h2⟩ := hpO_keys (L := r) h
    exact ⟨p, List.mem_cons_of_mem _ h1, h2⟩
  | (d, .own esz n cs) :: r, k, o, h => by
    simp only [hpO] at h
    split at h
    · rename_i e; subst e; exact ⟨_, List.mem_cons_self .., .inl rfl⟩
    · obtain ⟨p, h1, h2⟩ := hpO_keys (L := r) h
      exact ⟨p, List.mem_cons_of_mem _ h1, h2⟩
  | (d, .box cs) :: r, k, o, h => by
    simp only [hpO] at h
    split at h
    · rename_i e; subst e; exact ⟨_, List.mem_cons_self .., .inl rfl⟩
    · obtain ⟨p, h1, h2⟩ := hpO_keys (L := r) h
      exact ⟨p, List.mem_cons_of_mem _ h1, h2⟩
  | (d, .mapS es) :: r, k, o, h => by
    simp only [hpO] at h
    split at h
    · rename_i e; subst e; exact ⟨_, List.mem_cons_self .., .inl rfl⟩
    · obtain ⟨p, h1, h2⟩ := hpO_keys (L := r) h
      exact ⟨p, List.mem_cons_of_mem _ h1, h2⟩
  | (d, .boxm cs es) :: r, k, o, h => by
    simp only [hpO] at h
    split at h
    · rename_i e; subst e; exact ⟨_, List.mem_cons_self .., .inl rfl⟩
    · split at h
      · rename_i e; subst e; exact ⟨_, List.mem_cons_self .., .inr rfl⟩
      · obtain ⟨p, h1, h2⟩ := hpO_keys (L := r) h
        exact ⟨p, List.mem_cons_of_mem _ h1, h2⟩
  | (d, .que esz q n cs) :: r, k, o, h => by
    simp only [hpO] at h
    split at h
    · rename_i e; subst e; exact ⟨_, List.mem_cons_self .., .inl rfl⟩
    · obtain ⟨p, h1, h2⟩ := hpO_keys (L := r) h
      exact ⟨p, List.mem_cons_of_mem _ h1, h2⟩
  | (d, .itr left) :: r, k, o, h => by
    simp only [hpO] at h
    split at h
    · rename_i e; subst e; exact ⟨_, List.mem_cons_self .., .inl rfl⟩
    · obtain ⟨p, h1, h2⟩ := hpO_keys (L := r) h
      exact ⟨p, List.mem_cons_of_mem _ h1, h2⟩
  | (d, .ownF esz n cs) :: r, k, o, h => by
    simp only [hpO] at h
    split at h
    · rename_i e; subst e; exact ⟨_, List.mem_cons_self .., .inl rfl⟩
    · obtain ⟨p, h1, h2⟩ := hpO_keys (L := r) h
      exact ⟨p, List.mem_cons_of_mem _ h1, h2⟩
  | (d, .boxo esz n cs) :: r, k, o, h => by
    simp only [hpO] at h
    split at h
    · rename_i e; subst e; exact ⟨_, List.mem_cons_self .., .inl rfl⟩
    · split at h
      · rename_i e; subst e; exact ⟨_, List.mem_cons_self .., .inr rfl⟩
      · obtain ⟨p, h1, h2⟩ := hpO_keys (L := r) h
        exact ⟨p, List.mem_cons_of_mem _ h1, h2⟩
  | (d, .boxG pre esz n cs post) :: r, k, o, h => by
    simp only [hpO] at h
    split at h
    · rename_i e; subst e; exact ⟨_, List.mem_cons_self .., .inl rfl⟩
    · split at h
      · rename_i e; subst e; exact ⟨_, List.mem_cons_self .., .inr rfl⟩
      · obtain ⟨p, h1, h2⟩ := hpO_keys (L := r) h
        exact ⟨p, List.mem_cons_of_mem _ h1, h2⟩
  | (d, .clo ..) :: r, k, o, h => by
    obtain ⟨p, h1, h2⟩ := hpO_keys (L := r) h
    exact ⟨p, List.mem_cons_of_mem _ h1, h2⟩
  | (d, .ali _) :: r, k, o, h => by
    obtain ⟨p, h1, h2⟩ := hpO_keys (L := r) h
    exact ⟨p, List.mem_cons_of_mem _ h1, h2⟩
  | (d, .rows esz rs) :: r, k, o, h => by
    simp only [hpO] at h
    split at h
    · rename_i e; subst e; exact ⟨_, List.mem_cons_self .., .inl rfl⟩
    · split at h
      · rename_i e; exact ⟨_, List.mem_cons_self .., .inr e⟩
      · obtain ⟨p, h1, h2⟩ := hpO_keys (L := r) h
        exact ⟨p, List.mem_cons_of_mem _ h1, h2⟩

theorem rowV_get (d : Nat) : ∀ (rs : List (Nat × List V)) (i j : Nat) (x : V), (rowV d i rs)[j]? = some x → ∃ r, rs[j]? = some r ∧ x = .msl (4398046511104 + d, i + j) 0 0 r.1
  | [], i, j, x, h => by simp [rowV] at h
  | r :: rs, i, 0, x, h => by
    simp only [rowV, List.getElem?_cons_zero, Option.some.injEq] at h
    exact ⟨r, rfl, h.symm⟩
  | r :: rs, i, j + 1, x, h => by
    simp only [rowV, List.getElem?_cons_succ] at h
    obtain ⟨r', h1, h2⟩ := rowV_get d rs (i + 1) j x h
    exact ⟨r', by simpa using h1, by rw [h2, show i + 1 + j = i + (j + 1) by omega]⟩
theorem rowV_len (d : Nat) : ∀ (rs : List (Nat × List V)) (i : Nat), (rowV d i rs).length = rs.length
  | [], _ => rfl
  | _ :: rs, i => by simp [rowV, rowV_len d rs (i + 1)]

theorem dOk_cons {d : Nat} {s : SS} {L : List (Nat × SS)} (h : dOk ((d, s) :: L) = true) : dOk L = true ∧ d < 1099511627776 ∧ ∀ p ∈ L, p.1 ≠ d ∧ p.1 < 1099511627776 := by
  simp only [dOk, List.map_cons, Bool.and_eq_true, decide_eq_true_eq, List.nodup_cons, List.all_cons, List.all_eq_true, List.mem_map, forall_exists_index, and_imp, forall_apply_eq_imp_iff₂] at h ⊢
  obtain ⟨⟨h1, h2⟩, h3, h4⟩ := h
  refine ⟨⟨h2, h4⟩, h3, fun p hp => ⟨?_, h4 p hp⟩⟩
  rintro rfl
  exact h1 ⟨p, hp, rfl⟩

theorem nK_apart {d : Nat} {L : List (Nat × SS)} (hd : d < 1099511627776) (hL : ∀ p ∈ L, p.1 ≠ d ∧ p.1 < 1099511627776) {k : Key} (h : ∃ p ∈ L, nK p.1 k) : ¬ nK d k := by
  obtain ⟨p, hp, h⟩ := h
  obtain ⟨h1, h2⟩ := hL p hp
  unfold nK at *
  omega

instance (d : Nat) (k : Key) : Decidable (nK d k) := by unfold nK; infer_instance

section
variable {σ : St} {hf : Heap}

theorem Wit.consX {d : Nat} {s : SS} {L : List (Nat × SS)} {U U' : Key → Prop} {pi hp : Key → Option Key} {nil hn : Key → Bool} (hok : dOk ((d, s) :: L) = true) (ht : Wit σ hf L U' pi nil) (hU : ∀ k, U k → U' k)
    (h1 : ∀ k' k, nK d k' → hp k' = some k → ¬ U k ∧ k.1 < PK ∧ U' k) (h2 : ∀ k1 k2 k, nK d k1 → nK d k2 → hp k1 = some k → hp k2 = some k → k1 = k2) (h3 : ∀ k', nK d k' → hn k' = true → hp k' = none)
    (h4 : ∀ r : Ren, (∀ k' k, nK d k' → hp k' = some k → r.pi k' = some k) → (∀ k', nK d k' → hn k' = true → r.nil k' = true) → r.fz = hf → (∀ p ∈ L, VR σ.H r (σ.tm p.1) (p.2.v p.1)) → VR σ.H r (σ.tm d) (s.v d))
    (h5 : ∀ r : Ren, (∀ k' k, nK d k' → hp k' = some k → r.pi k' = some k) → (∀ k', nK d k' → hn k' = true → r.nil k' = true) → r.fz = hf → ∀ k' o', nK d k' → hpO ((d, s) :: L) k' = some o' →
      (∃ k gen esz cs cs', hp k' = some k ∧ σ.H k = some (.row gen esz cs) ∧ o' = .row 0 esz cs' ∧ cs.length = cs'.length ∧ ∀ (j : Nat) (x y : V), cs[j]? = some x → cs'[j]? = some y → VR σ.H r x y) ∨
        (hn k' = true ∧ ∃ esz, o' = .row 0 esz []) ∨ (∃ k es, hp k' = some k ∧ σ.H k = some (.map es) ∧ o' = .map (es.map fun p => (p.1, snap hf 8 p.2)) ∧ es.all (fun p => imV 8 p.1) = true) ∨
      (∃ k left last, hp k' = some k ∧ σ.H k = some (.it left last) ∧ o' = .it left none ∧ left.all (fun p => imV 8 p.1 && imV 8 p.2) = true))
    (h6 : ∀ k', ¬ nK d k' → hpO ((d, s) :: L) k' = hpO L k') (h7 : ∀ k', nK d k' → mxO ((d, s) :: L) ≤ k'.2 → hp k' = none ∧ hn k' = false) (h8 : mxO L ≤ mxO ((d, s) :: L)) :
    Wit σ hf ((d, s) :: L) U (fun k' => if nK d k' then hp k' else pi k') (fun k' => if nK d k' then hn k' else nil k') := by
  obtain ⟨_, hd, hL⟩ := dOk_cons hok
  have offp : ∀ k' k, pi k' = some k → ¬ nK d k' := fun k' k h => nK_apart hd hL (ht.fpi k' k h).2.2
  have offn : ∀ k', nil k' = true → ¬ nK d k' := fun k' h => nK_apart hd hL (ht.fnil k' h).2
  have self : ∃ p ∈ (d, s) :: L, p.1 = d := ⟨_, List.mem_cons_self .., rfl⟩
  refine ⟨?_, ?_, ?_, ?_, ?_, ?_⟩
  · intro k' k h
    try simp only [] at h
    split at h
    · rename_i hk
      obtain ⟨a1, a2, _⟩ := h1 k' k hk h
      exact ⟨a1, a2, _, List.mem_cons_self .., hk⟩
    · obtain ⟨a1, a2, p, hp1, hp2⟩ := ht.fpi k' k h
      exact ⟨fun hu => a1 (hU k hu), a2, p, List.mem_cons_of_mem _ hp1, hp2⟩
  · intro k1 k2 k ha hb
    try simp only [] at ha hb
    split at ha <;> split at hb
    · rename_i e1 e2; exact h2 k1 k2 k e1 e2 ha hb
    · rename_i e1 e2; exact absurd (h1 k1 k e1 ha).2.2 (ht.fpi k2 k hb).1
    · rename_i e1 e2; exact absurd (h1 k2 k e2 hb).2.2 (ht.fpi k1 k ha).1
    · exact ht.finj k1 k2 k ha hb
  · intro k' h
    try simp only [] at h ⊢
    split at h
    · rename_i hk
      rw [if_pos hk]
      exact ⟨h3 k' hk h, _, List.mem_cons_self .., hk⟩
    · rename_i hk
      rw [if_neg hk]
      obtain ⟨a1, p, hp1, hp2⟩ := ht.fnil k' h
      exact ⟨a1, p, List.mem_cons_of_mem _ hp1, hp2⟩
  · intro r e1 e2 e3 p hp'
    rcases List.mem_cons.1 hp' with rfl | hp'
    · exact h4 r (fun k' k hk h => e1 k' k (by rw [if_pos hk]; exact h)) (fun k' hk h => e2 k' (by rw [if_pos hk]; exact h)) e3 (ht.ftm r (fun k' k h => e1 k' k (by rw [if_neg (offp k' k h)]; exact h)) (fun k' h => e2 k' (by rw [if_neg (offn k' h)]; exact h)) e3)
    · exact ht.ftm r (fun k' k h => e1 k' k (by rw [if_neg (offp k' k h)]; exact h)) (fun k' h => e2 k' (by rw [if_neg (offn k' h)]; exact h)) e3 p hp'
  · intro r e1 e2 e3 k' o' ho
    by_cases hk : nK d k'
    · rcases h5 r (fun k' k hk h => e1 k' k (by rw [if_pos hk]; exact h)) (fun k' hk h => e2 k' (by rw [if_pos hk]; exact h)) e3 k' o' hk ho with ⟨k, gen, esz, cs, cs', a1, a2⟩ | ⟨a1, a2⟩ | ⟨k, es, a1, a2⟩ | ⟨k, left, last, a1, a2⟩
      · exact .inl ⟨k, gen, esz, cs, cs', by rw [if_pos hk]; exact a1, a2⟩
      · exact .inr (.inl ⟨by rw [if_pos hk]; exact a1, a2⟩)
      · exact .inr (.inr (.inl ⟨k, es, by rw [if_pos hk]; exact a1, a2⟩))
      · exact .inr (.inr (.inr ⟨k, left, last, by rw [if_pos hk]; exact a1, a2⟩))
    · rw [h6 k' hk] at ho
      rcases ht.fH r (fun k' k h => e1 k' k (by rw [if_neg (offp k' k h)]; exact h)) (fun k' h => e2 k' (by rw [if_neg (offn k' h)]; exact h)) e3 k' o' ho with ⟨k, gen, esz, cs, cs', a1, a2⟩ | ⟨a1, a2⟩ | ⟨k, es, a1, a2⟩ | ⟨k, left, last, a1, a2⟩
      · exact .inl ⟨k, gen, esz, cs, cs', by rw [if_neg hk]; exact a1, a2⟩
      · exact .inr (.inl ⟨by rw [if_neg hk]; exact a1, a2⟩)
      · exact .inr (.inr (.inl ⟨k, es, by rw [if_neg hk]; exact a1, a2⟩))
      · exact .inr (.inr (.inr ⟨k, left, last, by rw [if_neg hk]; exact a1, a2⟩))
  · intro s' n hn'
    try simp only []
    by_cases hk : nK d (s', n)
    · rw [if_pos hk, if_pos hk]; exact h7 _ hk hn'
    · rw [if_neg hk, if_neg hk]; exact ht.fcnt s' n (Nat.le_trans h8 hn')

theorem Wit.cons {d : Nat} {s : SS} {L : List (Nat × SS)} {U U' : Key → Prop} {pi hp : Key → Option Key} {nil hn : Key → Bool} (hok : dOk ((d, s) :: L) = true) (ht : Wit σ hf L U' pi nil) (hU : ∀ k, U k → U' k)
    (h1 : ∀ k' k, nK d k' → hp k' = some k → ¬ U k ∧ k.1 < PK ∧ U' k) (h2 : ∀ k1 k2 k, nK d k1 → nK d k2 → hp k1 = some k → hp k2 = some k → k1 = k2) (h3 : ∀ k', nK d k' → hn k' = true → hp k' = none)
    (h4 : ∀ r : Ren, (∀ k' k, nK d k' → hp k' = some k → r.pi k' = some k) → (∀ k', nK d k' → hn k' = true → r.nil k' = true) → r.fz = hf → VR σ.H r (σ.tm d) (s.v d))
    (h5 : ∀ r : Ren, (∀ k' k, nK d k' → hp k' = some k → r.pi k' = some k) → (∀ k', nK d k' → hn k' = true → r.nil k' = true) → r.fz = hf → ∀ k' o', nK d k' → hpO ((d, s) :: L) k' = some o' →
      (∃ k gen esz cs cs', hp k' = some k ∧ σ.H k = some (.row gen esz cs) ∧ o' = .row 0 esz cs' ∧ cs.length = cs'.length ∧ ∀ (j : Nat) (x y : V), cs[j]? = some x → cs'[j]? = some y → VR σ.H r x y) ∨
        (hn k' = true ∧ ∃ esz, o' = .row 0 esz []) ∨ (∃ k es, hp k' = some k ∧ σ.H k = some (.map es) ∧ o' = .map (es.map fun p => (p.1, snap hf 8 p.2)) ∧ es.all (fun p => imV 8 p.1) = true) ∨
      (∃ k left last, hp k' = some k ∧ σ.H k = some (.it left last) ∧ o' = .it left none ∧ left.all (fun p => imV 8 p.1 && imV 8 p.2) = true))
    (h6 : ∀ k', ¬ nK d k' → hpO ((d, s) :: L) k' = hpO L k') (h7 : ∀ k', nK d k' → mxO ((d, s) :: L) ≤ k'.2 → hp k' = none ∧ hn k' = false) (h8 : mxO L ≤ mxO ((d, s) :: L)) :
    Wit σ hf ((d, s) :: L) U (fun k' => if nK d k' then hp k' else pi k') (fun k' => if nK d k' then hn k' else nil k') :=
  ht.consX hok hU h1 h2 h3 (fun r a b c _ => h4 r a b c) h5 h6 h7 h8

theorem mxO_pos : ∀ L : List (Nat × SS), 1 ≤ mxO L
  | [] => Nat.le_refl _
  | (_, .val _) :: r => mxO_pos r
  | (_, .frz _) :: r => mxO_pos r
  | (_, .own ..) :: r => mxO_pos r
  | (_, .box _) :: r => mxO_pos r
  | (_, .mapS _) :: r => mxO_pos r
  | (_, .boxm ..) :: r => mxO_pos r
  | (_, .ownF ..) :: r => mxO_pos r
  | (_, .boxo ..) :: r => mxO_pos r
  | (_, .boxG ..) :: r => mxO_pos r
  | (_, .clo ..) :: r => mxO_pos r
  | (_, .ali _) :: r => mxO_pos r
  | (_, .que ..) :: r => mxO_pos r
  | (_, .itr _) :: r => mxO_pos r
  | (_, .rows _ rs) :: r => by have := mxO_pos r; simp only [mxO]; omega

theorem pure_get {cs : List V} {r : Ren} (h : cs.all (imV 8) = true) (j : Nat) (x y : V) (hx : cs[j]? = some x) (hy : cs[j]? = some y) : VR σ.H r x y := by
  rw [hx] at hy; cases hy
  exact .pure x 8 (List.all_eq_true.1 h x (List.mem_of_getElem? hx))

theorem wit_of : ∀ (L : List (Nat × SS)) (U : Key → Prop), dOk L = true → entL σ hf L U → ∃ pi nil, Wit σ hf L U pi nil
  | [], U, _, _ => ⟨fun _ => none, fun _ => false, ⟨fun _ _ h => (by cases h), fun _ _ _ h => (by cases h), fun _ h => (by cases h), fun _ _ _ _ p hp => (by cases hp), fun _ _ _ _ _ _ h => (by cases h), fun _ _ _ => ⟨rfl, rfl⟩⟩⟩
  | (d, s) :: L, U, hok, h => by
    obtain ⟨hok', hd, hL⟩ := dOk_cons hok
    have noK : ∀ (k' : Key) o, nK d k' → hpO L k' = some o → False := fun k' o hk ho => nK_apart hd hL (hpO_keys ho) hk
    cases s with
    | val v =>
      obtain ⟨⟨h1, h2⟩, h⟩ := h
      obtain ⟨pi, nil, hw⟩ := wit_of L U hok' h
      exact ⟨_, _, hw.cons (hp := fun _ => none) (hn := fun _ => false) hok (fun _ h => h) (fun _ _ _ h => by cases h) (fun _ _ _ _ _ h => by cases h) (fun _ _ _ => rfl) (fun r _ _ _ => by rw [h1]; exact .pure v 8 h2)
        (fun r _ _ _ k' o' hk ho => (noK k' o' hk ho).elim) (fun _ _ => rfl) (fun _ _ _ => ⟨rfl, rfl⟩) (Nat.le_refl _)⟩
    | frz v =>
      obtain ⟨h1, h⟩ := h
      obtain ⟨pi, nil, hw⟩ := wit_of L U hok' h
      exact ⟨_, _, hw.cons (hp := fun _ => none) (hn := fun _ => false) hok (fun _ h => h) (fun _ _ _ h => by cases h) (fun _ _ _ _ _ h => by cases h) (fun _ _ _ => rfl) (fun r _ _ hr => by rw [SS.v, ← h1, ← hr]; exact .frz _ 8)
        (fun r _ _ _ k' o' hk ho => (noK k' o' hk ho).elim) (fun _ _ => rfl) (fun _ _ _ => ⟨rfl, rfl⟩) (Nat.le_refl _)⟩
    | itr left =>
      simp only [entL, entS] at h
      generalize htm : σ.tm d = X at h
      cases X with
      | mp k g off =>
        simp only [itAt] at h
        split at h
        case h_2 => exact h.elim
        rename_i left' last' hk
        obtain ⟨⟨rfl, rfl, rfl, hall, hU, hP⟩, h⟩ := h
        obtain ⟨pi, nil, hw⟩ := wit_of L _ hok' h
        refine ⟨_, _, hw.cons (hp := fun k' => if k' = (2199023255552 + d, 0) then some k else none) (hn := fun _ => false) hok (fun _ h => .inr h) ?_ ?_ (fun _ _ h => by cases h) ?_ ?_ ?_ ?_ (Nat.le_refl _)⟩
        · intro k' k1 _ h1
          try simp only [] at h1
          split at h1
          · cases h1; exact ⟨hU, hP, .inl rfl⟩
          · cases h1
        · intro k1 k2 k3 _ _ a b
          try simp only [] at a b
          split at a
          · split at b
            · rename_i e1 e2; rw [e1, e2]
            · cases b
          · cases a
        · intro r e1 _ _
          rw [htm]
          exact .mpi _ _ _ _ (by show _ < PK; unfold PK; omega) (e1 _ k (.inl rfl) (by simp)) hk
        · intro r e1 _ _ k' o' hk' ho
          simp only [hpO] at ho
          split at ho
          · rename_i e
            cases ho
            exact .inr (.inr (.inr ⟨k, _, _, by simp [e], hk, rfl, hall⟩))
          · exact (noK k' o' hk' ho).elim
        · intro k' hk'
          simp only [hpO]
          rw [if_neg]
          rintro rfl
          exact hk' (.inl rfl)
        · intro k' _ hm
          have := mxO_pos L
          simp only [mxO] at hm
          refine ⟨if_neg ?_, rfl⟩
          rintro rfl
          simp at hm; omega
      | _ => exact h.elim
    | que esz q n cs =>
      simp only [entL, entS] at h
      generalize htm : σ.tm d = X at h
      cases X with
      | msl k g off m =>
        simp only [queAt] at h
        split at h
        case h_2 => exact h.elim
        rename_i g' esz' cs' hk
        obtain ⟨⟨rfl, rfl, rfl, rfl, rfl, rfl, hall, hU, hP⟩, h⟩ := h
        obtain ⟨pi, nil, hw⟩ := wit_of L _ hok' h
        refine ⟨_, _, hw.cons (hp := fun k' => if k' = (2199023255552 + d, 0) then some k else none) (hn := fun _ => false) hok (fun _ h => .inr h) ?_ ?_ (fun _ _ h => by cases h) ?_ ?_ ?_ ?_ (Nat.le_refl _)⟩
        · intro k' k1 _ h1
          try simp only [] at h1
          split at h1
          · cases h1; exact ⟨hU, hP, .inl rfl⟩
          · cases h1
        · intro k1 k2 k3 _ _ a b
          try simp only [] at a b
          split at a
          · split at b
            · rename_i e1 e2; rw [e1, e2]
            · cases b
          · cases a
        · intro r e1 _ _
          rw [htm]
          exact .mslq _ _ _ _ _ _ _ (by show _ < PK; unfold PK; omega) (e1 _ k (.inl rfl) (by simp)) hk
        · intro r e1 _ _ k' o' hk' ho
          simp only [hpO] at ho
          split at ho
          · rename_i e
            cases ho
            exact .inl ⟨k, _, _, _, _, by simp [e], hk, rfl, rfl, pure_get hall⟩
          · exact (noK k' o' hk' ho).elim
        · intro k' hk'
          simp only [hpO]
          rw [if_neg]
          rintro rfl
          exact hk' (.inl rfl)
        · intro k' _ hm
          have := mxO_pos L
          simp only [mxO] at hm
          refine ⟨if_neg ?_, rfl⟩
          rintro rfl
          simp at hm; omega
      | qsl k g e q' m =>
        simp only [queAt] at h
        split at h
        case h_2 => exact h.elim
        rename_i g' esz' cs' hk
        obtain ⟨⟨rfl, rfl, rfl, rfl, rfl, rfl, hall, hU, hP⟩, h⟩ := h
        obtain ⟨pi, nil, hw⟩ := wit_of L _ hok' h
        refine ⟨_, _, hw.cons (hp := fun k' => if k' = (2199023255552 + d, 0) then some k else none) (hn := fun _ => false) hok (fun _ h => .inr h) ?_ ?_ (fun _ _ h => by cases h) ?_ ?_ ?_ ?_ (Nat.le_refl _)⟩
        · intro k' k1 _ h1
          try simp only [] at h1
          split at h1
          · cases h1; exact ⟨hU, hP, .inl rfl⟩
          · cases h1
        · intro k1 k2 k3 _ _ a b
          try simp only [] at a b
          split at a
          · split at b
            · rename_i e1 e2; rw [e1, e2]
            · cases b
          · cases a
        · intro r e1 _ _
          rw [htm]
          exact .qsl _ _ _ _ _ _ _ _ (by show _ < PK; unfold PK; omega) (e1 _ k (.inl rfl) (by simp)) hk
        · intro r e1 _ _ k' o' hk' ho
          simp only [hpO] at ho
          split at ho
          · rename_i e
            cases ho
            exact .inl ⟨k, _, _, _, _, by simp [e], hk, rfl, rfl, pure_get hall⟩
          · exact (noK k' o' hk' ho).elim
        · intro k' hk'
          simp only [hpO]
          rw [if_neg]
          rintro rfl
          exact hk' (.inl rfl)
        · intro k' _ hm
          have := mxO_pos L
          simp only [mxO] at hm
          refine ⟨if_neg ?_, rfl⟩
          rintro rfl
          simp at hm; omega
      | _ => exact h.elim
    | own esz n cs =>
      simp only [entL, entS] at h
      generalize htm : σ.tm d = X at h
      cases X with
      | msl k g off m =>
        simp only [ownAt] at h
        split at h
        case h_2 => exact h.elim
        rename_i g' esz' cs' hk
        obtain ⟨⟨rfl, rfl, rfl, rfl, rfl, hall, hU, hP⟩, h⟩ := h
        obtain ⟨pi, nil, hw⟩ := wit_of L _ hok' h
        refine ⟨_, _, hw.cons (hp := fun k' => if k' = (2199023255552 + d, 0) then some k else none) (hn := fun _ => false) hok (fun _ h => .inr h) ?_ ?_ (fun _ _ h => by cases h) ?_ ?_ ?_ ?_ (Nat.le_refl _)⟩
        · intro k' k1 _ h1
          try simp only [] at h1
          split at h1
          · cases h1; exact ⟨hU, hP, .inl rfl⟩
          · cases h1
        · intro k1 k2 k3 _ _ a b
          try simp only [] at a b
          split at a
          · split at b
            · rename_i e1 e2; rw [e1, e2]
            · cases b
          · cases a
        · intro r e1 _ _
          rw [htm]
          exact .msl _ _ _ _ _ _ _ (by show _ < PK; unfold PK; omega) (e1 _ k (.inl rfl) (by simp)) hk
        · intro r e1 _ _ k' o' hk' ho
          simp only [hpO] at ho
          split at ho
          · rename_i e
            cases ho
            exact .inl ⟨k, _, _, _, _, by simp [e], hk, rfl, rfl, pure_get hall⟩
          · exact (noK k' o' hk' ho).elim
        · intro k' hk'
          simp only [hpO]
          rw [if_neg]
          rintro rfl
          exact hk' (.inl rfl)
        · intro k' _ hm
          have := mxO_pos L
          simp only [mxO] at hm
          refine ⟨if_neg ?_, rfl⟩
          rintro rfl
          simp at hm; omega
      | e0 =>
        obtain ⟨⟨rfl, rfl⟩, h⟩ := h
        obtain ⟨pi, nil, hw⟩ := wit_of L _ hok' h
        refine ⟨_, _, hw.cons (hp := fun _ => none) (hn := fun k' => decide (k' = (2199023255552 + d, 0))) hok (fun _ h => h) (fun _ _ _ h => by cases h) (fun _ _ _ _ _ h => by cases h) (fun _ _ _ => rfl) ?_ ?_ ?_ ?_ (Nat.le_refl _)⟩
        · intro r _ e2 _
          rw [htm]
          exact .nil _ (e2 _ (.inl rfl) (by simp))
        · intro r e1 _ _ k' o' hk' ho
          simp only [hpO] at ho
          split at ho
          · rename_i e
            cases ho
            exact .inr (.inl ⟨by simp [e], _, rfl⟩)
          · exact (noK k' o' hk' ho).elim
        · intro k' hk'
          simp only [hpO]
          rw [if_neg]
          rintro rfl
          exact hk' (.inl rfl)
        · intro k' _ hm
          have := mxO_pos L
          simp only [mxO] at hm
          refine ⟨rfl, ?_⟩
          simp only [decide_eq_false_iff_not]
          rintro rfl
          simp at hm; omega
      | _ => exact h.elim
    | ownF esz n cs =>
      simp only [entL, entS] at h
      generalize htm : σ.tm d = X at h
      cases X with
      | msl k g off m =>
        simp only [ownFAt] at h
        split at h
        case h_2 => exact h.elim
        rename_i g' esz' cs' hk
        obtain ⟨⟨rfl, rfl, rfl, rfl, rfl, hU, hP⟩, h⟩ := h
        obtain ⟨pi, nil, hw⟩ := wit_of L _ hok' h
        refine ⟨_, _, hw.cons (hp := fun k' => if k' = (2199023255552 + d, 0) then some k else none) (hn := fun _ => false) hok (fun _ h => .inr h) ?_ ?_ (fun _ _ h => by cases h) ?_ ?_ ?_ ?_ (Nat.le_refl _)⟩
        · intro k' k1 _ h1
          try simp only [] at h1
          split at h1
          · cases h1; exact ⟨hU, hP, .inl rfl⟩
          · cases h1
        · intro k1 k2 k3 _ _ a b
          try simp only [] at a b
          split at a
          · split at b
            · rename_i e1 e2; rw [e1, e2]
            · cases b
          · cases a
        · intro r e1 _ _
          rw [htm]
          exact .msl _ _ _ _ _ _ _ (by show _ < PK; unfold PK; omega) (e1 _ k (.inl rfl) (by simp)) hk
        · intro r e1 _ hr k' o' hk' ho
          simp only [hpO] at ho
          split at ho
          · rename_i e
            cases ho
            refine .inl ⟨k, _, _, _, _, by simp [e], hk, rfl, by simp, fun j x y hx hy => ?_⟩
            rw [List.getElem?_map, hx] at hy
            cases hy
            rw [← hr]; exact .frz _ 8
          · exact (noK k' o' hk' ho).elim
        · intro k' hk'
          simp only [hpO]
          rw [if_neg]
          rintro rfl
          exact hk' (.inl rfl)
        · intro k' _ hm
          have := mxO_pos L
          simp only [mxO] at hm
          refine ⟨if_neg ?_, rfl⟩
          rintro rfl
          simp at hm; omega
      | e0 =>
        obtain ⟨⟨rfl, rfl⟩, h⟩ := h
        obtain ⟨pi, nil, hw⟩ := wit_of L _ hok' h
        refine ⟨_, _, hw.cons (hp := fun _ => none) (hn := fun k' => decide (k' = (2199023255552 + d, 0))) hok (fun _ h => h) (fun _ _ _ h => by cases h) (fun _ _ _ _ _ h => by cases h) (fun _ _ _ => rfl) ?_ ?_ ?_ ?_ (Nat.le_refl _)⟩
        · intro r _ e2 _
          rw [htm]
          exact .nil _ (e2 _ (.inl rfl) (by simp))
        · intro r e1 _ _ k' o' hk' ho
          simp only [hpO] at ho
          split at ho
          · rename_i e
            cases ho
            exact .inr (.inl ⟨by simp [e], _, rfl⟩)
          · exact (noK k' o' hk' ho).elim
        · intro k' hk'
          simp only [hpO]
          rw [if_neg]
          rintro rfl
          exact hk' (.inl rfl)
        · intro k' _ hm
          have := mxO_pos L
          simp only [mxO] at hm
          refine ⟨rfl, ?_⟩
          simp only [decide_eq_false_iff_not]
          rintro rfl
          simp at hm; omega
      | _ => exact h.elim
    | boxo esz n cs =>
      simp only [entL, entS] at h
      generalize htm : σ.tm d = X at h
      cases X with
      | mp k g off =>
        have hdd : ((4398046511104 + d, 0) : Key) ≠ (2199023255552 + d, 0) := by intro e; injection e with e; omega
        simp only [boxoAt] at h
        split at h
        · rename_i g' esz0 k2 g2 off2 m hk
          split at h
          case h_2 => exact h.elim
          rename_i g2' esz' cs' hk2
          obtain ⟨⟨rfl, rfl, rfl, hU, hP⟩, ⟨rfl, rfl, rfl, rfl, rfl, hall, hU2, hP2⟩, hne, h⟩ := h
          obtain ⟨pi, nil, hw⟩ := wit_of L _ hok' h
          refine ⟨_, _, hw.cons (hp := fun k' => if k' = (2199023255552 + d, 0) then some k else if k' = (4398046511104 + d, 0) then some k2 else none) (hn := fun _ => false) hok (fun _ h => .inr h) ?_ ?_ (fun _ _ h => by cases h) ?_ ?_ ?_ ?_ (Nat.le_refl _)⟩
          · intro k' k1 _ h1
            try simp only [] at h1
            split at h1
            · cases h1; exact ⟨hU, hP, .inl (.inl rfl)⟩
            · split at h1
              · cases h1; exact ⟨hU2, hP2, .inl (.inr rfl)⟩
              · cases h1
          · intro k1 k3 k4 _ _ a b
            try simp only [] at a b
            split at a
            · rename_i e1
              split at b
              · rename_i e2; rw [e1, e2]
              · split at b
                · cases a; cases b; exact (hne rfl).elim
                · cases b
            · split at a
              · rename_i e1
                split at b
                · cases a; cases b; exact (hne rfl).elim
                · split at b
                  · rename_i e2; rw [e1, e2]
                  · cases b
              · cases a
          · intro r e1 _ _
            rw [htm]
            exact .mp _ _ _ _ _ _ (by show _ < PK; unfold PK; omega) (e1 _ k (.inl rfl) (by simp)) hk
          · intro r e1 _ _ k' o' hk' ho
            simp only [hpO] at ho
            split at ho
            · rename_i e
              cases ho
              refine .inl ⟨k, _, _, _, _, by simp [e], hk, rfl, rfl, fun j x y hx hy => ?_⟩
              cases j with
              | zero =>
                simp at hx hy; subst hx hy
                exact .msl _ _ _ _ _ _ _ (by show _ < PK; unfold PK; omega) (e1 _ k2 (.inr rfl) (by rw [if_neg hdd, if_pos rfl])) hk2
              | succ j => simp at hx
            · split at ho
              · rename_i e0 e
                cases ho
                exact .inl ⟨k2, _, _, _, _, by rw [if_neg e0, if_pos e], hk2, rfl, rfl, pure_get hall⟩
              · exact (noK k' o' hk' ho).elim
          · intro k' hk'
            simp only [hpO]
            rw [if_neg, if_neg]
            · rintro rfl; exact hk' (.inr rfl)
            · rintro rfl; exact hk' (.inl rfl)
          · intro k' _ hm
            have := mxO_pos L
            simp only [mxO] at hm
            refine ⟨?_, rfl⟩
            rw [if_neg (by rintro rfl; simp at hm; omega), if_neg (by rintro rfl; simp at hm; omega)]
        · rename_i g' esz0 hk
          obtain ⟨⟨rfl, rfl, rfl, rfl, rfl, hU, hP⟩, h⟩ := h
          obtain ⟨pi, nil, hw⟩ := wit_of L _ hok' h
          refine ⟨_, _, hw.cons (hp := fun k' => if k' = (2199023255552 + d, 0) then some k else none) (hn := fun k' => decide (k' = (4398046511104 + d, 0))) hok (fun _ h => .inr h) ?_ ?_ ?_ ?_ ?_ ?_ ?_ (Nat.le_refl _)⟩
          · intro k' k1 _ h1
            try simp only [] at h1
            split at h1
            · cases h1; exact ⟨hU, hP, .inl rfl⟩
            · cases h1
          · intro k1 k2 k3 _ _ a b
            try simp only [] at a b
            split at a
            · split at b
              · rename_i e1 e2; rw [e1, e2]
              · cases b
            · cases a
          · intro k' _ h1
            have : k' = (4398046511104 + d, 0) := of_decide_eq_true h1
            rw [this, if_neg hdd]
          · intro r e1 _ _
            rw [htm]
            exact .mp _ _ _ _ _ _ (by show _ < PK; unfold PK; omega) (e1 _ k (.inl rfl) (by simp)) hk
          · intro r e1 e2 _ k' o' hk' ho
            simp only [hpO] at ho
            split at ho
            · rename_i e
              cases ho
              refine .inl ⟨k, _, _, _, _, by simp [e], hk, rfl, rfl, fun j x y hx hy => ?_⟩
              cases j with
              | zero =>
                simp at hx hy; subst hx hy
                exact .nil _ (e2 _ (.inr rfl) (by simp))
              | succ j => simp at hx
            · split at ho
              · rename_i e0 e
                cases ho
                exact .inr (.inl ⟨by simp [e], _, rfl⟩)
              · exact (noK k' o' hk' ho).elim
          · intro k' hk'
            simp only [hpO]
            rw [if_neg, if_neg]
            · rintro rfl; exact hk' (.inr rfl)
            · rintro rfl; exact hk' (.inl rfl)
          · intro k' _ hm
            have := mxO_pos L
            simp only [mxO] at hm
            refine ⟨if_neg (by rintro rfl; simp at hm; omega), ?_⟩
            simp only [decide_eq_false_iff_not]
            rintro rfl
            simp at hm; omega
        · exact h.elim
      | _ => exact h.elim
    | boxG pre esz n cs post =>
      simp only [entL, entS] at h
      generalize htm : σ.tm d = X at h
      cases X with
      | mp k g off =>
        have hdd : ((4398046511104 + d, 0) : Key) ≠ (2199023255552 + d, 0) := by intro e; injection e with e; omega
        simp only [boxGAt] at h
        split at h
        case h_2 => exact h.elim
        rename_i g' esz0 cells hk
        split at h
        · rename_i a k2 g2 off2 m b hcut
          split at h
          case h_2 => exact h.elim
          rename_i g2' esz' cs' hk2
          obtain ⟨⟨rfl, rfl, rfl, ha, hb, hU, hP⟩, ⟨rfl, rfl, rfl, rfl, hcs, hU2, hP2⟩, hne, h⟩ := h
          obtain ⟨hcl, hpl⟩ := cutAt_ok _ _ hcut
          obtain ⟨pi, nil, hw⟩ := wit_of L _ hok' h
          refine ⟨_, _, hw.cons (hp := fun k' => if k' = (2199023255552 + d, 0) then some k else if k' = (4398046511104 + d, 0) then some k2 else none) (hn := fun _ => false) hok (fun _ h => .inr h) ?_ ?_ (fun _ _ h => by cases h) ?_ ?_ ?_ ?_ (Nat.le_refl _)⟩
          · intro k' k1 _ h1
            try simp only [] at h1
            split at h1
            · cases h1; exact ⟨hU, hP, .inl (.inl rfl)⟩
            · split at h1
              · cases h1; exact ⟨hU2, hP2, .inl (.inr rfl)⟩
              · cases h1
          · intro k1 k3 k4 _ _ a b
            try simp only [] at a b
            split at a
            · rename_i e1
              split at b
              · rename_i e2; rw [e1, e2]
              · split at b
                · cases a; cases b; exact (hne rfl).elim
                · cases b
            · split at a
              · rename_i e1
                split at b
                · cases a; cases b; exact (hne rfl).elim
                · split at b
                  · rename_i e2; rw [e1, e2]
                  · cases b
              · cases a
          · intro r e1 _ _
            rw [htm]
            exact .mp _ _ _ _ _ _ (by show _ < PK; unfold PK; omega) (e1 _ k (.inl rfl) (by simp)) hk
          · intro r e1 _ e3 k' o' hk' ho
            simp only [hpO] at ho
            split at ho
            · rename_i e
              cases ho
              subst hcl
              refine .inl ⟨k, _, _, _, _, by simp [e], hk, rfl, by rw [← ha, ← hb]; simp, vr_cells e3 ha hb ?_⟩
              exact .msl _ _ _ _ _ _ _ (by show _ < PK; unfold PK; omega) (e1 _ k2 (.inr rfl) (by rw [if_neg hdd, if_pos rfl])) hk2
            · split at ho
              · rename_i e0 e
                cases ho
                refine .inl ⟨k2, _, _, _, _, by rw [if_neg e0, if_pos e], hk2, rfl, by rw [← hcs]; simp, fun j x y hx hy => ?_⟩
                rw [← hcs, List.getElem?_map, hx] at hy
                cases hy
                rw [← e3]
                exact .frz _ 8
              · exact (noK k' o' hk' ho).elim
          · intro k' hk'
            simp only [hpO]
            rw [if_neg, if_neg]
            · rintro rfl; exact hk' (.inr rfl)
            · rintro rfl; exact hk' (.inl rfl)
          · intro k' _ hm
            have := mxO_pos L
            simp only [mxO] at hm
            refine ⟨?_, rfl⟩
            rw [if_neg (by rintro rfl; simp at hm; omega), if_neg (by rintro rfl; simp at hm; omega)]
        · rename_i a b hcut
          obtain ⟨⟨rfl, rfl, rfl, rfl, rfl, ha, hb, hU, hP⟩, h⟩ := h
          obtain ⟨hcl, hpl⟩ := cutAt_ok _ _ hcut
          obtain ⟨pi, nil, hw⟩ := wit_of L _ hok' h
          refine ⟨_, _, hw.cons (hp := fun k' => if k' = (2199023255552 + d, 0) then some k else none) (hn := fun k' => decide (k' = (4398046511104 + d, 0))) hok (fun _ h => .inr h) ?_ ?_ ?_ ?_ ?_ ?_ ?_ (Nat.le_refl _)⟩
          · intro k' k1 _ h1
            try simp only [] at h1
            split at h1
            · cases h1; exact ⟨hU, hP, .inl rfl⟩
            · cases h1
          · intro k1 k2 k3 _ _ a b
            try simp only [] at a b
            split at a
            · split at b
              · rename_i e1 e2; rw [e1, e2]
              · cases b
            · cases a
          · intro k' _ h1
            have : k' = (4398046511104 + d, 0) := of_decide_eq_true h1
            rw [this, if_neg hdd]
          · intro r e1 _ _
            rw [htm]
            exact .mp _ _ _ _ _ _ (by show _ < PK; unfold PK; omega) (e1 _ k (.inl rfl) (by simp)) hk
          · intro r e1 e2 e3 k' o' hk' ho
            simp only [hpO] at ho
            split at ho
            · rename_i e
              cases ho
              subst hcl
              refine .inl ⟨k, _, _, _, _, by simp [e], hk, rfl, by rw [← ha, ← hb]; simp, vr_cells e3 ha hb ?_⟩
              exact .nil _ (e2 _ (.inr rfl) (by simp))
            · split at ho
              · rename_i e0 e
                cases ho
                exact .inr (.inl ⟨by simp [e], _, rfl⟩)
              · exact (noK k' o' hk' ho).elim
          · intro k' hk'
            simp only [hpO]
            rw [if_neg, if_neg]
            · rintro rfl; exact hk' (.inr rfl)
            · rintro rfl; exact hk' (.inl rfl)
          · intro k' _ hm
            have := mxO_pos L
            simp only [mxO] at hm
            refine ⟨if_neg (by rintro rfl; simp at hm; omega), ?_⟩
            simp only [decide_eq_false_iff_not]
            rintro rfl
            simp at hm; omega
        · exact h.elim
      | _ => exact h.elim
    | ali d' =>
      obtain ⟨⟨h1, h2⟩, h⟩ := h
      obtain ⟨pi, nil, hw⟩ := wit_of L U hok' h
      have hbox : ∀ (d' : Nat) (s' : SS), s'.isBox = true → s'.v d' = .mp (2199023255552 + d', 0) 0 0 := by
        intro d' s' hb
        cases s' <;> first | rfl | cases hb
      refine ⟨_, _, hw.consX (hp := fun _ => none) (hn := fun _ => false) hok (fun _ h => h) (fun _ _ _ h => by cases h) (fun _ _ _ _ _ h => by cases h) (fun _ _ _ => rfl) (fun r e1 e2 e3 e4 => ?_)
        (fun r _ _ _ k' o' hk ho => (noK k' o' hk ho).elim) (fun _ _ => rfl) (fun _ _ _ => ⟨rfl, rfl⟩) (Nat.le_refl _)⟩
      rw [h1]
      obtain ⟨q, hq, hq2⟩ := List.any_eq_true.1 h2
      simp only [Bool.and_eq_true, beq_iff_eq] at hq2
      obtain ⟨rfl, hb⟩ := hq2
      have := e4 q hq
      rw [hbox _ _ hb] at this
      exact this
    | clo f ds =>
      obtain ⟨⟨h1, h2⟩, h⟩ := h
      obtain ⟨pi, nil, hw⟩ := wit_of L U hok' h
      have hbox : ∀ (d' : Nat) (s' : SS), s'.isBox = true → s'.v d' = .mp (2199023255552 + d', 0) 0 0 := by
        intro d' s' hb
        cases s' <;> first | rfl | cases hb
      refine ⟨_, _, hw.consX (hp := fun _ => none) (hn := fun _ => false) hok (fun _ h => h) (fun _ _ _ h => by cases h) (fun _ _ _ _ _ h => by cases h) (fun _ _ _ => rfl) (fun r e1 e2 e3 e4 => ?_)
        (fun r _ _ _ k' o' hk ho => (noK k' o' hk ho).elim) (fun _ _ => rfl) (fun _ _ _ => ⟨rfl, rfl⟩) (Nat.le_refl _)⟩
      rw [h1]
      refine .fn f _ _ (by simp) fun j x y hx hy => ?_
      rw [List.getElem?_map, Option.map_eq_some_iff] at hx hy
      obtain ⟨d1, hd1, rfl⟩ := hx
      obtain ⟨d2, hd2, rfl⟩ := hy
      rw [hd1] at hd2; cases hd2
      have := List.all_eq_true.1 h2 d1 (List.mem_of_getElem? hd1)
      obtain ⟨q, hq, hq2⟩ := List.any_eq_true.1 this
      simp only [Bool.and_eq_true, beq_iff_eq] at hq2
      obtain ⟨rfl, hb⟩ := hq2
      have := e4 q hq
      rw [hbox _ _ hb] at this
      exact this
    | box cs =>
      simp only [entL, entS] at h
      generalize htm : σ.tm d = X at h
      cases X with
      | mp k g off =>
        simp only [boxAt] at h
        split at h
        case h_2 => exact h.elim
        rename_i g' esz' cs' hk
        obtain ⟨⟨rfl, rfl, rfl, rfl, hall, hU, hP⟩, h⟩ := h
        obtain ⟨pi, nil, hw⟩ := wit_of L _ hok' h
        refine ⟨_, _, hw.cons (hp := fun k' => if k' = (2199023255552 + d, 0) then some k else none) (hn := fun _ => false) hok (fun _ h => .inr h) ?_ ?_ (fun _ _ h => by cases h) ?_ ?_ ?_ ?_ (Nat.le_refl _)⟩
        · intro k' k1 _ h1
          try simp only [] at h1
          split at h1
          · cases h1; exact ⟨hU, hP, .inl rfl⟩
          · cases h1
        · intro k1 k2 k3 _ _ a b
          try simp only [] at a b
          split at a
          · split at b
            · rename_i e1 e2; rw [e1, e2]
            · cases b
          · cases a
        · intro r e1 _ _
          rw [htm]
          exact .mp _ _ _ _ _ _ (by show _ < PK; unfold PK; omega) (e1 _ k (.inl rfl) (by simp)) hk
        · intro r e1 _ _ k' o' hk' ho
          simp only [hpO] at ho
          split at ho
          · rename_i e
            cases ho
            exact .inl ⟨k, _, _, _, _, by simp [e], hk, rfl, rfl, pure_get hall⟩
          · exact (noK k' o' hk' ho).elim
        · intro k' hk'
          simp only [hpO]
          rw [if_neg]
          rintro rfl
          exact hk' (.inl rfl)
        · intro k' _ hm
          have := mxO_pos L
          simp only [mxO] at hm
          refine ⟨if_neg ?_, rfl⟩
          rintro rfl
          simp at hm; omega
      | _ => exact h.elim
    | mapS es =>
      simp only [entL, entS] at h
      generalize htm : σ.tm d = X at h
      cases X with
      | mm k =>
        simp only [mapAt] at h
        split at h
        case h_2 => exact h.elim
        rename_i es' hk
        obtain ⟨⟨rfl, hall, hU, hP⟩, h⟩ := h
        obtain ⟨pi, nil, hw⟩ := wit_of L _ hok' h
        refine ⟨_, _, hw.cons (hp := fun k' => if k' = (2199023255552 + d, 0) then some k else none) (hn := fun _ => false) hok (fun _ h => .inr h) ?_ ?_ (fun _ _ h => by cases h) ?_ ?_ ?_ ?_ (Nat.le_refl _)⟩
        · intro k' k1 _ h1
          try simp only [] at h1
          split at h1
          · cases h1; exact ⟨hU, hP, .inl rfl⟩
          · cases h1
        · intro k1 k2 k3 _ _ a b
          try simp only [] at a b
          split at a
          · split at b
            · rename_i e1 e2; rw [e1, e2]
            · cases b
          · cases a
        · intro r e1 _ _
          rw [htm]
          exact .mm _ _ _ (by show _ < PK; unfold PK; omega) (e1 _ k (.inl rfl) (by simp)) hk
        · intro r e1 _ _ k' o' hk' ho
          simp only [hpO] at ho
          split at ho
          · rename_i e
            cases ho
            exact .inr (.inr (.inl ⟨k, _, by simp [e], hk, rfl, hall⟩))
          · exact (noK k' o' hk' ho).elim
        · intro k' hk'
          simp only [hpO]
          rw [if_neg]
          rintro rfl
          exact hk' (.inl rfl)
        · intro k' _ hm
          have := mxO_pos L
          simp only [mxO] at hm
          refine ⟨if_neg ?_, rfl⟩
          rintro rfl
          simp at hm; omega
      | _ => exact h.elim
    | boxm cs es =>
      simp only [entL, entS] at h
      generalize htm : σ.tm d = X at h
      cases X with
      | mp k g off =>
        simp only [boxmAt] at h
        split at h
        case h_2 => exact h.elim
        rename_i g' esz' cs' hk
        split at h
        case h_2 => exact h.elim
        rename_i k2 hlast
        split at h
        case h_2 => exact h.elim
        rename_i es' hk2
        obtain ⟨⟨rfl, rfl, rfl, hlen, htake, hall, hU, hP⟩, ⟨rfl, hall2, hU2, hP2⟩, h⟩ := h
        obtain ⟨pi, nil, hw⟩ := wit_of L _ hok' h
        have hne : k ≠ k2 := by rintro rfl; rw [hk] at hk2; cases hk2
        have hdd : ((4398046511104 + d, 0) : Key) ≠ (2199023255552 + d, 0) := by intro e; injection e with e; omega
        refine ⟨_, _, hw.cons (hp := fun k' => if k' = (2199023255552 + d, 0) then some k else if k' = (4398046511104 + d, 0) then some k2 else none) (hn := fun _ => false) hok (fun _ h => .inr h) ?_ ?_ (fun _ _ h => by cases h) ?_ ?_ ?_ ?_ (Nat.le_refl _)⟩
        · intro k' k1 _ h1
          try simp only [] at h1
          split at h1
          · cases h1; exact ⟨hU, hP, .inl (.inl rfl)⟩
          · split at h1
            · cases h1; exact ⟨hU2, hP2, .inl (.inr rfl)⟩
            · cases h1
        · intro k1 k3 k4 _ _ a b
          try simp only [] at a b
          split at a
          · rename_i e1
            split at b
            · rename_i e2; rw [e1, e2]
            · split at b
              · cases a; cases b; exact (hne rfl).elim
              · cases b
          · split at a
            · rename_i e1
              split at b
              · cases a; cases b; exact (hne rfl).elim
              · split at b
                · rename_i e2; rw [e1, e2]
                · cases b
            · cases a
        · intro r e1 _ _
          rw [htm]
          exact .mp _ _ _ _ _ _ (by show _ < PK; unfold PK; omega) (e1 _ k (.inl rfl) (by simp)) hk
        · intro r e1 _ _ k' o' hk' ho
          simp only [hpO] at ho
          split at ho
          · rename_i e
            cases ho
            refine .inl ⟨k, _, _, _, _, by simp [e], hk, rfl, by simp [hlen], fun j x y hx hy => ?_⟩
            rcases Nat.lt_trichotomy j cs.length with hj | hj | hj
            · rw [List.getElem?_append_left hj] at hy
              have hx' : cs[j]? = some x := by rw [← htake, List.getElem?_take, if_pos hj]; exact hx
              exact pure_get hall j x y hx' hy
            · subst hj
              rw [hlast] at hx; cases hx
              rw [List.getElem?_append_right (Nat.le_refl _), Nat.sub_self] at hy
              simp at hy
              subst hy
              exact .mm _ _ _ (by show _ < PK; unfold PK; omega) (e1 _ k2 (.inr rfl) (by rw [if_neg hdd, if_pos rfl])) hk2
            · rw [List.getElem?_eq_none (by omega)] at hx; cases hx
          · split at ho
            · rename_i e0 e
              cases ho
              exact .inr (.inr (.inl ⟨k2, _, by rw [if_neg e0, if_pos e], hk2, rfl, hall2⟩))
            · exact (noK k' o' hk' ho).elim
        · intro k' hk'
          simp only [hpO]
          rw [if_neg, if_neg]
          · rintro rfl; exact hk' (.inr rfl)
          · rintro rfl; exact hk' (.inl rfl)
        · intro k' _ hm
          have := mxO_pos L
          simp only [mxO] at hm
          refine ⟨?_, rfl⟩
          rw [if_neg (by rintro rfl; simp at hm; omega), if_neg (by rintro rfl; simp at hm; omega)]
      | _ => exact h.elim
    | rows esz rs =>
      simp only [entL, entS] at h
      generalize htm : σ.tm d = X at h
      cases X with
      | msl k g off m =>
        simp only [rowsAt] at h
        split at h
        case h_2 => exact h.elim
        rename_i g' esz' cells hk
        obtain ⟨⟨rfl, rfl, rfl, rfl, hlen, hU, hP⟩, κ, hrow, hinj, hout, h⟩ := h
        obtain ⟨pi, nil, hw⟩ := wit_of L _ hok' h
        have hκ : ∀ i k', κ i = some k' → ¬ (k' = k ∨ U k') ∧ k'.1 < PK ∧ i < rs.length := by
          intro i k' hi
          have hlt : i < rs.length := by
            rcases Nat.lt_or_ge i rs.length with h | h
            · exact h
            · rw [hout i h] at hi; cases hi
          have hr := hrow i _ (List.getElem?_eq_getElem hlt)
          revert hr
          cases cells[i]? with
          | none => exact fun h => h.elim
          | some c =>
            cases c with
            | msl k1 g1 o1 m1 =>
              rintro ⟨cs, _, _, _, _, _, a1, a2, a3⟩
              rw [a3] at hi; cases hi
              exact ⟨a1, a2, hlt⟩
            | e0 =>
              rintro ⟨_, _, a3⟩
              rw [a3] at hi; cases hi
            | _ => exact fun h => h.elim
        refine ⟨_, _, hw.cons (hp := fun k' => if k' = (2199023255552 + d, 0) then some k else if k'.1 = 4398046511104 + d then κ k'.2 else none)
          (hn := fun k' => decide (k'.1 = 4398046511104 + d) && (decide (k'.2 < rs.length) && (κ k'.2).isNone)) hok (fun _ h => .inr h) ?_ ?_ ?_ ?_ ?_ ?_ ?_ (by simp only [mxO]; omega)⟩
        · intro k' k1 _ h1
          try simp only [] at h1
          split at h1
          · cases h1; exact ⟨hU, hP, .inl (.inl rfl)⟩
          · split at h1
            · obtain ⟨a1, a2, _⟩ := hκ _ _ h1
              exact ⟨fun hu => a1 (.inr hu), a2, .inl (.inr ⟨_, h1⟩)⟩
            · cases h1
        · intro k1 k2 k3 _ _ a b
          try simp only [] at a b
          split at a
          · rename_i e1
            split at b
            · rename_i e2; rw [e1, e2]
            · split at b
              · cases a; exact ((hκ _ _ b).1 (.inl rfl)).elim
              · cases b
          · split at a
            · rename_i e1
              split at b
              · cases b; exact ((hκ _ _ a).1 (.inl rfl)).elim
              · split at b
                · rename_i e2
                  have := hinj _ _ _ a b
                  exact Prod.ext (e1.trans e2.symm) this
                · cases b
            · cases a
        · intro k' _ h1
          simp only [Bool.and_eq_true, decide_eq_true_eq, Option.isNone_iff_eq_none] at h1
          obtain ⟨a1, a2, a3⟩ := h1
          rw [if_neg (by rintro rfl; try simp only [] at a1; omega), if_pos a1]; exact a3
        · intro r e1 _ _
          rw [htm]
          exact .msl _ _ _ _ _ _ _ (by show _ < PK; unfold PK; omega) (e1 _ k (.inl rfl) (by simp)) hk
        · intro r e1 e2 _ k' o' hk' ho
          simp only [hpO] at ho
          split at ho
          · rename_i e
            cases ho
            refine .inl ⟨k, _, _, _, _, by simp [e], hk, rfl, by rw [rowV_len]; exact hlen, fun j x y hx hy => ?_⟩
            obtain ⟨rj, a1, rfl⟩ := rowV_get d rs 0 j y hy
            have hr := hrow j rj a1
            rw [hx] at hr
            rw [Nat.zero_add]
            cases x with
            | msl k1 g1 o1 m1 =>
              obtain ⟨cs, b1, rfl, rfl, _, _, _, _, b3⟩ := hr
              exact .msl _ _ _ _ _ _ _ (by show _ < PK; unfold PK; omega) (e1 _ k1 (.inr rfl) (by
                rw [if_neg (by intro e; injection e with e; omega), if_pos rfl]; exact b3)) b1
            | e0 =>
              obtain ⟨b1, b2, b3⟩ := hr
              rw [b1]
              have hlt := (List.getElem?_eq_some_iff.1 a1).1
              exact .nil _ (e2 _ (.inr rfl) (by simp [b3, hlt]))
            | _ => exact hr.elim
          · split at ho
            · rename_i e0 e
              rw [Option.map_eq_some_iff] at ho
              obtain ⟨rj, a1, rfl⟩ := ho
              have hr := hrow _ rj a1
              revert hr
              cases cells[k'.2]? with
              | none => exact fun h => h.elim
              | some c =>
                cases c with
                | msl k1 g1 o1 m1 =>
                  rintro ⟨cs, b1, _, _, rfl, b2, _, _, b3⟩
                  exact .inl ⟨k1, _, _, _, _, by rw [if_neg e0, if_pos e]; exact b3, b1, rfl, rfl, pure_get b2⟩
                | e0 =>
                  rintro ⟨b1, b2, b3⟩
                  have hlt := (List.getElem?_eq_some_iff.1 a1).1
                  exact .inr (.inl ⟨by simp [e, b3, hlt], _, by rw [b2]⟩)
                | _ => exact fun h => h.elim
            · exact (noK k' o' hk' ho).elim
        · intro k' hk'
          simp only [hpO]
          rw [if_neg, if_neg]
          · intro e; exact hk' (.inr e)
          · rintro rfl
            exact hk' (.inl rfl)
        · intro k' _ hm
          have := mxO_pos L
          simp only [mxO] at hm
          have hge : rs.length ≤ k'.2 := by omega
          refine ⟨?_, ?_⟩
          · rw [if_neg (by rintro rfl; simp at hm; omega)]
            split
            · exact hout _ hge
            · rfl
          · simp only [show ¬ k'.2 < rs.length by omega, decide_false, Bool.false_and, Bool.and_false]
      | e0 =>
        obtain ⟨rfl, h⟩ := h
        obtain ⟨pi, nil, hw⟩ := wit_of L _ hok' h
        refine ⟨_, _, hw.cons (hp := fun _ => none) (hn := fun k' => decide (k' = (2199023255552 + d, 0))) hok (fun _ h => h) (fun _ _ _ h => by cases h) (fun _ _ _ _ _ h => by cases h) (fun _ _ _ => rfl) ?_ ?_ ?_ ?_ (by simp only [mxO]; omega)⟩
        · intro r _ e2 _
          rw [htm]
          exact .nil _ (e2 _ (.inl rfl) (by simp))
        · intro r e1 _ _ k' o' hk' ho
          simp only [hpO] at ho
          split at ho
          · rename_i e
            cases ho
            exact .inr (.inl ⟨by simp [e], _, rfl⟩)
          · split at ho
            · simp at ho
            · exact (noK k' o' hk' ho).elim
        · intro k' hk'
          simp only [hpO]
          rw [if_neg, if_neg]
          · intro e; exact hk' (.inr e)
          · rintro rfl
            exact hk' (.inl rfl)
        · intro k' _ hm
          have := mxO_pos L
          simp only [mxO] at hm
          refine ⟨rfl, ?_⟩
          simp only [decide_eq_false_iff_not]
          rintro rfl
          simp at hm; omega
      | _ => exact h.elim

def hfz (H : Heap) (fl : List Key) : Heap := fun k => if k ∈ fl then H k else none

theorem slO_get : ∀ {L : List (Nat × SS)} {t : Nat}, (∃ p ∈ L, p.1 = t ∧ slO L t = p.2.v p.1) ∨ slO L t = .junk
  | [], _ => .inr rfl
  | (d, s) :: r, t => by
    simp only [slO]
    split
    · rename_i e; exact .inl ⟨_, List.mem_cons_self .., e.symm, rfl⟩
    · rcases slO_get (L := r) (t := t) with ⟨p, h1, h2, h3⟩ | h
      · exact .inl ⟨p, List.mem_cons_of_mem _ h1, h2, h3⟩
      · exact .inr h

/-- A state is one that is told slot by slot. -/
theorem ent_of (L : List (Nat × SS)) (fl : List Key) (hok : dOk L = true) (hfl : fl.all (fun k => decide (k.1 < PK)) = true) (h : entL σ (hfz σ.H fl) L (fun k => k ∈ fl)) : Ent σ (stO L σ.cnt) := by
  obtain ⟨pi, nil, hw⟩ := wit_of L _ hok h
  refine Ent.ren (r := ⟨pi, nil, hfz σ.H fl⟩) ⟨?_, ?_, hw.finj, ?_, ?_, ?_, ?_, ?_⟩
  · intro k o hk
    simp only [hfz] at hk
    split at hk
    · rename_i hm; exact ⟨hk, by simpa using List.all_eq_true.1 hfl k hm⟩
    · cases hk
  · intro k' k hk
    obtain ⟨a1, a2, p, hp, a3⟩ := hw.fpi k' k hk
    have hlt : k'.1 < PK := by
      have : ∀ p ∈ L, p.1 < 1099511627776 := by
        intro p hp
        simp only [dOk, Bool.and_eq_true, List.all_eq_true, List.mem_map, forall_exists_index, and_imp, forall_apply_eq_imp_iff₂, decide_eq_true_eq] at hok
        exact hok.2 p hp
      have := this p hp
      unfold nK at a3; unfold PK; omega
    refine ⟨?_, fun h => by omega, fun _ => a2⟩
    simp only [hfz]; rw [if_neg a1]
  · intro k' hk
    obtain ⟨a1, p, hp, a3⟩ := hw.fnil k' hk
    refine ⟨a1, ?_⟩
    have : ∀ p ∈ L, p.1 < 1099511627776 := by
      intro p hp
      simp only [dOk, Bool.and_eq_true, List.all_eq_true, List.mem_map, forall_exists_index, and_imp, forall_apply_eq_imp_iff₂, decide_eq_true_eq] at hok
      exact hok.2 p hp
    have := this p hp
    unfold nK at a3; unfold PK; omega
  · intro t
    rcases slO_get (L := L) (t := t) with ⟨p, h1, h2, h3⟩ | h3
    · simp only [stO, h3]
      rw [← h2]
      exact hw.ftm _ (fun _ _ h => h) (fun _ h => h) rfl p h1
    · simp only [stO, h3]; exact .junk _
  · intro k' o' ho
    rcases hw.fH ⟨pi, nil, hfz σ.H fl⟩ (fun _ _ h => h) (fun _ h => h) rfl k' o' ho with ⟨k, gen, esz, cs, cs', a1, a2, a3, a4⟩ | h | ⟨k, es, a1, a2, a3, a4⟩ | ⟨k, left, last, a1, a2, a3, a4⟩
    · left
      have hlt : ¬ PK ≤ k'.1 := by
        obtain ⟨_, _, p, hp, a5⟩ := hw.fpi k' k a1
        have : ∀ p ∈ L, p.1 < 1099511627776 := by
          intro p hp
          simp only [dOk, Bool.and_eq_true, List.all_eq_true, List.mem_map, forall_exists_index, and_imp, forall_apply_eq_imp_iff₂, decide_eq_true_eq] at hok
          exact hok.2 p hp
        have := this p hp
        unfold nK at a5; unfold PK; omega
      exact ⟨k, gen, esz, cs, cs', a1, a2, by rw [if_neg hlt]; exact a3, a4⟩
    · exact .inr (.inl h)
    · right; right; left
      have hlt : k'.1 < PK := by
        obtain ⟨_, _, p, hp, a5⟩ := hw.fpi k' k a1
        have : ∀ p ∈ L, p.1 < 1099511627776 := by
          intro p hp
          simp only [dOk, Bool.and_eq_true, List.all_eq_true, List.mem_map, forall_exists_index, and_imp, forall_apply_eq_imp_iff₂, decide_eq_true_eq] at hok
          exact hok.2 p hp
        have := this p hp
        unfold nK at a5; unfold PK; omega
      refine ⟨k, es, _, hlt, a1, a2, a3, by simp, fun j p q hp hq => ?_⟩
      rw [List.getElem?_map, hp] at hq; cases hq
      have := List.all_eq_true.1 a4 p (List.mem_of_getElem? hp)
      exact ⟨.pure _ 8 this, .frz _ 8⟩
    · right; right; right
      have hlt : k'.1 < PK := by
        obtain ⟨_, _, p, hp, a5⟩ := hw.fpi k' k a1
        have : ∀ p ∈ L, p.1 < 1099511627776 := by
          intro p hp
          simp only [dOk, Bool.and_eq_true, List.all_eq_true, List.mem_map, forall_exists_index, and_imp, forall_apply_eq_imp_iff₂, decide_eq_true_eq] at hok
          exact hok.2 p hp
        have := this p hp
        unfold nK at a5; unfold PK; omega
      exact ⟨k, left, last, hlt, a1, a2, a3, fun p hp => by simpa using List.all_eq_true.1 a4 p hp⟩
  · intro s n hn
    simp only [stO, cnO] at hn
    have hlt : ∀ p ∈ L, p.1 < 1099511627776 := by
      intro p hp
      simp only [dOk, Bool.and_eq_true, List.all_eq_true, List.mem_map, forall_exists_index, and_imp, forall_apply_eq_imp_iff₂, decide_eq_true_eq] at hok
      exact hok.2 p hp
    by_cases hs : 2199023255552 ≤ s ∧ s < PK
    · rw [if_neg (by omega), if_pos hs.2] at hn
      exact hw.fcnt s n hn
    · have off : ∀ p ∈ L, ¬ nK p.1 (s, n) := by
        intro p hp hk
        have := hlt p hp
        unfold nK at hk; unfold PK at hs; try simp only [] at hk; omega
      refine ⟨?_, ?_⟩
      · cases hh : pi (s, n) with
        | none => exact hh
        | some k => obtain ⟨_, _, p, hp, hk⟩ := hw.fpi _ k hh; exact (off p hp hk).elim
      · cases hh : nil (s, n) with
        | false => exact hh
        | true => obtain ⟨_, p, hp, hk⟩ := hw.fnil _ hh; exact (off p hp hk).elim
  · intro s hs
    simp only [stO, cnO]
    rw [if_neg (by unfold PK at hs; omega), if_neg (by omega)]
    exact Nat.le_refl _

end

theorem rowV_at (d : Nat) : ∀ (rs : List (Nat × List V)) (i j : Nat) (h : j < rs.length), (rowV d i rs)[j]? = some (.msl (4398046511104 + d, i + j) 0 0 rs[j].1)
  | r :: rs, i, 0, _ => rfl
  | r :: rs, i, j + 1, h => by
    simp only [rowV, List.getElem?_cons_succ]
    rw [rowV_at d rs (i + 1) j (by simpa using h), show i + 1 + j = i + (j + 1) by omega]; rfl
theorem rowV_ld {d j : Nat} {rs : List (Nat × List V)} (h : j < rs.length) : ldV false 1 (rowV d 0 rs) j = some (.msl (4398046511104 + d, j) 0 0 rs[j].1) := by
  have := rowV_at d rs 0 j h
  rw [Nat.zero_add] at this
  simpa [ldV] using this

/-- An object told by fewer of its cells. -/
theorem Ent.cut {σ : St} {key : Key} {g esz : Nat} {cs : List V} (k : Nat) (h : σ.H key = some (.row g esz cs)) : Ent σ ⟨σ.tm, hupd σ.H key (.row g esz (cs.take k)), σ.cnt⟩ := by
  rintro E a w ⟨gh, hs⟩
  refine ⟨gh, ⟨hs.below, hs.sizeB, hs.size, hs.defers, hs.tm, hs.immlt, hs.imm0, hs.immB, ?_, ?_, ?_, hs.ref0⟩⟩
  · intro k' o ho
    simp only [hupd] at ho
    split at ho
    · rename_i e; subst e; cases ho
      obtain ⟨blk, cap, r1, r2, r3⟩ := hs.obj _ _ h
      refine ⟨blk, cap, r1, r2, ?_⟩
      cases blk with
      | none => exact ⟨by rw [r3.1]; simp, r3.2⟩
      | some b =>
        obtain ⟨q1, q2, q3, us, T, fz, t1, t2, t3, t4, t5⟩ := r3
        refine ⟨q1, q2, q3, us, T, fz, t1, t2, by rw [List.length_take]; omega, t4, fun j u c hu hc => ?_⟩
        rw [List.getElem?_take] at hc
        split at hc
        · exact t5 j u c hu hc
        · cases hc
    · exact hs.obj _ _ ho
  · intro k1 k2 o1 o2 b h1 h2 hb1 hb2
    have old : ∀ (k' : Key) (o : LObj), hupd σ.H key (.row g esz (cs.take k)) k' = some o → ∃ o', σ.H k' = some o' ∧ blkOf gh k' o' = blkOf gh k' o := by
      intro k' o ho
      simp only [hupd] at ho
      split at ho
      · rename_i e; subst e; cases ho
        exact ⟨_, h, rfl⟩
      · exact ⟨o, ho, rfl⟩
    obtain ⟨o1', a1, a2⟩ := old k1 o1 h1
    obtain ⟨o2', b1, b2⟩ := old k2 o2 h2
    exact hs.apart k1 k2 o1' o2' b a1 b1 (by rw [a2]; exact hb1) (by rw [b2]; exact hb2)
  · intro s n hn
    have hf := hs.fresh s n hn
    refine ⟨?_, hf.2⟩
    simp only [hupd]
    rw [if_neg]
    · exact hf.1
    · rintro rfl; rw [hf.1] at h; cases h

end Go.Lg

set_option linter.unusedSimpArgs false
set_option linter.unusedVariables false
namespace Go.Lg
open Go Go.RowKit

theorem VC0 : type_of% @Go.Lg.vcg_skip ∧
  type_of% @Go.Lg.vcg_reg ∧
  type_of% @Go.Lg.vcg_rego ∧
  type_of% @Go.Lg.vcg_seq ∧
  type_of% @Go.Lg.vcg_cond ∧
  type_of% @Go.Lg.vcg_block ∧
  type_of% @Go.Lg.vcg_loop ∧
  type_of% @Go.Lg.vcg_exit ∧
  type_of% @Go.Lg.vcg_ret ∧
  type_of% @Go.Lg.vcg_bad ∧
  type_of% @Go.Lg.vcg_keep ∧
  type_of% @Go.Lg.St.keep.eq_1 ∧
  type_of% @Go.Lg.keepL.eq_1 ∧
  type_of% @Go.Lg.keepL.eq_2 ∧
  type_of% @Go.Lg.vops_nil ∧
  type_of% @Go.Lg.vops_cons ∧
  type_of% @Go.Lg.vopsM_nil ∧
  type_of% @Go.Lg.vopsM_cons ∧
  type_of% @Go.Lg.thenQ_normal ∧
  type_of% @Go.Lg.thenQ_exit ∧
  type_of% @Go.Lg.thenQ_ret ∧
  type_of% @Go.Lg.blockQ_normal ∧
  type_of% @Go.Lg.blockQ_exit ∧
  type_of% @Go.Lg.blockQ_ret ∧
  type_of% @Go.Lg.retK_normal ∧
  type_of% @Go.Lg.retK_ret ∧
  type_of% @Go.Lg.some_ex ∧
  type_of% @Go.Lg.vstep_none ∧
  type_of% @Go.Lg.vstep_some ∧
  type_of% @Go.Lg.vguard_bool ∧
  type_of% @Go.Lg.vguard_skip ∧
  type_of% @Go.Lg.vguardM_skip ∧
  type_of% @Go.Lg.gdV_true ∧
  type_of% @Go.Lg.gdV_false ∧
  type_of% @Go.Lg.vstepM_none ∧
  type_of% @Go.Lg.vstepM_some ∧
  type_of% @Go.Lg.vguardM_bool ∧
  type_of% @Go.Lg.gdVM_true ∧
  type_of% @Go.Lg.gdVM_false ∧
  type_of% @Go.Lg.vresM_A ∧
  type_of% @Go.Lg.vresM_C ∧
  type_of% @Go.Lg.vresM_D ∧
  type_of% @Go.Lg.vresM_call ∧
  type_of% @Go.Lg.vresM_bad ∧
  type_of% @Go.Lg.vres_A ∧
  type_of% @Go.Lg.vres_C ∧
  type_of% @Go.Lg.vres_D ∧
  type_of% @Go.Lg.vres_call ∧
  type_of% @Go.Lg.vres_bad ∧
  type_of% @Go.Lg.condV_true ∧
  type_of% @Go.Lg.condV_false ∧
  type_of% @Go.Lg.ofOpt_some ∧
  type_of% @Go.Lg.lop.eq_1 ∧
  type_of% @Go.Lg.lop.eq_2 ∧
  type_of% @Go.Lg.lop.eq_3 ∧
  type_of% @Go.Lg.lop.eq_4 ∧
  type_of% @Go.Lg.lop.eq_5 ∧
  type_of% @Go.Lg.lop.eq_6 ∧
  type_of% @Go.Lg.lop.eq_7 ∧
  type_of% @Go.Lg.lop.eq_8 :=
  ⟨@Go.Lg.vcg_skip, @Go.Lg.vcg_reg, @Go.Lg.vcg_rego, @Go.Lg.vcg_seq, @Go.Lg.vcg_cond, @Go.Lg.vcg_block, @Go.Lg.vcg_loop, @Go.Lg.vcg_exit, @Go.Lg.vcg_ret, @Go.Lg.vcg_bad, @Go.Lg.vcg_keep, @Go.Lg.St.keep.eq_1, @Go.Lg.keepL.eq_1, @Go.Lg.keepL.eq_2, @Go.Lg.vops_nil, @Go.Lg.vops_cons, @Go.Lg.vopsM_nil, @Go.Lg.vopsM_cons, @Go.Lg.thenQ_normal, @Go.Lg.thenQ_exit, @Go.Lg.thenQ_ret, @Go.Lg.blockQ_normal, @Go.Lg.blockQ_exit, @Go.Lg.blockQ_ret, @Go.Lg.retK_normal, @Go.Lg.retK_ret, @Go.Lg.some_ex, @Go.Lg.vstep_none, @Go.Lg.vstep_some, @Go.Lg.vguard_bool, @Go.Lg.vguard_skip, @Go.Lg.vguardM_skip, @Go.Lg.gdV_true, @Go.Lg.gdV_false, @Go.Lg.vstepM_none, @Go.Lg.vstepM_some, @Go.Lg.vguardM_bool, @Go.Lg.gdVM_true, @Go.Lg.gdVM_false, @Go.Lg.vresM_A, @Go.Lg.vresM_C, @Go.Lg.vresM_D, @Go.Lg.vresM_call, @Go.Lg.vresM_bad, @Go.Lg.vres_A, @Go.Lg.vres_C, @Go.Lg.vres_D, @Go.Lg.vres_call, @Go.Lg.vres_bad, @Go.Lg.condV_true, @Go.Lg.condV_false, @Go.Lg.ofOpt_some, @Go.Lg.lop.eq_1, @Go.Lg.lop.eq_2, @Go.Lg.lop.eq_3, @Go.Lg.lop.eq_4, @Go.Lg.lop.eq_5, @Go.Lg.lop.eq_6, @Go.Lg.lop.eq_7, @Go.Lg.lop.eq_8⟩

theorem VC1 : type_of% @Go.Lg.lop.eq_9 ∧
  type_of% @Go.Lg.lop.eq_10 ∧
  type_of% @Go.Lg.lop.eq_11 ∧
  type_of% @Go.Lg.lop.eq_12 ∧
  type_of% @Go.Lg.lop.eq_13 ∧
  type_of% @Go.Lg.lop.eq_14 ∧
  type_of% @Go.Lg.lop.eq_15 ∧
  type_of% @Go.Lg.lop.eq_16 ∧
  type_of% @Go.Lg.lop.eq_17 ∧
  type_of% @Go.Lg.lop.eq_18 ∧
  type_of% @Go.Lg.lop.eq_19 ∧
  type_of% @Go.Lg.lop.eq_20 ∧
  type_of% @Go.Lg.lop.eq_21 ∧
  type_of% @Go.Lg.lop.eq_22 ∧
  type_of% @Go.Lg.lop.eq_23 ∧
  type_of% @Go.Lg.lop.eq_24 ∧
  type_of% @Go.Lg.lop.eq_25 ∧
  type_of% @Go.Lg.lop.eq_26 ∧
  type_of% @Go.Lg.lop.eq_27 ∧
  type_of% @Go.Lg.lop.eq_28 ∧
  type_of% @Go.Lg.lop.eq_29 ∧
  type_of% @Go.Lg.lop.eq_30 ∧
  type_of% @Go.Lg.lop.eq_31 ∧
  type_of% @Go.Lg.lop.eq_32 ∧
  type_of% @Go.Lg.lop.eq_33 ∧
  type_of% @Go.Lg.lop.eq_34 ∧
  type_of% @Go.Lg.lop.eq_35 ∧
  type_of% @Go.Lg.lop.eq_36 ∧
  type_of% @Go.Lg.lop.eq_37 ∧
  type_of% @Go.Lg.lop.eq_38 ∧
  type_of% @Go.Lg.lop.eq_39 ∧
  type_of% @Go.Lg.lop.eq_40 ∧
  type_of% @Go.Lg.lop.eq_41 ∧
  type_of% @Go.Lg.lop.eq_42 ∧
  type_of% @Go.Lg.lop.eq_43 ∧
  type_of% @Go.Lg.lop.eq_44 ∧
  type_of% @Go.Lg.lop.eq_45 ∧
  type_of% @Go.Lg.lop.eq_46 ∧
  type_of% @Go.Lg.lop.eq_47 ∧
  type_of% @Go.Lg.lop.eq_48 ∧
  type_of% @Go.Lg.lop.eq_49 ∧
  type_of% @Go.Lg.lop.eq_50 ∧
  type_of% @Go.Lg.lop.eq_51 ∧
  type_of% @Go.Lg.lop.eq_52 ∧
  type_of% @Go.Lg.Rd.get.eq_1 ∧
  type_of% @Go.Lg.Rd.get.eq_2 ∧
  type_of% @Go.Lg.lbin.eq_1 ∧
  type_of% @Go.Lg.lbin.eq_2 ∧
  type_of% @Go.Lg.lbin.eq_3 ∧
  type_of% @Go.Lg.lbin.eq_4 ∧
  type_of% @Go.Lg.lbin.eq_5 ∧
  type_of% @Go.Lg.lbin.eq_6 ∧
  type_of% @Go.Lg.lbin.eq_7 ∧
  type_of% @Go.Lg.lbin.eq_8 ∧
  type_of% @Go.Lg.lbin.eq_9 ∧
  type_of% @Go.Lg.lbin.eq_10 ∧
  type_of% @Go.Lg.lbin.eq_11 ∧
  type_of% @Go.Lg.lbin.eq_12 ∧
  type_of% @Go.Lg.lbin.eq_13 ∧
  type_of% @Go.Lg.lbin.eq_14 :=
  ⟨@Go.Lg.lop.eq_9, @Go.Lg.lop.eq_10, @Go.Lg.lop.eq_11, @Go.Lg.lop.eq_12, @Go.Lg.lop.eq_13, @Go.Lg.lop.eq_14, @Go.Lg.lop.eq_15, @Go.Lg.lop.eq_16, @Go.Lg.lop.eq_17, @Go.Lg.lop.eq_18, @Go.Lg.lop.eq_19, @Go.Lg.lop.eq_20, @Go.Lg.lop.eq_21, @Go.Lg.lop.eq_22, @Go.Lg.lop.eq_23, @Go.Lg.lop.eq_24, @Go.Lg.lop.eq_25, @Go.Lg.lop.eq_26, @Go.Lg.lop.eq_27, @Go.Lg.lop.eq_28, @Go.Lg.lop.eq_29, @Go.Lg.lop.eq_30, @Go.Lg.lop.eq_31, @Go.Lg.lop.eq_32, @Go.Lg.lop.eq_33, @Go.Lg.lop.eq_34, @Go.Lg.lop.eq_35, @Go.Lg.lop.eq_36, @Go.Lg.lop.eq_37, @Go.Lg.lop.eq_38, @Go.Lg.lop.eq_39, @Go.Lg.lop.eq_40, @Go.Lg.lop.eq_41, @Go.Lg.lop.eq_42, @Go.Lg.lop.eq_43, @Go.Lg.lop.eq_44, @Go.Lg.lop.eq_45, @Go.Lg.lop.eq_46, @Go.Lg.lop.eq_47, @Go.Lg.lop.eq_48, @Go.Lg.lop.eq_49, @Go.Lg.lop.eq_50, @Go.Lg.lop.eq_51, @Go.Lg.lop.eq_52, @Go.Lg.Rd.get.eq_1, @Go.Lg.Rd.get.eq_2, @Go.Lg.lbin.eq_1, @Go.Lg.lbin.eq_2, @Go.Lg.lbin.eq_3, @Go.Lg.lbin.eq_4, @Go.Lg.lbin.eq_5, @Go.Lg.lbin.eq_6, @Go.Lg.lbin.eq_7, @Go.Lg.lbin.eq_8, @Go.Lg.lbin.eq_9, @Go.Lg.lbin.eq_10, @Go.Lg.lbin.eq_11, @Go.Lg.lbin.eq_12, @Go.Lg.lbin.eq_13, @Go.Lg.lbin.eq_14⟩

theorem VC2 : type_of% @Go.Lg.lbin.eq_15 ∧
  type_of% @Go.Lg.lbin.eq_16 ∧
  type_of% @Go.Lg.lbin.eq_17 ∧
  type_of% @Go.Lg.lbin.eq_18 ∧
  type_of% @Go.Lg.lbin.eq_19 ∧
  type_of% @Go.Lg.lbin.eq_20 ∧
  type_of% @Go.Lg.lbin.eq_21 ∧
  type_of% @Go.Lg.lbin.eq_22 ∧
  type_of% @Go.Lg.lbin.eq_23 ∧
  type_of% @Go.Lg.lbin.eq_24 ∧
  type_of% @Go.Lg.lbin.eq_25 ∧
  type_of% @Go.Lg.lbin.eq_26 ∧
  type_of% @Go.Lg.lconvI.eq_1 ∧
  type_of% @Go.Lg.lconvI.eq_2 ∧
  type_of% @Go.Lg.lload.eq_1 ∧
  type_of% @Go.Lg.lload.eq_2 ∧
  type_of% @Go.Lg.lload.eq_3 ∧
  type_of% @Go.Lg.lstore.eq_1 ∧
  type_of% @Go.Lg.lstore.eq_2 ∧
  type_of% @Go.Lg.lnil.eq_1 ∧
  type_of% @Go.Lg.lnil.eq_2 ∧
  type_of% @Go.Lg.lnil.eq_3 ∧
  type_of% @Go.Lg.leqb.eq_1 ∧
  type_of% @Go.Lg.leqb.eq_2 ∧
  type_of% @Go.Lg.leqp.eq_1 ∧
  type_of% @Go.Lg.leqp.eq_2 ∧
  type_of% @Go.Lg.leqp.eq_3 ∧
  type_of% @Go.Lg.leqp.eq_4 ∧
  type_of% @Go.Lg.leqi.eq_1 ∧
  type_of% @Go.Lg.leqi.eq_2 ∧
  type_of% @Go.Lg.leqi.eq_3 ∧
  type_of% @Go.Lg.leqi.eq_4 ∧
  type_of% @Go.Lg.lun.eq_1 ∧
  type_of% @Go.Lg.lun.eq_2 ∧
  type_of% @Go.Lg.lun.eq_3 ∧
  type_of% @Go.Lg.lun.eq_4 ∧
  type_of% @Go.Lg.lpick.eq_1 ∧
  type_of% @Go.Lg.lpick.eq_2 ∧
  type_of% @Go.Lg.lmvs.eq_1 ∧
  type_of% @Go.Lg.lmvs.eq_2 ∧
  type_of% @Go.Lg.lmksl.eq_1 ∧
  type_of% @Go.Lg.lmksl.eq_2 ∧
  type_of% @Go.Lg.lslS.eq_1 ∧
  type_of% @Go.Lg.lslSx.eq_1 ∧
  type_of% @Go.Lg.lslSx.eq_2 ∧
  type_of% @Go.Lg.lslVx.eq_1 ∧
  type_of% @Go.Lg.lsl.eq_1 ∧
  type_of% @Go.Lg.lsl.eq_2 ∧
  type_of% @Go.Lg.lslV.eq_1 ∧
  type_of% @Go.Lg.lslV.eq_2 ∧
  type_of% @Go.Lg.lslV.eq_3 ∧
  type_of% @Go.Lg.lslV.eq_4 ∧
  type_of% @Go.Lg.lslV.eq_5 ∧
  type_of% @Go.Lg.lslA.eq_1 ∧
  type_of% @Go.Lg.lslA.eq_2 ∧
  type_of% @Go.Lg.lslA.eq_3 ∧
  type_of% @Go.Lg.lfad.eq_1 ∧
  type_of% @Go.Lg.lfad.eq_2 ∧
  type_of% @Go.Lg.lfad.eq_3 ∧
  type_of% @Go.Lg.lfld.eq_1 :=
  ⟨@Go.Lg.lbin.eq_15, @Go.Lg.lbin.eq_16, @Go.Lg.lbin.eq_17, @Go.Lg.lbin.eq_18, @Go.Lg.lbin.eq_19, @Go.Lg.lbin.eq_20, @Go.Lg.lbin.eq_21, @Go.Lg.lbin.eq_22, @Go.Lg.lbin.eq_23, @Go.Lg.lbin.eq_24, @Go.Lg.lbin.eq_25, @Go.Lg.lbin.eq_26, @Go.Lg.lconvI.eq_1, @Go.Lg.lconvI.eq_2, @Go.Lg.lload.eq_1, @Go.Lg.lload.eq_2, @Go.Lg.lload.eq_3, @Go.Lg.lstore.eq_1, @Go.Lg.lstore.eq_2, @Go.Lg.lnil.eq_1, @Go.Lg.lnil.eq_2, @Go.Lg.lnil.eq_3, @Go.Lg.leqb.eq_1, @Go.Lg.leqb.eq_2, @Go.Lg.leqp.eq_1, @Go.Lg.leqp.eq_2, @Go.Lg.leqp.eq_3, @Go.Lg.leqp.eq_4, @Go.Lg.leqi.eq_1, @Go.Lg.leqi.eq_2, @Go.Lg.leqi.eq_3, @Go.Lg.leqi.eq_4, @Go.Lg.lun.eq_1, @Go.Lg.lun.eq_2, @Go.Lg.lun.eq_3, @Go.Lg.lun.eq_4, @Go.Lg.lpick.eq_1, @Go.Lg.lpick.eq_2, @Go.Lg.lmvs.eq_1, @Go.Lg.lmvs.eq_2, @Go.Lg.lmksl.eq_1, @Go.Lg.lmksl.eq_2, @Go.Lg.lslS.eq_1, @Go.Lg.lslSx.eq_1, @Go.Lg.lslSx.eq_2, @Go.Lg.lslVx.eq_1, @Go.Lg.lsl.eq_1, @Go.Lg.lsl.eq_2, @Go.Lg.lslV.eq_1, @Go.Lg.lslV.eq_2, @Go.Lg.lslV.eq_3, @Go.Lg.lslV.eq_4, @Go.Lg.lslV.eq_5, @Go.Lg.lslA.eq_1, @Go.Lg.lslA.eq_2, @Go.Lg.lslA.eq_3, @Go.Lg.lfad.eq_1, @Go.Lg.lfad.eq_2, @Go.Lg.lfad.eq_3, @Go.Lg.lfld.eq_1⟩

theorem VC3 : type_of% @Go.Lg.lfld.eq_2 ∧
  type_of% @Go.Lg.liaA.eq_1 ∧
  type_of% @Go.Lg.liaA.eq_2 ∧
  type_of% @Go.Lg.liaA.eq_3 ∧
  type_of% @Go.Lg.liaA.eq_4 ∧
  type_of% @Go.Lg.liaS.eq_1 ∧
  type_of% @Go.Lg.liaS.eq_2 ∧
  type_of% @Go.Lg.liaS.eq_3 ∧
  type_of% @Go.Lg.liaS.eq_4 ∧
  type_of% @Go.Lg.liaS.eq_5 ∧
  type_of% @Go.Lg.liaS.eq_6 ∧
  type_of% @Go.Lg.lixS.eq_1 ∧
  type_of% @Go.Lg.lixS.eq_2 ∧
  type_of% @Go.Lg.lixS.eq_3 ∧
  type_of% @Go.Lg.ltas.eq_1 ∧
  type_of% @Go.Lg.ltas.eq_2 ∧
  type_of% @Go.Lg.ltas.eq_3 ∧
  type_of% @Go.Lg.lext.eq_1 ∧
  type_of% @Go.Lg.lext.eq_2 ∧
  type_of% @Go.Lg.llen.eq_1 ∧
  type_of% @Go.Lg.llen.eq_2 ∧
  type_of% @Go.Lg.llen.eq_3 ∧
  type_of% @Go.Lg.llen.eq_4 ∧
  type_of% @Go.Lg.llen.eq_5 ∧
  type_of% @Go.Lg.llen.eq_6 ∧
  type_of% @Go.Lg.llen.eq_7 ∧
  type_of% @Go.Lg.lmn.eq_1 ∧
  type_of% @Go.Lg.lmn.eq_2 ∧
  type_of% @Go.Lg.lcallv.eq_1 ∧
  type_of% @Go.Lg.lcallv.eq_2 ∧
  type_of% @Go.Lg.lappx.eq_1 ∧
  type_of% @Go.Lg.lapp.eq_1 ∧
  type_of% @Go.Lg.lapp.eq_2 ∧
  type_of% @Go.Lg.lapp.eq_3 ∧
  type_of% @Go.Lg.lenV.eq_1 ∧
  type_of% @Go.Lg.lenV.eq_2 ∧
  type_of% @Go.Lg.lenV.eq_3 ∧
  type_of% @Go.Lg.lenV.eq_4 ∧
  type_of% @Go.Lg.lenV.eq_5 ∧
  type_of% @Go.Lg.lenV.eq_6 ∧
  type_of% @Go.Lg.lenV.eq_7 ∧
  type_of% @Go.Lg.loOf.eq_1 ∧
  type_of% @Go.Lg.loOf.eq_2 ∧
  type_of% @Go.Lg.hiOf.eq_1 ∧
  type_of% @Go.Lg.hiOf.eq_2 ∧
  type_of% @Go.Lg.srcOf.eq_1 ∧
  type_of% @Go.Lg.srcOf.eq_2 ∧
  type_of% @Go.Lg.srcOf.eq_3 ∧
  type_of% @Go.Lg.srcOf.eq_4 ∧
  type_of% @Go.Lg.srcOf.eq_5 ∧
  type_of% @Go.Lg.V.cells.eq_1 ∧
  type_of% @Go.Lg.V.cells.eq_2 ∧
  type_of% @Go.Lg.V.known.eq_1 ∧
  type_of% @Go.Lg.V.known.eq_2 ∧
  type_of% @Go.Lg.isPtr.eq_1 ∧
  type_of% @Go.Lg.isPtr.eq_2 ∧
  type_of% @Go.Lg.isPtr.eq_3 ∧
  type_of% @Go.Lg.partsOk.eq_1 ∧
  type_of% @Go.Lg.partsOk.eq_2 ∧
  type_of% @Go.Lg.fillL.eq_1 :=
  ⟨@Go.Lg.lfld.eq_2, @Go.Lg.liaA.eq_1, @Go.Lg.liaA.eq_2, @Go.Lg.liaA.eq_3, @Go.Lg.liaA.eq_4, @Go.Lg.liaS.eq_1, @Go.Lg.liaS.eq_2, @Go.Lg.liaS.eq_3, @Go.Lg.liaS.eq_4, @Go.Lg.liaS.eq_5, @Go.Lg.liaS.eq_6, @Go.Lg.lixS.eq_1, @Go.Lg.lixS.eq_2, @Go.Lg.lixS.eq_3, @Go.Lg.ltas.eq_1, @Go.Lg.ltas.eq_2, @Go.Lg.ltas.eq_3, @Go.Lg.lext.eq_1, @Go.Lg.lext.eq_2, @Go.Lg.llen.eq_1, @Go.Lg.llen.eq_2, @Go.Lg.llen.eq_3, @Go.Lg.llen.eq_4, @Go.Lg.llen.eq_5, @Go.Lg.llen.eq_6, @Go.Lg.llen.eq_7, @Go.Lg.lmn.eq_1, @Go.Lg.lmn.eq_2, @Go.Lg.lcallv.eq_1, @Go.Lg.lcallv.eq_2, @Go.Lg.lappx.eq_1, @Go.Lg.lapp.eq_1, @Go.Lg.lapp.eq_2, @Go.Lg.lapp.eq_3, @Go.Lg.lenV.eq_1, @Go.Lg.lenV.eq_2, @Go.Lg.lenV.eq_3, @Go.Lg.lenV.eq_4, @Go.Lg.lenV.eq_5, @Go.Lg.lenV.eq_6, @Go.Lg.lenV.eq_7, @Go.Lg.loOf.eq_1, @Go.Lg.loOf.eq_2, @Go.Lg.hiOf.eq_1, @Go.Lg.hiOf.eq_2, @Go.Lg.srcOf.eq_1, @Go.Lg.srcOf.eq_2, @Go.Lg.srcOf.eq_3, @Go.Lg.srcOf.eq_4, @Go.Lg.srcOf.eq_5, @Go.Lg.V.cells.eq_1, @Go.Lg.V.cells.eq_2, @Go.Lg.V.known.eq_1, @Go.Lg.V.known.eq_2, @Go.Lg.isPtr.eq_1, @Go.Lg.isPtr.eq_2, @Go.Lg.isPtr.eq_3, @Go.Lg.partsOk.eq_1, @Go.Lg.partsOk.eq_2, @Go.Lg.fillL.eq_1⟩

theorem VC4 : type_of% @Go.Lg.fillL.eq_2 ∧
  type_of% @Go.Lg.St.put.eq_1 ∧
  type_of% @Go.Lg.dput_some ∧
  type_of% @Go.Lg.dput_none ∧
  type_of% @Go.Lg.tupd_app ∧
  type_of% @Go.Lg.hupd_app ∧
  type_of% @Go.Lg.cupd_app ∧
  type_of% @Go.Lg.siteOf.eq_1 ∧
  type_of% @Go.Lg.rvals.eq_1 ∧
  type_of% @Go.Lg.rvals.eq_2 ∧
  type_of% @Go.Lg.rval.eq_1 ∧
  type_of% @Go.Lg.rval.eq_2 ∧
  type_of% @Go.Lg.snap.eq_1 ∧
  type_of% @Go.Lg.snap.eq_2 ∧
  type_of% @Go.Lg.snap.eq_3 ∧
  type_of% @Go.Lg.snap.eq_4 ∧
  type_of% @Go.Lg.snap.eq_5 ∧
  type_of% @Go.Lg.snap.eq_6 ∧
  type_of% @Go.Lg.snap.eq_7 ∧
  type_of% @Go.Lg.snap.eq_8 ∧
  type_of% @Go.Lg.snap.eq_9 ∧
  type_of% @Go.Lg.snap.eq_10 ∧
  type_of% @Go.Lg.snap.eq_11 ∧
  type_of% @Go.Lg.sok.eq_1 ∧
  type_of% @Go.Lg.sok.eq_2 ∧
  type_of% @Go.Lg.sok.eq_3 ∧
  type_of% @Go.Lg.sok.eq_4 ∧
  type_of% @Go.Lg.sok.eq_5 ∧
  type_of% @Go.Lg.sok.eq_6 ∧
  type_of% @Go.Lg.sok.eq_7 ∧
  type_of% @Go.Lg.sok.eq_8 ∧
  type_of% @Go.Lg.sok.eq_9 ∧
  type_of% @Go.Lg.sok.eq_10 ∧
  type_of% @Go.Lg.sok.eq_11 ∧
  type_of% @Go.Lg.frs.eq_1 ∧
  type_of% @Go.Lg.frs.eq_2 ∧
  type_of% @Go.Lg.frs.eq_3 ∧
  type_of% @Go.Lg.frs.eq_4 ∧
  type_of% @Go.Lg.frs.eq_5 ∧
  type_of% @Go.Lg.frs.eq_6 ∧
  type_of% @Go.Lg.frs.eq_7 ∧
  type_of% @Go.Lg.frs.eq_8 ∧
  type_of% @Go.Lg.frs.eq_9 ∧
  type_of% @Go.Lg.frs.eq_10 ∧
  type_of% @Go.Lg.frs.eq_11 ∧
  type_of% @Go.Lg.frs.eq_12 ∧
  type_of% @Go.Lg.frs.eq_13 ∧
  type_of% @Go.Lg.frs.eq_14 ∧
  type_of% @Go.Lg.frs.eq_15 ∧
  type_of% @Go.Lg.argTm_app ∧
  type_of% @Go.Lg.noH_app ∧
  type_of% @Go.Lg.noC_app ∧
  type_of% @Go.Lg.tmk_nil ∧
  type_of% @Go.Lg.tmk_cons ∧
  type_of% @Go.Lg.hmk_nil ∧
  type_of% @Go.Lg.hmk_cons ∧
  type_of% @Go.Lg.tmOk.eq_1 ∧
  type_of% @Go.Lg.tmOk.eq_2 ∧
  type_of% @Go.Lg.hOk.eq_1 ∧
  type_of% @Go.Lg.hOk.eq_2 :=
  ⟨@Go.Lg.fillL.eq_2, @Go.Lg.St.put.eq_1, @Go.Lg.dput_some, @Go.Lg.dput_none, @Go.Lg.tupd_app, @Go.Lg.hupd_app, @Go.Lg.cupd_app, @Go.Lg.siteOf.eq_1, @Go.Lg.rvals.eq_1, @Go.Lg.rvals.eq_2, @Go.Lg.rval.eq_1, @Go.Lg.rval.eq_2, @Go.Lg.snap.eq_1, @Go.Lg.snap.eq_2, @Go.Lg.snap.eq_3, @Go.Lg.snap.eq_4, @Go.Lg.snap.eq_5, @Go.Lg.snap.eq_6, @Go.Lg.snap.eq_7, @Go.Lg.snap.eq_8, @Go.Lg.snap.eq_9, @Go.Lg.snap.eq_10, @Go.Lg.snap.eq_11, @Go.Lg.sok.eq_1, @Go.Lg.sok.eq_2, @Go.Lg.sok.eq_3, @Go.Lg.sok.eq_4, @Go.Lg.sok.eq_5, @Go.Lg.sok.eq_6, @Go.Lg.sok.eq_7, @Go.Lg.sok.eq_8, @Go.Lg.sok.eq_9, @Go.Lg.sok.eq_10, @Go.Lg.sok.eq_11, @Go.Lg.frs.eq_1, @Go.Lg.frs.eq_2, @Go.Lg.frs.eq_3, @Go.Lg.frs.eq_4, @Go.Lg.frs.eq_5, @Go.Lg.frs.eq_6, @Go.Lg.frs.eq_7, @Go.Lg.frs.eq_8, @Go.Lg.frs.eq_9, @Go.Lg.frs.eq_10, @Go.Lg.frs.eq_11, @Go.Lg.frs.eq_12, @Go.Lg.frs.eq_13, @Go.Lg.frs.eq_14, @Go.Lg.frs.eq_15, @Go.Lg.argTm_app, @Go.Lg.noH_app, @Go.Lg.noC_app, @Go.Lg.tmk_nil, @Go.Lg.tmk_cons, @Go.Lg.hmk_nil, @Go.Lg.hmk_cons, @Go.Lg.tmOk.eq_1, @Go.Lg.tmOk.eq_2, @Go.Lg.hOk.eq_1, @Go.Lg.hOk.eq_2⟩

theorem VC5 : type_of% @Option.map.eq_1.{0,0} ∧
  type_of% @Option.map.eq_2.{0,0} ∧
  type_of% @Prod.mk.injEq.{0,0} ∧
  type_of% @List.getD_cons_zero.{0} ∧
  type_of% @List.getD_cons_succ.{0} ∧
  type_of% @List.map_cons.{0,0} ∧
  type_of% @List.map_nil.{0,0} ∧
  type_of% @List.all_cons.{0} ∧
  type_of% @List.all_nil.{0} ∧
  type_of% @true_and ∧
  type_of% @and_true ∧
  type_of% @and_self ∧
  type_of% @and_false ∧
  type_of% @false_and ∧
  type_of% @Bool.true_and ∧
  type_of% @Bool.and_true ∧
  type_of% @Bool.not_true ∧
  type_of% @Bool.not_false ∧
  type_of% @beq_self_eq_true.{0} ∧
  type_of% @decide_eq_true_eq ∧
  type_of% @decide_eq_false_iff_not ∧
  type_of% @Int.toNat_natCast ∧
  type_of% @Nat.zero_add ∧
  type_of% @Nat.add_zero ∧
  type_of% @Nat.mul_one ∧
  type_of% @forall_const.{1} ∧
  type_of% @eq_self.{1} ∧
  type_of% @Bool.false_eq_true ∧
  type_of% @Bool.true_eq_false ∧
  type_of% @false_implies ∧
  type_of% @true_implies ∧
  type_of% @beq_true ∧
  type_of% @beq_false ∧
  type_of% @if_true.{1} ∧
  type_of% @if_false.{1} ∧
  type_of% @List.cons_append.{0} ∧
  type_of% @List.nil_append.{0} ∧
  type_of% @Nat.le_refl ∧
  type_of% @Nat.lt_add_one ∧
  type_of% @Go.Lg.stO.eq_1 ∧
  type_of% @Go.Lg.slO.eq_1 ∧
  type_of% @Go.Lg.slO.eq_2 ∧
  type_of% @Go.Lg.SS.v.eq_1 ∧
  type_of% @Go.Lg.SS.v.eq_2 ∧
  type_of% @Go.Lg.SS.v.eq_3 ∧
  type_of% @Go.Lg.SS.v.eq_4 ∧
  type_of% @Go.Lg.SS.v.eq_5 ∧
  type_of% @Go.Lg.SS.v.eq_6 ∧
  type_of% @Go.Lg.SS.v.eq_7 ∧
  type_of% @Go.Lg.SS.v.eq_8 ∧
  type_of% @Go.Lg.SS.v.eq_9 ∧
  type_of% @Go.Lg.SS.v.eq_10 ∧
  type_of% @Go.Lg.SS.v.eq_11 ∧
  type_of% @Go.Lg.SS.v.eq_12 ∧
  type_of% @Go.Lg.SS.v.eq_13 ∧
  type_of% @Go.Lg.SS.v.eq_14 ∧
  type_of% @Go.Lg.hpO.eq_1 ∧
  type_of% @Go.Lg.hpO.eq_2 ∧
  type_of% @Go.Lg.hpO.eq_3 ∧
  type_of% @Go.Lg.hpO.eq_4 :=
  ⟨@Option.map.eq_1.{0,0}, @Option.map.eq_2.{0,0}, @Prod.mk.injEq.{0,0}, @List.getD_cons_zero.{0}, @List.getD_cons_succ.{0}, @List.map_cons.{0,0}, @List.map_nil.{0,0}, @List.all_cons.{0}, @List.all_nil.{0}, @true_and, @and_true, @and_self, @and_false, @false_and, @Bool.true_and, @Bool.and_true, @Bool.not_true, @Bool.not_false, @beq_self_eq_true.{0}, @decide_eq_true_eq, @decide_eq_false_iff_not, @Int.toNat_natCast, @Nat.zero_add, @Nat.add_zero, @Nat.mul_one, @forall_const.{1}, @eq_self.{1}, @Bool.false_eq_true, @Bool.true_eq_false, @false_implies, @true_implies, @beq_true, @beq_false, @if_true.{1}, @if_false.{1}, @List.cons_append.{0}, @List.nil_append.{0}, @Nat.le_refl, @Nat.lt_add_one, @Go.Lg.stO.eq_1, @Go.Lg.slO.eq_1, @Go.Lg.slO.eq_2, @Go.Lg.SS.v.eq_1, @Go.Lg.SS.v.eq_2, @Go.Lg.SS.v.eq_3, @Go.Lg.SS.v.eq_4, @Go.Lg.SS.v.eq_5, @Go.Lg.SS.v.eq_6, @Go.Lg.SS.v.eq_7, @Go.Lg.SS.v.eq_8, @Go.Lg.SS.v.eq_9, @Go.Lg.SS.v.eq_10, @Go.Lg.SS.v.eq_11, @Go.Lg.SS.v.eq_12, @Go.Lg.SS.v.eq_13, @Go.Lg.SS.v.eq_14, @Go.Lg.hpO.eq_1, @Go.Lg.hpO.eq_2, @Go.Lg.hpO.eq_3, @Go.Lg.hpO.eq_4⟩

theorem VC6 : type_of% @Go.Lg.hpO.eq_5 ∧
  type_of% @Go.Lg.hpO.eq_6 ∧
  type_of% @Go.Lg.hpO.eq_7 ∧
  type_of% @Go.Lg.hpO.eq_8 ∧
  type_of% @Go.Lg.hpO.eq_9 ∧
  type_of% @Go.Lg.hpO.eq_10 ∧
  type_of% @Go.Lg.hpO.eq_11 ∧
  type_of% @Go.Lg.hpO.eq_12 ∧
  type_of% @Go.Lg.hpO.eq_13 ∧
  type_of% @Go.Lg.hpO.eq_14 ∧
  type_of% @Go.Lg.hpO.eq_15 ∧
  type_of% @Go.Lg.cnO.eq_1 ∧
  type_of% @Go.Lg.mxO.eq_1 ∧
  type_of% @Go.Lg.mxO.eq_2 ∧
  type_of% @Go.Lg.mxO.eq_3 ∧
  type_of% @Go.Lg.PK.eq_1 ∧
  type_of% @Go.Lg.entL.eq_1 ∧
  type_of% @Go.Lg.entL.eq_2 ∧
  type_of% @Go.Lg.entS.eq_1 ∧
  type_of% @Go.Lg.entS.eq_2 ∧
  type_of% @Go.Lg.entS.eq_3 ∧
  type_of% @Go.Lg.entS.eq_4 ∧
  type_of% @Go.Lg.entS.eq_5 ∧
  type_of% @Go.Lg.entS.eq_6 ∧
  type_of% @Go.Lg.entS.eq_7 ∧
  type_of% @Go.Lg.entS.eq_8 ∧
  type_of% @Go.Lg.entS.eq_9 ∧
  type_of% @Go.Lg.entS.eq_10 ∧
  type_of% @Go.Lg.entS.eq_11 ∧
  type_of% @Go.Lg.entS.eq_12 ∧
  type_of% @Go.Lg.entS.eq_13 ∧
  type_of% @Go.Lg.entS.eq_14 ∧
  type_of% @Go.Lg.ownAt.eq_1 ∧
  type_of% @Go.Lg.ownAt.eq_2 ∧
  type_of% @Go.Lg.ownAt.eq_3 ∧
  type_of% @Go.Lg.boxAt.eq_1 ∧
  type_of% @Go.Lg.boxAt.eq_2 ∧
  type_of% @List.mem_nil_iff.{0} ∧
  type_of% @List.not_mem_nil.{0} ∧
  type_of% @not_false_eq_true ∧
  type_of% @or_false ∧
  type_of% @false_or ∧
  type_of% @not_or ∧
  type_of% @true_or ∧
  type_of% @or_true ∧
  type_of% @Nat.zero_ne_one ∧
  type_of% @Go.Lg.rowV_ld ∧
  type_of% @Go.Lg.hfz.eq_1 ∧
  type_of% @Option.map_some.{0,0} ∧
  type_of% @Go.Lg.intBeq ∧
  type_of% @Go.Lg.intBne ∧
  type_of% @Bool.not_not ∧
  type_of% @decide_true ∧
  type_of% @decide_false ∧
  type_of% @not_true_eq_false ∧
  type_of% @ge_iff_le.{0} ∧
  type_of% @gt_iff_lt.{0} ∧
  type_of% @ite_not.{0} ∧
  type_of% @Bool.true_or ∧
  type_of% @Bool.or_true :=
  ⟨@Go.Lg.hpO.eq_5, @Go.Lg.hpO.eq_6, @Go.Lg.hpO.eq_7, @Go.Lg.hpO.eq_8, @Go.Lg.hpO.eq_9, @Go.Lg.hpO.eq_10, @Go.Lg.hpO.eq_11, @Go.Lg.hpO.eq_12, @Go.Lg.hpO.eq_13, @Go.Lg.hpO.eq_14, @Go.Lg.hpO.eq_15, @Go.Lg.cnO.eq_1, @Go.Lg.mxO.eq_1, @Go.Lg.mxO.eq_2, @Go.Lg.mxO.eq_3, @Go.Lg.PK.eq_1, @Go.Lg.entL.eq_1, @Go.Lg.entL.eq_2, @Go.Lg.entS.eq_1, @Go.Lg.entS.eq_2, @Go.Lg.entS.eq_3, @Go.Lg.entS.eq_4, @Go.Lg.entS.eq_5, @Go.Lg.entS.eq_6, @Go.Lg.entS.eq_7, @Go.Lg.entS.eq_8, @Go.Lg.entS.eq_9, @Go.Lg.entS.eq_10, @Go.Lg.entS.eq_11, @Go.Lg.entS.eq_12, @Go.Lg.entS.eq_13, @Go.Lg.entS.eq_14, @Go.Lg.ownAt.eq_1, @Go.Lg.ownAt.eq_2, @Go.Lg.ownAt.eq_3, @Go.Lg.boxAt.eq_1, @Go.Lg.boxAt.eq_2, @List.mem_nil_iff.{0}, @List.not_mem_nil.{0}, @not_false_eq_true, @or_false, @false_or, @not_or, @true_or, @or_true, @Nat.zero_ne_one, @Go.Lg.rowV_ld, @Go.Lg.hfz.eq_1, @Option.map_some.{0,0}, @Go.Lg.intBeq, @Go.Lg.intBne, @Bool.not_not, @decide_true, @decide_false, @not_true_eq_false, @ge_iff_le.{0}, @gt_iff_lt.{0}, @ite_not.{0}, @Bool.true_or, @Bool.or_true⟩

theorem VC7 : type_of% @Bool.false_or ∧
  type_of% @Bool.or_false ∧
  type_of% @Bool.false_and ∧
  type_of% @Bool.and_false ∧
  type_of% @List.length_nil.{0} ∧
  type_of% @List.length_cons.{0} ∧
  type_of% @Go.Lg.imV.eq_1 ∧
  type_of% @Go.Lg.imV.eq_2 ∧
  type_of% @Go.Lg.imV.eq_3 ∧
  type_of% @Go.Lg.imV.eq_4 ∧
  type_of% @Go.Lg.imV.eq_5 ∧
  type_of% @Go.Lg.imV.eq_6 ∧
  type_of% @Go.Lg.imV.eq_7 ∧
  type_of% @Go.Lg.imV.eq_8 ∧
  type_of% @Go.Lg.imV.eq_9 ∧
  type_of% @Go.Lg.imV.eq_10 ∧
  type_of% @Go.Lg.imV.eq_11 ∧
  type_of% @Go.Lg.imV.eq_12 ∧
  type_of% @Go.Lg.imV.eq_13 ∧
  type_of% @Go.Lg.imV.eq_14 ∧
  type_of% @Go.Lg.imV.eq_15 ∧
  type_of% @Go.Lg.imV.eq_16 ∧
  type_of% @Go.Lg.imV.eq_17 ∧
  type_of% @Go.Lg.V.int.injEq ∧
  type_of% @Go.Lg.V.bool.injEq ∧
  type_of% @Go.Lg.V.sl.injEq ∧
  type_of% @Go.Lg.V.str.injEq ∧
  type_of% @Int.natCast_zero ∧
  type_of% @Int.natCast_add ∧
  type_of% @Int.natCast_one ∧
  type_of% @Int.add_sub_cancel ∧
  type_of% @Nat.add_assoc ∧
  type_of% @Go.Lg.slOf.eq_1 ∧
  type_of% @Go.Lg.slOf.eq_2 ∧
  type_of% @Go.Lg.one_int ∧
  type_of% @Go.Lg.one_bool ∧
  type_of% @Go.Lg.one_str ∧
  type_of% @Go.Lg.one_sl ∧
  type_of% @Go.Lg.one_e0 ∧
  type_of% @Go.Lg.one_msl ∧
  type_of% @Go.Lg.one_mp ∧
  type_of% @Go.Lg.one_ip ∧
  type_of% @Go.Lg.one_nilp ∧
  type_of% @Go.Lg.one_fn ∧
  type_of% @Go.Lg.one_ifc ∧
  type_of% @Go.Lg.one_nili ∧
  type_of% @Nat.sub_zero ∧
  type_of% @Int.cast_ofNat_Int ∧
  type_of% @Int.le_refl ∧
  type_of% @Go.Lg.vcg_join ∧
  type_of% @List.drop_zero.{0} ∧
  type_of% @Go.Lg.vcg_regb ∧
  type_of% @Go.Lg.vopsB_nil ∧
  type_of% @Go.Lg.vopsB_consF ∧
  type_of% @Go.Lg.vopsB_consT ∧
  type_of% @Go.Lg.vstepL_none ∧
  type_of% @Go.Lg.litR_bsl ∧
  type_of% @Go.Lg.rmut.eq_1 ∧
  type_of% @Go.Lg.rmut.eq_2 ∧
  type_of% @Go.Lg.lappE.eq_1 :=
  ⟨@Bool.false_or, @Bool.or_false, @Bool.false_and, @Bool.and_false, @List.length_nil.{0}, @List.length_cons.{0}, @Go.Lg.imV.eq_1, @Go.Lg.imV.eq_2, @Go.Lg.imV.eq_3, @Go.Lg.imV.eq_4, @Go.Lg.imV.eq_5, @Go.Lg.imV.eq_6, @Go.Lg.imV.eq_7, @Go.Lg.imV.eq_8, @Go.Lg.imV.eq_9, @Go.Lg.imV.eq_10, @Go.Lg.imV.eq_11, @Go.Lg.imV.eq_12, @Go.Lg.imV.eq_13, @Go.Lg.imV.eq_14, @Go.Lg.imV.eq_15, @Go.Lg.imV.eq_16, @Go.Lg.imV.eq_17, @Go.Lg.V.int.injEq, @Go.Lg.V.bool.injEq, @Go.Lg.V.sl.injEq, @Go.Lg.V.str.injEq, @Int.natCast_zero, @Int.natCast_add, @Int.natCast_one, @Int.add_sub_cancel, @Nat.add_assoc, @Go.Lg.slOf.eq_1, @Go.Lg.slOf.eq_2, @Go.Lg.one_int, @Go.Lg.one_bool, @Go.Lg.one_str, @Go.Lg.one_sl, @Go.Lg.one_e0, @Go.Lg.one_msl, @Go.Lg.one_mp, @Go.Lg.one_ip, @Go.Lg.one_nilp, @Go.Lg.one_fn, @Go.Lg.one_ifc, @Go.Lg.one_nili, @Nat.sub_zero, @Int.cast_ofNat_Int, @Int.le_refl, @Go.Lg.vcg_join, @List.drop_zero.{0}, @Go.Lg.vcg_regb, @Go.Lg.vopsB_nil, @Go.Lg.vopsB_consF, @Go.Lg.vopsB_consT, @Go.Lg.vstepL_none, @Go.Lg.litR_bsl, @Go.Lg.rmut.eq_1, @Go.Lg.rmut.eq_2, @Go.Lg.lappE.eq_1⟩

theorem VC8 : type_of% @Go.Lg.lappE.eq_2 ∧
  type_of% @Go.Lg.St.call.eq_1 ∧
  type_of% @Go.Lg.St.back.eq_1 ∧
  type_of% @Go.Lg.callTm_app ∧
  type_of% @Go.Lg.backTm_app ∧
  type_of% @Go.Lg.mapAt.eq_1 ∧
  type_of% @Go.Lg.mapAt.eq_2 ∧
  type_of% @Go.Lg.boxmAt.eq_1 ∧
  type_of% @Go.Lg.boxmAt.eq_2 ∧
  type_of% @Go.Lg.ownFAt.eq_1 ∧
  type_of% @Go.Lg.ownFAt.eq_2 ∧
  type_of% @Go.Lg.ownFAt.eq_3 ∧
  type_of% @Go.Lg.boxoAt.eq_1 ∧
  type_of% @Go.Lg.boxoAt.eq_2 ∧
  type_of% @Go.Lg.SS.isBox.eq_1 ∧
  type_of% @Go.Lg.SS.isBox.eq_2 ∧
  type_of% @Go.Lg.SS.isBox.eq_3 ∧
  type_of% @Go.Lg.SS.isBox.eq_4 ∧
  type_of% @Go.Lg.SS.isBox.eq_5 ∧
  type_of% @Go.Lg.one_mm ∧
  type_of% @Go.Lg.one_im ∧
  type_of% @Go.Lg.lmsb.eq_1 ∧
  type_of% @Go.Lg.lmsb.eq_2 ∧
  type_of% @Go.Lg.lmlk.eq_1 ∧
  type_of% @Go.Lg.lmlk.eq_2 ∧
  type_of% @Go.Lg.lmlk.eq_3 ∧
  type_of% @Go.Lg.lmset.eq_1 ∧
  type_of% @Go.Lg.lmset.eq_2 ∧
  type_of% @Go.Lg.lmlen.eq_1 ∧
  type_of% @Go.Lg.lmlen.eq_2 ∧
  type_of% @Go.Lg.lmlen.eq_3 ∧
  type_of% @Go.Lg.lmlen.eq_4 ∧
  type_of% @Go.Lg.ls2b.eq_1 ∧
  type_of% @Go.Lg.ls2b.eq_2 ∧
  type_of% @Go.Lg.lb2s.eq_1 ∧
  type_of% @Go.Lg.leqa.eq_1 ∧
  type_of% @Go.Lg.leqa.eq_2 ∧
  type_of% @Go.Lg.lkV.eq_1 ∧
  type_of% @Go.Lg.lkV.eq_2 ∧
  type_of% @Go.Lg.keyV.eq_1 ∧
  type_of% @Go.Lg.keyV.eq_2 ∧
  type_of% @Go.Lg.keyV.eq_3 ∧
  type_of% @Go.Lg.keyV.eq_4 ∧
  type_of% @Go.Lg.keyV.eq_5 ∧
  type_of% @Go.Lg.findK.eq_1 ∧
  type_of% @Go.Lg.findK.eq_2 ∧
  type_of% @Go.Lg.eqK.eq_1 ∧
  type_of% @Go.Lg.eqK.eq_2 ∧
  type_of% @Go.Lg.eqK.eq_3 ∧
  type_of% @Go.Lg.eqK.eq_4 ∧
  type_of% @Go.Lg.eqK.eq_5 ∧
  type_of% @Go.Lg.eqInts.eq_1 ∧
  type_of% @Go.Lg.eqInts.eq_2 ∧
  type_of% @Go.Lg.eqInts.eq_3 ∧
  type_of% @Go.Lg.intsK.eq_1 ∧
  type_of% @Go.Lg.intsK.eq_2 ∧
  type_of% @Go.Lg.intsK.eq_3 ∧
  type_of% @Go.Lg.isSlV.eq_1 ∧
  type_of% @Go.Lg.isSlV.eq_2 ∧
  type_of% @Go.Lg.isSlV.eq_3 :=
  ⟨@Go.Lg.lappE.eq_2, @Go.Lg.St.call.eq_1, @Go.Lg.St.back.eq_1, @Go.Lg.callTm_app, @Go.Lg.backTm_app, @Go.Lg.mapAt.eq_1, @Go.Lg.mapAt.eq_2, @Go.Lg.boxmAt.eq_1, @Go.Lg.boxmAt.eq_2, @Go.Lg.ownFAt.eq_1, @Go.Lg.ownFAt.eq_2, @Go.Lg.ownFAt.eq_3, @Go.Lg.boxoAt.eq_1, @Go.Lg.boxoAt.eq_2, @Go.Lg.SS.isBox.eq_1, @Go.Lg.SS.isBox.eq_2, @Go.Lg.SS.isBox.eq_3, @Go.Lg.SS.isBox.eq_4, @Go.Lg.SS.isBox.eq_5, @Go.Lg.one_mm, @Go.Lg.one_im, @Go.Lg.lmsb.eq_1, @Go.Lg.lmsb.eq_2, @Go.Lg.lmlk.eq_1, @Go.Lg.lmlk.eq_2, @Go.Lg.lmlk.eq_3, @Go.Lg.lmset.eq_1, @Go.Lg.lmset.eq_2, @Go.Lg.lmlen.eq_1, @Go.Lg.lmlen.eq_2, @Go.Lg.lmlen.eq_3, @Go.Lg.lmlen.eq_4, @Go.Lg.ls2b.eq_1, @Go.Lg.ls2b.eq_2, @Go.Lg.lb2s.eq_1, @Go.Lg.leqa.eq_1, @Go.Lg.leqa.eq_2, @Go.Lg.lkV.eq_1, @Go.Lg.lkV.eq_2, @Go.Lg.keyV.eq_1, @Go.Lg.keyV.eq_2, @Go.Lg.keyV.eq_3, @Go.Lg.keyV.eq_4, @Go.Lg.keyV.eq_5, @Go.Lg.findK.eq_1, @Go.Lg.findK.eq_2, @Go.Lg.eqK.eq_1, @Go.Lg.eqK.eq_2, @Go.Lg.eqK.eq_3, @Go.Lg.eqK.eq_4, @Go.Lg.eqK.eq_5, @Go.Lg.eqInts.eq_1, @Go.Lg.eqInts.eq_2, @Go.Lg.eqInts.eq_3, @Go.Lg.intsK.eq_1, @Go.Lg.intsK.eq_2, @Go.Lg.intsK.eq_3, @Go.Lg.isSlV.eq_1, @Go.Lg.isSlV.eq_2, @Go.Lg.isSlV.eq_3⟩

theorem VC9 : type_of% @Go.Lg.isSlV.eq_4 ∧
  type_of% @Go.Lg.boxGAt.eq_1 ∧
  type_of% @Go.Lg.boxGAt.eq_2 ∧
  type_of% @Go.Lg.cutAt.eq_1 ∧
  type_of% @Go.Lg.cutAt.eq_2 ∧
  type_of% @Go.Lg.cutAt.eq_3 ∧
  type_of% @Go.Lg.vcg_regf ∧
  type_of% @Go.Lg.vcg_regg ∧
  type_of% @Go.Lg.vopsL_one ∧
  type_of% @Go.Lg.vopsL_cons ∧
  type_of% @Go.Lg.leqf.eq_1 ∧
  type_of% @Go.Lg.leqf.eq_2 ∧
  type_of% @Go.Lg.leqf.eq_3 ∧
  type_of% @Go.Lg.leqf.eq_4 ∧
  type_of% @Go.Lg.queAt.eq_1 ∧
  type_of% @Go.Lg.queAt.eq_2 ∧
  type_of% @Go.Lg.queAt.eq_3 ∧
  type_of% @Go.Lg.vcg_regh ∧
  type_of% @Go.Lg.vopsH_z ∧
  type_of% @Go.Lg.vopsH_cons ∧
  type_of% @Go.Lg.vcg_regv ∧
  type_of% @Go.Lg.vT_leaf ∧
  type_of% @Go.Lg.vT_none ∧
  type_of% @Go.Lg.vT_alt ∧
  type_of% @Go.Lg.loAt_z ∧
  type_of% @Go.Lg.loAt_s ∧
  type_of% @Go.Lg.itAt.eq_1 ∧
  type_of% @Go.Lg.itAt.eq_2 ∧
  type_of% @Go.Lg.vcg_regc ∧
  type_of% @Go.Lg.vopsC_nil ∧
  type_of% @Go.Lg.vopsC_z ∧
  type_of% @Go.Lg.vopsC_2 :=
  ⟨@Go.Lg.isSlV.eq_4, @Go.Lg.boxGAt.eq_1, @Go.Lg.boxGAt.eq_2, @Go.Lg.cutAt.eq_1, @Go.Lg.cutAt.eq_2, @Go.Lg.cutAt.eq_3, @Go.Lg.vcg_regf, @Go.Lg.vcg_regg, @Go.Lg.vopsL_one, @Go.Lg.vopsL_cons, @Go.Lg.leqf.eq_1, @Go.Lg.leqf.eq_2, @Go.Lg.leqf.eq_3, @Go.Lg.leqf.eq_4, @Go.Lg.queAt.eq_1, @Go.Lg.queAt.eq_2, @Go.Lg.queAt.eq_3, @Go.Lg.vcg_regh, @Go.Lg.vopsH_z, @Go.Lg.vopsH_cons, @Go.Lg.vcg_regv, @Go.Lg.vT_leaf, @Go.Lg.vT_none, @Go.Lg.vT_alt, @Go.Lg.loAt_z, @Go.Lg.loAt_s, @Go.Lg.itAt.eq_1, @Go.Lg.itAt.eq_2, @Go.Lg.vcg_regc, @Go.Lg.vopsC_nil, @Go.Lg.vopsC_z, @Go.Lg.vopsC_2⟩

end Go.Lg

set_option linter.unusedSimpArgs false
set_option linter.unusedVariables false
namespace Go.Lg
open Go Go.RowKit

/-- Types whose values are not looked into. -/
def otherOk (P : Program) : TypeDesc → Bool
  | .bool | .int _ | .string | .struct _ | .array .. => false
  | .slice e => P.cellsOf e == 0
  | _ => true

/-- The cells of a value of a type. -/
inductive Ty (P : Program) : TypeId → List V → Prop
  | bool (t b) : P.underlying t = some .bool → Ty P t [.bool b]
  | int (t k n) : P.underlying t = some (.int k) → (Lit.int k n).wf = true → Ty P t [.int k n]
  | str (t s) : P.underlying t = some .string → s.size ≤ maxLen → Ty P t [.str s]
  | struct (t fs cs) : P.underlying t = some (.struct fs) → cs.length = P.cellsOf t → (∀ f ∈ fs.toList, Ty P f.type ((cs.drop f.offset).take (P.cellsOf f.type))) → Ty P t cs
  | array (t n e cs) : P.underlying t = some (.array n e) → cs.length = P.cellsOf t → (∀ i, i < n → Ty P e ((cs.drop (i * P.cellsOf e)).take (P.cellsOf e))) → Ty P t cs
  | slice (t e n cs) : P.underlying t = some (.slice e) → cs.length = n * P.cellsOf e → n ≤ maxLen → (∀ i, i < n → Ty P e ((cs.drop (i * P.cellsOf e)).take (P.cellsOf e))) → Ty P t [.sl n cs]
  | other (t d) : P.underlying t = some d → otherOk P d = true → Ty P t [.junk]

section
variable {P : Program} {H : Type} {enc : TypeId × Value → H} {w : World}

/-- Cells of the model and logical ones. -/
def CellsRep (w : World) (cs : List Value) (xs : List V) : Prop :=
  xs.length = cs.length ∧ ∀ (j : Nat) (v : Value) (x : V), cs[j]? = some v → xs[j]? = some x → RepI (· < w.heap.size) w v x

theorem CellsRep.one {v : Value} {x : V} (h : RepI (· < w.heap.size) w v x) : CellsRep w [v] [x] := by
  refine ⟨rfl, fun j u y hu hy => ?_⟩
  cases j with
  | zero => simp at hu hy; subst hu hy; exact h
  | succ j => simp at hu

theorem cells?_spec {a : Addr} {n : Nat} {l : List Value} (h : w.cells? 0 a n = some l) : l.length = n ∧ (0 < n → ∃ us T fz, a.spot = none ∧ w.heap[a.block]? = some (.cells us T fz) ∧ a.off + n ≤ us.size ∧ ∀ j, j < n → us[a.off + j]? = l[j]?) := by
  unfold World.cells? at h
  rw [if_pos (Nat.zero_le _)] at h
  obtain ⟨h1, h2⟩ := mapM_spec h
  rw [List.length_range] at h1
  have get : ∀ j (hj : j < n), w.cell? (a.add j) = some (l[j]'(by omega)) := by
    intro j hj
    exact h2 j j _ (by simp [hj]) (List.getElem?_eq_getElem (by omega))
  refine ⟨h1, fun hn => ?_⟩
  have h0 := get 0 hn
  have e0 : a.add 0 = a := by simp [Addr.add]
  rw [e0] at h0
  have hspot : a.spot = none := by
    unfold World.cell? at h0
    split at h0
    · split at h0
      · cases h0
      · rename_i hsp; simpa using hsp
    · cases h0
  obtain ⟨b, off, spot⟩ := a
  subst hspot
  unfold World.cell? at h0
  simp only [] at h0
  cases hb : w.heap[b]? with
  | none => rw [hb] at h0; cases h0
  | some ob =>
    cases ob with
    | cells us T fz =>
      have cell : ∀ j, j < n → us[off + j]? = l[j]? := by
        intro j hj
        have := get j hj
        rw [addr_add, cell_at hb] at this
        rw [this, List.getElem?_eq_getElem (by omega)]
      refine ⟨us, T, fz, rfl, rfl, ?_, cell⟩
      have hl := cell (n - 1) (by omega)
      rw [List.getElem?_eq_getElem (by omega)] at hl
      have : off + (n - 1) < us.size := by
        rcases Nat.lt_or_ge (off + (n - 1)) us.size with h' | h'
        · exact h'
        · rw [Array.getElem?_eq_none h'] at hl; cases hl
      simp only []
      omega
    | _ => rw [hb] at h0; cases h0

/-- Fields side by side. -/
def tileF (P : Program) : Nat → List Field → Option Nat
  | o, [] => some o
  | o, f :: r => if f.offset = o then tileF P (o + P.cellsOf f.type) r else none
def tileOk (P : Program) (t : TypeId) : Bool := match P.underlying t with
  | some (.struct fs) => tileF P 0 fs.toList == some (P.cellsOf t)
  | some (.array n e) => n * P.cellsOf e == P.cellsOf t
  | _ => true

def compsOf (P : Program) (t : TypeId) : List TypeId := match P.underlying t with
  | some (.struct fs) => fs.toList.map (·.type)
  | some (.array _ e) | some (.slice e) => [e]
  | _ => []
/-- All types of the table are laid out side by side, and made of types of the table. -/
def tilesOk (P : Program) : Bool := (List.range P.types.size).all fun t => tileOk P t && (compsOf P t).all fun c => decide (c < P.types.size)

theorem tile_all (h : tilesOk P = true) {t : TypeId} (ht : t < P.types.size) : tileOk P t = true ∧ ∀ c ∈ compsOf P t, c < P.types.size := by
  have := List.all_eq_true.1 h t (List.mem_range.2 ht)
  simp only [Bool.and_eq_true] at this
  exact ⟨this.1, fun c hc => by simpa using List.all_eq_true.1 this.2 c hc⟩

theorem fields_rep {fuel : Nat} (ih : ∀ (t : TypeId) (cs : List Value) (d : DataW H) (p : List MemPlace), t < P.types.size → DataW.trod enc P w 0 (fun _ => true) true fuel t cs = some (d, p) → ∃ xs, Ty P t xs ∧ CellsRep w cs xs) (cs : List Value) :
    ∀ (fs : List Field) (o n : Nat), (∀ f ∈ fs, f.type < P.types.size) → tileF P o fs = some n → n ≤ cs.length → (∀ f ∈ fs, ∃ x, DataW.trod enc P w 0 (fun _ => true) true fuel f.type ((cs.drop f.offset).take (P.cellsOf f.type)) = some x) →
      ∃ xs, o ≤ n ∧ CellsRep w ((cs.drop o).take (n - o)) xs ∧ ∀ f ∈ fs, o ≤ f.offset ∧ Ty P f.type ((xs.drop (f.offset - o)).take (P.cellsOf f.type))
  | [], o, n, _, ht, hn, _ => by
    cases ht
    exact ⟨[], Nat.le_refl _, ⟨by simp, fun j v x h => by simp at h⟩, fun f h => by cases h⟩
  | f :: r, o, n, hin, ht, hn, hf => by
    simp only [tileF] at ht
    split at ht
    case isFalse => cases ht
    rename_i hoff
    obtain ⟨xs', hle, hrep, hty⟩ := fields_rep ih cs r _ n (fun f hm => hin f (List.mem_cons_of_mem _ hm)) ht hn fun f hm => hf f (List.mem_cons_of_mem _ hm)
    obtain ⟨⟨d, p⟩, hx⟩ := hf f (List.mem_cons_self ..)
    obtain ⟨ys, hyt, hyr⟩ := ih _ _ _ _ (hin f (List.mem_cons_self ..)) hx
    rw [hoff] at hx hyr
    have hyl : ys.length = P.cellsOf f.type := by
      rw [hyr.1, List.length_take, List.length_drop]; omega
    have hsplit : (cs.drop o).take (n - o) = (cs.drop o).take (P.cellsOf f.type) ++ (cs.drop (o + P.cellsOf f.type)).take (n - (o + P.cellsOf f.type)) := by
      have e1 : n - o = P.cellsOf f.type + (n - (o + P.cellsOf f.type)) := by omega
      rw [e1, List.take_add, List.drop_drop]
    refine ⟨ys ++ xs', by omega, ?_, fun g hg => ?_⟩
    · rw [hsplit]
      refine ⟨by rw [List.length_append, List.length_append, hyr.1, hrep.1], fun j v x hv hx' => ?_⟩
      have hl : ((cs.drop o).take (P.cellsOf f.type)).length = ys.length := hyr.1.symm
      rw [List.getElem?_append, hl] at hv
      rw [List.getElem?_append] at hx'
      split at hv
      · rename_i hlt; rw [if_pos hlt] at hx'; exact hyr.2 j v x hv hx'
      · rename_i hlt; rw [if_neg hlt] at hx'; exact hrep.2 _ v x hv hx'
    · rcases List.mem_cons.1 hg with rfl | hg
      · refine ⟨by omega, ?_⟩
        rw [hoff, Nat.sub_self, List.drop_zero, List.take_append_of_le_length (by omega), List.take_of_length_le (by omega)]
        exact hyt
      · obtain ⟨h1, h2⟩ := hty g hg
        refine ⟨by omega, ?_⟩
        rw [List.drop_append, List.drop_eq_nil_of_le (by omega), List.nil_append, show g.offset - o - ys.length = g.offset - (o + P.cellsOf f.type) by omega]
        exact h2

/-- Elements side by side, each read by itself. -/
theorem elems_rep {e s : Nat} : ∀ (n : Nat) (get : Nat → List Value), (∀ i, i < n → (get i).length = s ∧ ∃ xs, Ty P e xs ∧ CellsRep w (get i) xs) →
    ∃ xs, CellsRep w ((List.range n).flatMap get) xs ∧ xs.length = n * s ∧ ∀ i, i < n → Ty P e ((xs.drop (i * s)).take s)
  | 0, get, _ => ⟨[], ⟨rfl, fun j v x h => by simp at h⟩, by simp, fun i h => by omega⟩
  | n + 1, get, h => by
    obtain ⟨xs, h1, h2, h3⟩ := elems_rep n get fun i hi => h i (by omega)
    obtain ⟨hl, ys, hy1, hy2⟩ := h n (by omega)
    have hyl : ys.length = s := by rw [hy2.1, hl]
    rw [List.range_succ, List.flatMap_append]
    simp only [List.flatMap_cons, List.flatMap_nil, List.append_nil]
    refine ⟨xs ++ ys, ⟨by rw [List.length_append, List.length_append, h1.1, hy2.1], fun j v x hv hx => ?_⟩, by rw [List.length_append, h2, hyl, Nat.add_mul]; omega, fun i hi => ?_⟩
    · rw [List.getElem?_append, ← h1.1] at hv
      rw [List.getElem?_append] at hx
      split at hv
      · rename_i hlt; rw [if_pos hlt] at hx; exact h1.2 j v x hv hx
      · rename_i hlt; rw [if_neg hlt] at hx; exact hy2.2 _ v x hv hx
    · rcases Nat.lt_or_ge i n with hlt | hge
      · have hm : i * s + s ≤ n * s := by
          have := Nat.mul_le_mul_right s (show i + 1 ≤ n by omega)
          rw [Nat.add_mul] at this; omega
        rw [List.drop_append_of_le_length (by omega), List.take_append_of_le_length (by rw [List.length_drop]; omega)]
        exact h3 i hlt
      · obtain rfl : i = n := by omega
        rw [List.drop_append, List.drop_eq_nil_of_le (by omega), h2, Nat.sub_self]
        simp only [List.nil_append, List.drop_zero]
        rw [List.take_of_length_le (by omega)]
        exact hy1

theorem trod_rep (htile : tilesOk P = true) : ∀ (fuel : Nat) (t : TypeId) (cs : List Value) (d : DataW H) (p : List MemPlace), t < P.types.size → DataW.trod enc P w 0 (fun _ => true) true fuel t cs = some (d, p) → ∃ xs, Ty P t xs ∧ CellsRep w cs xs
  | 0, t, cs, d, p, _, h => by cases h
  | fuel + 1, t, cs, d, p, hin, h => by
    have ih := trod_rep htile fuel
    obtain ⟨hto, hcomp⟩ := tile_all htile hin
    have h0 := h
    cases ht : P.underlying t with
    | none => unfold DataW.trod at h; rw [ht] at h; cases h
    | some td =>
      have other : ∀ v, cs = [v] → otherOk P td = true → ∃ xs, Ty P t xs ∧ CellsRep w cs xs := by
        intro v e hm
        subst e
        exact ⟨[.junk], .other t td ht hm, CellsRep.one (.junk _)⟩
      cases td with
      | bool =>
        obtain ⟨b, rfl, _⟩ := DataW.trod_bool ht h
        exact ⟨_, .bool t b ht, CellsRep.one (.bool b)⟩
      | int k =>
        obtain ⟨n, rfl, _, hw⟩ := DataW.trod_int ht h
        exact ⟨_, .int t k n ht hw, CellsRep.one (.int k n)⟩
      | string =>
        obtain ⟨s, rfl, _, hs⟩ := DataW.trod_string ht h
        exact ⟨_, .str t s ht hs, CellsRep.one (.str s)⟩
      | struct fs =>
        obtain ⟨ys, n, hn, _, hl, hlen, hf⟩ := DataW.trod_struct ht h
        obtain rfl : n = fuel := by omega
        simp only [tileOk, ht, beq_iff_eq] at hto
        obtain ⟨xs, h1, h2, h3⟩ := fields_rep ih cs fs.toList 0 _ (fun f hm => hcomp _ (by simp only [compsOf, ht]; exact List.mem_map_of_mem hm)) hto (by omega) (fun f hm => by
          obtain ⟨i, hi⟩ := List.mem_iff_getElem?.1 hm
          rw [Array.getElem?_toList] at hi
          have hlt : i < fs.size := by
            rcases Nat.lt_or_ge i fs.size with h' | h'
            · exact h'
            · rw [Array.getElem?_eq_none h'] at hi; cases hi
          exact ⟨ys[i], by rw [hf i f hi, List.getElem?_eq_getElem (by omega)]⟩)
        rw [List.drop_zero, Nat.sub_zero, List.take_of_length_le (by omega)] at h2
        exact ⟨xs, .struct t fs xs ht (by rw [h2.1, hl]) (fun f hm => by simpa using (h3 f hm).2), h2⟩
      | array n e =>
        obtain ⟨ys, m, hm, _, hl, hlen, hf⟩ := DataW.trod_array ht h
        obtain rfl : m = fuel := by omega
        simp only [tileOk, ht, beq_iff_eq] at hto
        obtain ⟨xs, h1, h2, h3⟩ := elems_rep (P := P) (e := e) (s := P.cellsOf e) (w := w) n (fun i => (cs.drop (i * P.cellsOf e)).take (P.cellsOf e)) (fun i hi => by
          refine ⟨?_, ?_⟩
          · have hmm : i * P.cellsOf e + P.cellsOf e ≤ n * P.cellsOf e := by
              have := Nat.mul_le_mul_right (P.cellsOf e) (show i + 1 ≤ n by omega)
              rw [Nat.add_mul] at this; omega
            rw [List.length_take, List.length_drop]; omega
          · have hx := hf i hi
            rw [List.getElem?_eq_getElem (by omega)] at hx
            exact ih _ _ _ _ (hcomp e (by simp [compsOf, ht])) hx)
        have hcs : (List.range n).flatMap (fun i => (cs.drop (i * P.cellsOf e)).take (P.cellsOf e)) = cs := by
          have key : ∀ m, m ≤ n → (List.range m).flatMap (fun i => (cs.drop (i * P.cellsOf e)).take (P.cellsOf e)) = cs.take (m * P.cellsOf e) := by
            intro m
            induction m with
            | zero => intro _; simp
            | succ m ihm =>
              intro hm
              rw [List.range_succ, List.flatMap_append, ihm (by omega)]
              simp only [List.flatMap_cons, List.flatMap_nil, List.append_nil]
              rw [Nat.add_mul, Nat.one_mul, List.take_add]
          rw [key n (Nat.le_refl _), List.take_of_length_le (by omega)]
        rw [hcs] at h1
        exact ⟨xs, .array t n e xs ht (by rw [h1.1, hl]) h3, h1⟩
      | slice e =>
        unfold DataW.trod at h
        rw [ht] at h
        simp only [] at h
        by_cases hz : P.cellsOf e = 0
        · obtain ⟨a, l, c, rfl⟩ := Joins.slice_form ht h0
          exact other _ rfl (by simp [otherOk, hz])
        · have hp : 0 < P.cellsOf e := Nat.pos_of_ne_zero hz
          obtain ⟨a, l, c, rfl⟩ := Joins.slice_form ht h0
          cases a with
          | none =>
            have hlc : l = 0 ∧ c = 0 := by
              split at h <;> first | (cases h; done) | simp_all
            obtain ⟨rfl, rfl⟩ := hlc
            exact ⟨[.sl 0 []], .slice t e 0 [] ht (by simp) (Nat.zero_le _) (fun i h => by omega), CellsRep.one (.sl0 _ _)⟩
          | some a =>
            simp only [] at h
            split at h
            case isFalse => cases h
            rename_i hcond
            simp only [Option.bind_eq_some_iff] at h
            obtain ⟨els, hels, _⟩ := h
            obtain ⟨q1, q2⟩ := mapM_spec hels
            rw [List.length_range] at q1
            have each : ∀ i, i < l → ∃ cl, w.cells? 0 (a.add (i * P.cellsOf e)) (P.cellsOf e) = some cl ∧ ∃ xs, Ty P e xs ∧ CellsRep w cl xs := by
              intro i hi
              have := q2 i i _ (by simp [hi]) (List.getElem?_eq_getElem (by omega))
              simp only [Option.bind_eq_some_iff] at this
              obtain ⟨cl, h1, h2⟩ := this
              exact ⟨cl, h1, ih _ _ _ _ (hcomp e (by simp [compsOf, ht])) h2⟩
            by_cases hl0 : l = 0
            · subst hl0
              exact ⟨[.sl 0 []], .slice t e 0 [] ht (by simp) (Nat.zero_le _) (fun i h => by omega), CellsRep.one (.sl0 _ _)⟩
            · obtain ⟨cl0, hc0, _⟩ := each 0 (by omega)
              have ea0 : a.add (0 * P.cellsOf e) = a := by simp [Addr.add]
              rw [ea0] at hc0
              obtain ⟨_, hblk⟩ := cells?_spec hc0
              obtain ⟨us, T, fz, hspot, hb, _, _⟩ := hblk hp
              clear hblk
              obtain ⟨b, off, spot⟩ := a
              simp only [] at hspot hb
              subst hspot
              obtain ⟨xs, h1, h2, h3⟩ := elems_rep (P := P) (e := e) (s := P.cellsOf e) (w := w) l (fun i => ((us.toList.drop (off + i * P.cellsOf e)).take (P.cellsOf e))) (fun i hi => by
                obtain ⟨cl, hcl, xs, hx1, hx2⟩ := each i hi
                rw [addr_add] at hcl
                obtain ⟨hlen, hsp⟩ := cells?_spec hcl
                obtain ⟨us', T', fz', _, hb', hsz, hget⟩ := hsp hp
                simp only [] at hb' hsz hget
                rw [hb] at hb'; cases hb'
                have heq : (us.toList.drop (off + i * P.cellsOf e)).take (P.cellsOf e) = cl := by
                  apply List.ext_getElem?
                  intro j
                  rw [List.getElem?_take]
                  split
                  · rename_i hj
                    rw [List.getElem?_drop, Array.getElem?_toList]
                    exact hget j hj
                  · rename_i hj
                    rw [List.getElem?_eq_none (by omega)]
                refine ⟨by rw [heq]; exact hlen, xs, hx1, by rw [heq]; exact hx2⟩)
              have hsz : off + l * P.cellsOf e ≤ us.size := by
                obtain ⟨cl, hcl, _⟩ := each (l - 1) (by omega)
                rw [addr_add] at hcl
                obtain ⟨_, hsp⟩ := cells?_spec hcl
                obtain ⟨us', T', fz', _, hb', hsz, _⟩ := hsp hp
                simp only [] at hb' hsz
                rw [hb] at hb'; cases hb'
                have : (l - 1) * P.cellsOf e + P.cellsOf e = l * P.cellsOf e := by
                  rw [← Nat.succ_mul]; congr 1; omega
                omega
              refine ⟨[.sl l xs], .slice t e l xs ht h2 (by omega) h3, CellsRep.one (.sl b off l c us T fz xs ?_ hb (by omega) hcond.2.1 fun j v x hv hx => ?_)⟩
              · rcases Nat.lt_or_ge b w.heap.size with h' | h'
                · exact h'
                · rw [Array.getElem?_eq_none h'] at hb; cases hb
              · have hjl : j < l * P.cellsOf e := by
                  rcases Nat.lt_or_ge j xs.length with h' | h'
                  · omega
                  · rw [List.getElem?_eq_none h'] at hx; cases hx
                refine h1.2 j v x ?_ hx
                have hfl : (List.range l).flatMap (fun i => ((us.toList.drop (off + i * P.cellsOf e)).take (P.cellsOf e))) = (us.toList.drop off).take (l * P.cellsOf e) := by
                  have key : ∀ m, (List.range m).flatMap (fun i => ((us.toList.drop (off + i * P.cellsOf e)).take (P.cellsOf e))) = (us.toList.drop off).take (m * P.cellsOf e) := by
                    intro m
                    induction m with
                    | zero => simp
                    | succ m ihm =>
                      rw [List.range_succ, List.flatMap_append, ihm]
                      simp only [List.flatMap_cons, List.flatMap_nil, List.append_nil]
                      rw [Nat.add_mul, Nat.one_mul, List.take_add, List.drop_drop]
                  exact key l
                rw [hfl, List.getElem?_take, if_pos hjl, List.getElem?_drop, Array.getElem?_toList]
                exact hv
      | _ =>
        have : ∃ v, cs = [v] := by
          unfold DataW.trod at h
          rw [ht] at h
          simp only [] at h
          first
            | (cases h; done)
            | (split at h <;> first | (cases h; done) | exact ⟨_, rfl⟩ | simp_all)
        obtain ⟨v, hv⟩ := this
        exact other v hv rfl

end
end Go.Lg

set_option linter.unusedSimpArgs false
set_option linter.unusedVariables false
namespace Go.Lg
open Go Go.RowKit

def kindF (P : Program) (t : TypeId) : Option IntKind := match P.underlying t with | some (.int k) => some k | _ => none
def strF (P : Program) (t : TypeId) : Bool := match P.underlying t with | some .string => true | _ => false
def stF (P : Program) (t : TypeId) : Option (List TypeId) := match P.underlying t with | some (.struct fs) => if tileOk P t then some (fs.toList.map (·.type)) else none | _ => none
def slF (P : Program) (t : TypeId) : Option (TypeId × Nat) := match P.underlying t with | some (.slice e) => some (e, P.cellsOf e) | _ => none
def arF (P : Program) (t : TypeId) : Option (Nat × TypeId × Nat) := match P.underlying t with | some (.array n e) => some (n, e, P.cellsOf e) | _ => none

/-- Cells in pieces, each with its type. -/
def Pcs (Q : TypeId → List V → Prop) : List TypeId → List V → Prop
  | [], xs => xs = []
  | t :: r, xs => ∃ p q, xs = p ++ q ∧ Q t p ∧ Pcs Q r q

section
variable {P : Program}

theorem pcs_of {Q : TypeId → List V → Prop} {xs : List V} : ∀ (fs : List Field) (o n : Nat), tileF P o fs = some n → xs.length = n → (∀ f ∈ fs, Q f.type ((xs.drop f.offset).take (P.cellsOf f.type))) → Pcs Q (fs.map (·.type)) (xs.drop o)
  | [], o, n, h, hl, _ => by
    cases h
    simp only [List.map_nil, Pcs]
    exact List.drop_eq_nil_of_le (by omega)
  | f :: r, o, n, h, hl, hf => by
    simp only [tileF] at h
    split at h
    case isFalse => cases h
    rename_i ho
    have h1 := hf f (List.mem_cons_self ..)
    rw [ho] at h1
    refine ⟨_, _, ?_, h1, pcs_of r _ n h hl fun g hg => hf g (List.mem_cons_of_mem _ hg)⟩
    rw [← List.drop_drop, List.take_append_drop]

theorem Ty.st {t : TypeId} {xs : List V} {ts : List TypeId} (h : Ty P t xs) (hs : stF P t = some ts) : Pcs (Ty P) ts xs := by
  unfold stF at hs
  cases h with
  | struct _ fs _ hu hl hf =>
    simp only [hu] at hs
    split at hs
    case isFalse => cases hs
    rename_i ht
    cases hs
    simp only [tileOk, hu, beq_iff_eq] at ht
    have := pcs_of (Q := Ty P) (xs := xs) fs.toList 0 _ ht hl hf
    simpa using this
  | other _ d hu ho => simp only [hu] at hs; cases d <;> simp_all [otherOk]
  | _ => simp_all

def IsT (P : Program) (t : TypeId) {α : Type} (f : α → List V) (ok : α → Prop) : Prop := ∀ xs, Ty P t xs → ∃ x, xs = f x ∧ ok x

def encL {α : Type} (f : α → List V) (l : List α) : V := .sl l.length (l.flatMap f)

theorem isInt {t : TypeId} (h : kindF P t = some .i64) : IsT P t (fun n : Int => [.int .i64 n]) InI64 := by
  intro xs hx
  unfold kindF at h
  cases hx with
  | int _ k n hu hw =>
    simp only [hu, Option.some.injEq] at h
    subst h
    refine ⟨n, rfl, ?_⟩
    simp [Lit.wf, IntKind.min, IntKind.max, IntKind.signed, IntKind.bits] at hw
    exact hw
  | other _ d hu ho => simp only [hu] at h; cases d <;> simp_all [otherOk]
  | _ => simp_all
theorem isStr {t : TypeId} (h : strF P t = true) : IsT P t (fun s : ByteArray => [.str s]) (fun s => s.size ≤ maxLen) := by
  intro xs hx
  unfold strF at h
  cases hx with
  | str _ b hu hs => exact ⟨b, rfl, hs⟩
  | other _ d hu ho => simp only [hu] at h; cases d <;> simp_all [otherOk]
  | _ => simp_all

theorem Ty.sl {t e : TypeId} {s : Nat} {xs : List V} (h : Ty P t xs) (hs : slF P t = some (e, s)) (hp : 0 < s) :
    ∃ n cs, xs = [.sl n cs] ∧ cs.length = n * s ∧ n ≤ maxLen ∧ ∀ i, i < n → Ty P e ((cs.drop (i * s)).take s) := by
  unfold slF at hs
  cases h with
  | slice _ e' n cs hu hl hn hi =>
    simp only [hu, Option.some.injEq, Prod.mk.injEq] at hs
    obtain ⟨rfl, rfl⟩ := hs
    exact ⟨n, cs, rfl, hl, hn, hi⟩
  | other _ d hu ho =>
    simp only [hu] at hs
    cases d with
    | slice e' =>
      simp only [Option.some.injEq, Prod.mk.injEq] at hs
      obtain ⟨rfl, rfl⟩ := hs
      simp [otherOk] at ho; omega
    | _ => cases hs
  | _ => simp_all

theorem list_of_pcs {α : Type} {f : α → List V} {ok : α → Prop} {s : Nat} (hf : ∀ x, (f x).length = s) : ∀ (n : Nat) (cs : List V), cs.length = n * s → (∀ i, i < n → ∃ x, (cs.drop (i * s)).take s = f x ∧ ok x) →
    ∃ l : List α, l.length = n ∧ cs = l.flatMap f ∧ ∀ x ∈ l, ok x
  | 0, cs, hl, _ => ⟨[], rfl, List.eq_nil_of_length_eq_zero (by omega), fun x h => by cases h⟩
  | n + 1, cs, hl, h => by
    obtain ⟨x, hx, hox⟩ := h 0 (by omega)
    have hl' : (cs.drop s).length = n * s := by rw [List.length_drop, hl, Nat.add_mul]; omega
    obtain ⟨l, h1, h2, h3⟩ := list_of_pcs hf n (cs.drop s) hl' fun i hi => by
      obtain ⟨y, hy, hoy⟩ := h (i + 1) (by omega)
      refine ⟨y, ?_, hoy⟩
      rw [List.drop_drop, show s + i * s = (i + 1) * s by rw [Nat.add_mul]; omega]
      exact hy
    refine ⟨x :: l, by simp [h1], ?_, fun y hy => ?_⟩
    · simp only [Nat.zero_mul, List.drop_zero] at hx
      rw [List.flatMap_cons, ← h2, ← hx, List.take_append_drop]
    · rcases List.mem_cons.1 hy with rfl | hy
      · exact hox
      · exact h3 y hy

theorem isSl {t e : TypeId} {s : Nat} {α : Type} {f : α → List V} {ok : α → Prop} (h : slF P t = some (e, s)) (hp : 0 < s) (hf : ∀ x, (f x).length = s) (he : IsT P e f ok) :
    IsT P t (fun l : List α => [encL f l]) (fun l => l.length ≤ maxLen ∧ ∀ x ∈ l, ok x) := by
  intro xs hx
  obtain ⟨n, cs, rfl, hl, hn, hi⟩ := hx.sl h hp
  obtain ⟨l, h1, h2, h3⟩ := list_of_pcs hf n cs hl fun i h => he _ (hi i h)
  exact ⟨l, by simp only [encL]; rw [← h2, h1], by omega, h3⟩

/-- An array, as a list. -/
theorem isAr {t e : TypeId} {s n : Nat} {α : Type} {f : α → List V} {ok : α → Prop} (h : arF P t = some (n, e, s)) (ht : tileOk P t = true) (hf : ∀ x, (f x).length = s) (he : IsT P e f ok) :
    IsT P t (fun l : List α => l.flatMap f) (fun l => l.length = n ∧ ∀ x ∈ l, ok x) := by
  intro xs hx
  unfold arF at h
  cases hx with
  | array _ n' e' _ hu hl hi =>
    simp only [hu, Option.some.injEq, Prod.mk.injEq] at h
    obtain ⟨rfl, rfl, rfl⟩ := h
    simp only [tileOk, hu, beq_iff_eq] at ht
    obtain ⟨l, h1, h2, h3⟩ := list_of_pcs hf n' xs (by omega) fun i h => he _ (hi i h)
    exact ⟨l, h2, h1, h3⟩
  | other _ d hu ho => simp only [hu] at h; cases d <;> simp_all [otherOk]
  | _ => simp_all

/-! Reading lists of records. -/
theorem flat_len {α : Type} {f : α → List V} {s : Nat} (hf : ∀ x, (f x).length = s) : ∀ (l : List α), (l.flatMap f).length = l.length * s
  | [] => by simp
  | x :: l => by rw [List.flatMap_cons, List.length_append, flat_len hf l, hf, List.length_cons, Nat.add_mul]; omega

theorem flat_rec {α : Type} {f : α → List V} {s : Nat} (hf : ∀ x, (f x).length = s) : ∀ (l : List α) (i : Nat) (h : i < l.length), ((l.flatMap f).drop (i * s)).take s = f l[i]
  | x :: l, 0, _ => by
    rw [List.flatMap_cons, Nat.zero_mul, List.drop_zero, ← hf x, List.take_left]; rfl
  | x :: l, i + 1, h => by
    rw [List.flatMap_cons, Nat.add_mul, Nat.one_mul, Nat.add_comm, List.drop_append, hf, List.drop_eq_nil_of_le (by rw [hf]; omega), List.nil_append, Nat.add_sub_cancel_left]
    exact flat_rec hf l i (by simpa using h)

theorem flat_cell {α : Type} {f : α → List V} {s : Nat} (hf : ∀ x, (f x).length = s) : ∀ (l : List α) (i j : Nat) (h : i < l.length), j < s → (l.flatMap f)[i * s + j]? = (f l[i])[j]?
  | x :: l, 0, j, _, hj => by
    rw [List.flatMap_cons, Nat.zero_mul, Nat.zero_add, List.getElem?_append_left (by rw [hf]; exact hj)]; rfl
  | x :: l, i + 1, j, h, hj => by
    rw [List.flatMap_cons, List.getElem?_append_right (by rw [hf, Nat.add_mul]; omega), hf, show (i + 1) * s + j - s = i * s + j by rw [Nat.add_mul]; omega]
    exact flat_cell hf l i j (by simpa using h) hj

theorem flat_one {α : Type} {f : α → V} (l : List α) (i : Nat) : (l.flatMap fun x => [f x])[i]? = l[i]?.map f := by
  rw [← List.map_eq_flatMap, List.getElem?_map]

end
end Go.Lg

set_option linter.unusedSimpArgs false
set_option linter.unusedVariables false
namespace Go.Lg
open Go Go.RowKit

theorem wrap_u64 {n : Int} (h : 0 ≤ n) (h2 : n < 18446744073709551616) : IntKind.u64.wrap n = n := by
  have e : IntKind.u64.wrap n = n % 18446744073709551616 := rfl
  rw [e]; omega
theorem rv2 (σ : St) (a b : LRV) : [a, b].mapM (rval σ) = (rval σ a).bind fun x => (rval σ b).map fun y => [x, y] := by
  simp only [List.mapM_cons, List.mapM_nil]
  cases rval σ a <;> cases rval σ b <;> rfl
theorem rv3 (σ : St) (a b c : LRV) : [a, b, c].mapM (rval σ) = (rval σ a).bind fun x => (rval σ b).bind fun y => (rval σ c).map fun z => [x, y, z] := by
  simp only [List.mapM_cons, List.mapM_nil]
  cases rval σ a <;> cases rval σ b <;> cases rval σ c <;> rfl

theorem ld_0 (n : Nat) (x : V) (r : List V) : ldV false n (x :: r) 0 = some x := rfl
theorem ld_1 (n : Nat) (x y : V) (r : List V) : ldV false n (x :: y :: r) 1 = some y := rfl
theorem ld_2 (n : Nat) (x y z : V) (r : List V) : ldV false n (x :: y :: z :: r) 2 = some z := rfl

theorem sc_one (x y : V) : setCells [x] 0 [y] = [y] := rfl

def cK (q : IntKind) (n : Int) : List V := [.int q n]
section
variable {q : IntKind}
theorem cK_len (x : Int) : (cK q x).length = 1 := rfl
theorem lk_len (l : List Int) : (l.flatMap (cK q)).length = l.length := by rw [flat_len cK_len, Nat.mul_one]
theorem lk_snap (H : Heap) (d : Nat) (l : List Int) : (l.flatMap (cK q)).map (snap H (d + 1)) = l.flatMap (cK q) := by
  induction l with
  | nil => rfl
  | cons x r ih => rw [List.flatMap_cons, List.map_append, ih]; rfl
theorem lk_sok (H : Heap) (d : Nat) (l : List Int) : (l.flatMap (cK q)).all (sok H (d + 1)) = true := by
  induction l with
  | nil => rfl
  | cons x r ih => rw [List.flatMap_cons, List.all_append, ih]; rfl
theorem lk_one (l : List Int) : (l.flatMap (cK q)).all V.one = true := by
  induction l with
  | nil => rfl
  | cons x r ih => rw [List.flatMap_cons, List.all_append, ih]; rfl
theorem lk_imv (d : Nat) (l : List Int) : (l.flatMap (cK q)).all (imV d) = true := by
  induction l with
  | nil => rfl
  | cons x r ih => rw [List.flatMap_cons, List.all_append, ih]; cases d <;> rfl
theorem lk_flat (d : Nat) (l : List Int) : (l.flatMap (cK q)).all (flat d) = true := by
  induction l with
  | nil => rfl
  | cons x r ih => rw [List.flatMap_cons, List.all_append, ih]; cases d <;> rfl
theorem lk_ints (l : List Int) : intsK q (l.flatMap (cK q)) = true := by
  induction l with
  | nil => rfl
  | cons x r ih => simp only [List.flatMap_cons, cK, List.cons_append, List.nil_append, intsK, decide_true, Bool.true_and]; exact ih
theorem lk_eq (l m : List Int) : eqInts (l.flatMap (cK q)) (m.flatMap (cK q)) = decide (l = m) := by
  induction l generalizing m with
  | nil => cases m <;> simp [eqInts, cK]
  | cons x r ih =>
    cases m with
    | nil => simp [eqInts, cK]
    | cons y m =>
      simp only [List.flatMap_cons, cK, List.cons_append, List.nil_append, eqInts]
      rw [ih m, Bool.eq_iff_iff]; simp
theorem lk_take (n : Nat) : ∀ (l : List Int), (l.flatMap (cK q)).take n = (l.take n).flatMap (cK q) := by
  induction n with
  | zero => intro l; simp
  | succ n ih => intro l; cases l with
    | nil => simp
    | cons x l => simp only [List.flatMap_cons, cK, List.take_succ_cons, List.singleton_append]; rw [ih]
theorem lk_drop (n : Nat) : ∀ (l : List Int), (l.flatMap (cK q)).drop n = (l.drop n).flatMap (cK q) := by
  induction n with
  | zero => intro l; simp
  | succ n ih => intro l; cases l with
    | nil => simp
    | cons x l => simp only [List.flatMap_cons, cK, List.drop_succ_cons, List.singleton_append]; rw [ih]
theorem lk_at {l : List Int} {k : Nat} (h : k < l.length) : (l.flatMap (cK q))[k]? = some (.int q (l.getD k 0)) := by
  induction l generalizing k with
  | nil => cases h
  | cons x r ih =>
    cases k with
    | zero => rfl
    | succ k =>
      have := ih (k := k) (by simpa using h)
      simpa [cK] using this
theorem lk_ld {l : List Int} {k : Nat} (h : k < l.length) : ldV false 1 (l.flatMap (cK q)) k = some (.int q (l.getD k 0)) := by
  simp only [ldV, Bool.false_eq_true, if_false]; exact lk_at h
theorem lk_ldall {l : List Int} {n : Nat} (h : l.length = n) : ldV true n (l.flatMap (cK q)) 0 = some (.agg (l.flatMap (cK q))) := by
  subst h
  simp only [ldV, if_true, Nat.zero_add, lk_len, Nat.le_refl, List.drop_zero]
  rw [List.take_of_length_le (by rw [lk_len]; exact Nat.le_refl _)]
theorem lk_set {l : List Int} {k : Nat} {v : Int} (h : k < l.length) : setCells (l.flatMap (cK q)) k [.int q v] = (l.set k v).flatMap (cK q) := by
  induction l generalizing k with
  | nil => cases h
  | cons x r ih =>
    cases k with
    | zero => simp [setCells, cK]
    | succ k =>
      have := ih (k := k) (by simpa using h)
      simp only [setCells, List.flatMap_cons, List.set_cons_succ, cK, List.cons_append, List.nil_append, List.length_singleton, List.take_succ_cons] at this ⊢
      rw [show k + 1 + 1 = (k + 1) + 1 from rfl, List.drop_succ_cons, this]
theorem lk_setall {l m : List Int} (h : l.length = m.length) : setCells (l.flatMap (cK q)) 0 (m.flatMap (cK q)) = m.flatMap (cK q) := by
  simp only [setCells, List.take_zero, List.nil_append, Nat.zero_add, lk_len]
  rw [List.drop_of_length_le (by rw [lk_len]; omega), List.append_nil]
theorem lk_app (l : List Int) (x : Int) : l.flatMap (cK q) ++ [.int q x] = (l ++ [x]).flatMap (cK q) := by rw [List.flatMap_append]; rfl
theorem lk_mk (n : Nat) : List.replicate n (V.int q 0) = (List.replicate n (0 : Int)).flatMap (cK q) := by
  induction n with
  | zero => rfl
  | succ n ih => simp only [List.replicate_succ, List.flatMap_cons, ← ih]; rfl
end
end Go.Lg

set_option linter.unusedSimpArgs false
set_option linter.unusedVariables false
namespace Go.Lg
open Go Go.RowKit
/-- Which of two lists of numbers is ahead. -/
def cmpI : List Int → List Int → Int
  | [], [] => 0
  | [], _ :: _ => -1
  | _ :: _, [] => 1
  | a :: xs, b :: ys => if a < b then -1 else if b < a then 1 else cmpI xs ys
def isB8 (l : List Int) : Prop := ∀ x ∈ l, 0 ≤ x ∧ x < 256
theorem u8_lt {a b : Int} (ha : 0 ≤ a ∧ a < 256) (hb : 0 ≤ b ∧ b < 256) : (UInt8.ofNat a.toNat < UInt8.ofNat b.toNat) ↔ a < b := by
  rw [UInt8.lt_iff_toNat_lt]
  have h1 : (UInt8.ofNat a.toNat).toNat = a.toNat := by rw [UInt8.toNat_ofNat']; omega
  have h2 : (UInt8.ofNat b.toNat).toNat = b.toNat := by rw [UInt8.toNat_ofNat']; omega
  rw [h1, h2]; omega
theorem cmp_bytes : ∀ (a b : List Int), isB8 a → isB8 b → Lib.compareBytes (Lib.bytesOf a) (Lib.bytesOf b) = cmpI a b
  | [], [], _, _ => rfl
  | [], _ :: _, _, _ => rfl
  | _ :: _, [], _, _ => rfl
  | a :: xs, b :: ys, ha, hb => by
    have ih := cmp_bytes xs ys (fun x h => ha x (List.mem_cons_of_mem _ h)) (fun x h => hb x (List.mem_cons_of_mem _ h))
    have h1 := u8_lt (ha a (List.mem_cons_self ..)) (hb b (List.mem_cons_self ..))
    have h2 := u8_lt (hb b (List.mem_cons_self ..)) (ha a (List.mem_cons_self ..))
    show (if UInt8.ofNat a.toNat < UInt8.ofNat b.toNat then (-1 : Int) else if UInt8.ofNat b.toNat < UInt8.ofNat a.toNat then 1 else Lib.compareBytes (Lib.bytesOf xs) (Lib.bytesOf ys)) = _
    rw [cmpI, ih]
    simp only [h1, h2]
theorem bytes_run {P : Program} {imm : Nat → Prop} {w : World} {v : Value} (l : List Int) (h : RepI imm w v (encL (cK .u8) l)) : (Extern.Bytes.bytesOf v).run P w = .ok ⟨(Lib.bytesOf l).toArray⟩ w := by
  generalize he : encL (cK .u8) l = x at h
  cases h with
  | sl0 A c =>
    have hl : l = [] := by
      have : l.length = 0 := by injection he
      exact List.eq_nil_of_length_eq_zero this
    subst hl
    cases A <;> rfl
  | sl b off n c us T fz cs hm hw hlen hn hcell =>
    have hn' : n = l.length := by injection he with e1 e2; exact e1.symm
    have hcs : cs = l.flatMap (cK .u8) := by injection he with e1 e2; exact e2.symm
    subst hn' hcs
    have key := Lib.run_loadBytesX (P := P) w l ⟨b, off, none⟩ .empty (fun j x hx => by
      have hj : j < l.length := (List.getElem?_eq_some_iff.1 hx).1
      have hc : (l.flatMap (cK .u8))[j]? = some (.int .u8 x) := by
        show (l.flatMap fun y => [V.int .u8 y])[j]? = _
        rw [flat_one, hx]; rfl
      have hju : off + j < us.size := by
        rw [lk_len] at hlen; omega
      have hr := hcell j _ _ (Array.getElem?_eq_getElem hju) hc
      rw [addr_add, cell_at hw, Array.getElem?_eq_getElem hju]
      generalize us[off + j] = u at hr
      cases hr; rfl)
    simp only [Extern.Bytes.bytesOf]
    rw [key]; simp
  | _ => cases he
end Go.Lg
namespace Go.Proofs.Ythpffaofpcikiaa
open Go Go.Lg Go.RowKit
theorem bcmp_ret (a b : List Int) (ha : isB8 a) (hb : isB8 b) : PRet Try.prog 33 [encL (cK .u8) a, encL (cK .u8) b] (.int .i64 (cmpI a b)) := by
  refine ⟨by kernel_rfl, fun imm w vs him hsz hrep => ?_⟩
  obtain ⟨u, v, rfl⟩ : ∃ u v, vs = #[u, v] := by
    obtain ⟨l⟩ := vs
    match l, hsz with
    | [u, v], _ => exact ⟨u, v, rfl⟩
  have hu := bytes_run (P := Try.prog) a (hrep 0 u _ rfl rfl)
  have hv := bytes_run (P := Try.prog) b (hrep 1 v _ rfl rfl)
  have hrun : (Extern.BytealgCompare.compare #[u, v]).run Try.prog w = .ok (.int .i64 (cmpI a b)) w := by
    change Sem.run Try.prog (do pure (goInt (Extern.BytealgCompare.cmp (← Extern.Bytes.bytesOf u) (← Extern.Bytes.bytesOf v)))) w = _
    simp only [Sem.run_bind, hu, hv, Sem.run_pure, Result.andThen]
    rw [Lib.cmp_eq, cmp_bytes a b ha hb]
    rfl
  have goal : Calls Try.prog 33 #[u, v] w fun e w' => e = .returned (.int .i64 (cmpI a b)) ∧ w' = w := by
    go_enter Try.func33, Try.ntmps33
    go_wp2
    rw [run_callFunc_extern Try.func39 (by kernel_rfl) (by kernel_rfl) (by kernel_rfl) (e := Extern.BytealgCompare.compare) (by kernel_rfl), hrun]
    simp only [Result.andThen]
    rw [Oper.upon_value]
    go_wp2
    go_ret
    exact ⟨rfl, rfl⟩
  refine goal.mono ?_
  rintro e w' ⟨rfl, rfl⟩
  exact ⟨_, imm, rfl, .int _ _, BelowD.refl _ _, fun _ h => h, fun _ h => .inl h⟩
end Go.Proofs.Ythpffaofpcikiaa

set_option linter.unusedSimpArgs false
set_option linter.unusedVariables false
namespace Go.Lg
open Go

def xor32 (a b : Int) : Int := IntKind.u32.wrap (BitVec.ofInt IntKind.u32.bits a ^^^ BitVec.ofInt IntKind.u32.bits b).toNat
def or32 (a b : Int) : Int := IntKind.u32.wrap (BitVec.ofInt IntKind.u32.bits a ||| BitVec.ofInt IntKind.u32.bits b).toNat
def and32 (a b : Int) : Int := IntKind.u32.wrap (BitVec.ofInt IntKind.u32.bits a &&& BitVec.ofInt IntKind.u32.bits b).toNat
def shl32 (a : Int) (n : Nat) : Int := IntKind.u32.wrap (a * 2 ^ (min n IntKind.u32.bits))
def shr32 (a : Int) (n : Nat) : Int := a.fdiv (2 ^ (min n IntKind.u32.bits))
theorem or32_comm (a b : Int) : or32 a b = or32 b a := by unfold or32; rw [BitVec.or_comm]
/-- Turned right. -/
def rot32 (x : Int) (n : Nat) : Int := or32 (shr32 x n) (shl32 x (32 - n))
theorem rot_ix : ∀ n : Fin 32, 0 < n.val → IntKind.u64.wrap (BitVec.ofInt IntKind.u64.bits (IntKind.u64.wrap (-(n.val : Int))) &&& BitVec.ofInt IntKind.u64.bits 31).toNat = ((32 - n.val : Nat) : Int) := by decide +kernel

def add32 (a b : Int) : Int := IntKind.u32.wrap (a + b)
def not32 (a : Int) : Int := xor32 (if IntKind.u32.signed = true then -1 else IntKind.u32.max) a
theorem fold_add32 (a b : Int) : IntKind.u32.wrap (a + b) = add32 a b := rfl
theorem fold_xor32 (a b : Int) : IntKind.u32.wrap (BitVec.ofInt IntKind.u32.bits a ^^^ BitVec.ofInt IntKind.u32.bits b).toNat = xor32 a b := rfl
theorem fold_or32 (a b : Int) : IntKind.u32.wrap (BitVec.ofInt IntKind.u32.bits a ||| BitVec.ofInt IntKind.u32.bits b).toNat = or32 a b := rfl
theorem fold_and32 (a b : Int) : IntKind.u32.wrap (BitVec.ofInt IntKind.u32.bits a &&& BitVec.ofInt IntKind.u32.bits b).toNat = and32 a b := rfl
theorem fold_shl32 (a : Int) (n : Nat) : IntKind.u32.wrap (a * 2 ^ (min n IntKind.u32.bits)) = shl32 a n := rfl
theorem fold_shr32 (a : Int) (n : Nat) : a.fdiv (2 ^ (min n IntKind.u32.bits)) = shr32 a n := rfl

theorem fold_not32 (a : Int) : xor32 (if IntKind.u32.signed = true then -1 else IntKind.u32.max) a = not32 a := rfl

def Kc : List Int := [1116352408, 1899447441, 3049323471, 3921009573, 961987163, 1508970993, 2453635748, 2870763221, 3624381080, 310598401, 607225278, 1426881987, 1925078388, 2162078206, 2614888103, 3248222580, 3835390401, 4022224774, 264347078, 604807628, 770255983, 1249150122, 1555081692, 1996064986, 2554220882, 2821834349, 2952996808, 3210313671, 3336571891, 3584528711, 113926993, 338241895, 666307205, 773529912, 1294757372, 1396182291, 1695183700, 1986661051, 2177026350, 2456956037, 2730485921, 2820302411, 3259730800, 3345764771, 3516065817, 3600352804, 4094571909, 275423344, 430227734, 506948616, 659060556, 883997877, 958139571, 1322822218, 1537002063, 1747873779, 1955562222, 2024104815, 2227730452, 2361852424, 2428436474, 2756734187, 3204031479, 3329325298]
def H0 : List Int := [1779033703, 3144134277, 1013904242, 2773480762, 1359893119, 2600822924, 528734635, 1541459225]

/-- The word of four bytes. -/
def wordS (p : List Int) (t : Nat) : Int := or32 (or32 (or32 (shl32 (IntKind.u32.wrap (p.getD (4 * t) 0)) 24) (shl32 (IntKind.u32.wrap (p.getD (4 * t + 1) 0)) 16)) (shl32 (IntKind.u32.wrap (p.getD (4 * t + 2) 0)) 8)) (IntKind.u32.wrap (p.getD (4 * t + 3) 0))
def nextW (W : List Int) (t : Nat) : Int :=
  add32 (add32 (add32 (xor32 (xor32 (rot32 (W.getD (t - 2) 0) 17) (rot32 (W.getD (t - 2) 0) 19)) (shr32 (W.getD (t - 2) 0) 10)) (W.getD (t - 7) 0)) (xor32 (xor32 (rot32 (W.getD (t - 15) 0) 7) (rot32 (W.getD (t - 15) 0) 18)) (shr32 (W.getD (t - 15) 0) 3))) (W.getD (t - 16) 0)
def fillA (f : Nat → Int) : Nat → List Int
  | 0 => List.replicate 64 0
  | t + 1 => (fillA f t).set t (f t)
def fillB (W : List Int) : Nat → List Int
  | 0 => W
  | n + 1 => (fillB W n).set (16 + n) (nextW (fillB W n) (16 + n))
def spreadS (p : List Int) : List Int := fillB (fillA (wordS p) 16) 48
theorem fillA_len (f : Nat → Int) (t : Nat) : (fillA f t).length = 64 := by
  induction t with
  | zero => rfl
  | succ t ih => rw [fillA, List.length_set, ih]
theorem fillB_len {W : List Int} (h : W.length = 64) (n : Nat) : (fillB W n).length = 64 := by
  induction n with
  | zero => exact h
  | succ n ih => rw [fillB, List.length_set, ih]
theorem spreadS_len (p : List Int) : (spreadS p).length = 64 := fillB_len (fillA_len _ _) _

def oneS (v : List Int) (k w : Int) : Int := add32 (add32 (add32 (add32 (v.getD 7 0) (xor32 (xor32 (rot32 (v.getD 4 0) 6) (rot32 (v.getD 4 0) 11)) (rot32 (v.getD 4 0) 25))) (xor32 (and32 (v.getD 4 0) (v.getD 5 0)) (and32 (not32 (v.getD 4 0)) (v.getD 6 0)))) k) w
def twoS (v : List Int) : Int := add32 (xor32 (xor32 (rot32 (v.getD 0 0) 2) (rot32 (v.getD 0 0) 13)) (rot32 (v.getD 0 0) 22)) (xor32 (xor32 (and32 (v.getD 0 0) (v.getD 1 0)) (and32 (v.getD 0 0) (v.getD 2 0))) (and32 (v.getD 1 0) (v.getD 2 0)))
def roundS (v : List Int) (k w : Int) : List Int := [add32 (oneS v k w) (twoS v), v.getD 0 0, v.getD 1 0, v.getD 2 0, add32 (v.getD 3 0) (oneS v k w), v.getD 4 0, v.getD 5 0, v.getD 6 0]
def roundsS (k W v : List Int) : Nat → List Int
  | 0 => v
  | t + 1 => roundS (roundsS k W v t) (k.getD t 0) (W.getD t 0)
theorem roundsS_len {k W v : List Int} (h : v.length = 8) (t : Nat) : (roundsS k W v t).length = 8 := by
  cases t with
  | zero => exact h
  | succ t => rfl
def sumsS (h v : List Int) : Nat → List Int
  | 0 => h
  | i + 1 => (sumsS h v i).set i (add32 ((sumsS h v i).getD i 0) (v.getD i 0))
theorem sumsS_len {h v : List Int} (hl : h.length = 8) (i : Nat) : (sumsS h v i).length = 8 := by
  induction i with
  | zero => exact hl
  | succ i ih => rw [sumsS, List.length_set, ih]
def blockS (h k p : List Int) : List Int := sumsS h (roundsS k (spreadS p) h 64) 8
theorem blockS_len {h k p : List Int} (hl : h.length = 8) : (blockS h k p).length = 8 := sumsS_len hl _

def blocksS (h m : List Int) : Nat → List Int
  | 0 => h
  | n + 1 => blockS (blocksS h m n) Kc ((m.drop (64 * n)).take 64)
theorem blocksS_len {h m : List Int} (hl : h.length = 8) (n : Nat) : (blocksS h m n).length = 8 := by
  cases n with
  | zero => exact hl
  | succ n => exact blockS_len (blocksS_len hl n)
theorem blocksS_add (h m : List Int) (q r : Nat) : blocksS h m (q + r) = blocksS (blocksS h m q) (m.drop (64 * q)) r := by
  induction r with
  | zero => rfl
  | succ r ih =>
    rw [← Nat.add_assoc, blocksS, blocksS, ih, List.drop_drop, show 64 * q + 64 * r = 64 * (q + r) by omega]

/-- How many noughts are put in. -/
def zc (n : Nat) : Nat := (119 - n % 64) % 64
theorem zc_ok (n : Nat) : (n + 1 + zc n) % 64 = 56 := by unfold zc; omega
theorem zc_lt (n : Nat) : zc n < 64 := by unfold zc; omega
def byteL (n s : Nat) : Int := IntKind.u8.wrap (((8 * n : Nat) : Int).fdiv (2 ^ (min s IntKind.u64.bits)))
def lenB (n : Nat) : Nat → List Int
  | 0 => []
  | j + 1 => lenB n j ++ [byteL n (56 - 8 * j)]
theorem lenB_len (n j : Nat) : (lenB n j).length = j := by
  induction j with
  | zero => rfl
  | succ j ih => rw [lenB, List.length_append, ih]; rfl
def padS (b : List Int) : List Int := b ++ [128] ++ List.replicate (zc b.length) 0 ++ lenB b.length 8
theorem padS_len (b : List Int) : (padS b).length = b.length + 9 + zc b.length := by
  simp [padS, lenB_len]; omega
theorem padS_div (b : List Int) : (padS b).length = 64 * ((padS b).length / 64) := by
  have := padS_len b
  have := zc_ok b.length
  omega
def outF (h : List Int) : Nat → List Int
  | 0 => List.replicate 32 0
  | i + 1 => (outF h i).set i (IntKind.u8.wrap (shr32 (h.getD (i / 4) 0) (24 - 8 * (i % 4))))
theorem outF_len (h : List Int) (i : Nat) : (outF h i).length = 32 := by
  induction i with
  | zero => rfl
  | succ i ih => rw [outF, List.length_set, ih]
/-- The sum. -/
def sumS (b : List Int) : List Int := outF (blocksS H0 (padS b) ((padS b).length / 64)) 32
theorem sumS_len (b : List Int) : (sumS b).length = 32 := outF_len _ _
end Go.Lg

set_option linter.unusedSimpArgs false
set_option linter.unusedVariables false
namespace Go.Lg
open Go

theorem bits32 : IntKind.u32.bits = 32 := rfl
theorem wrap32_nat (n : Nat) : IntKind.u32.wrap (n : Int) = ((n % 4294967296 : Nat) : Int) := by
  have e : IntKind.u32.wrap (n : Int) = (n : Int) % 4294967296 := rfl
  rw [e]; omega
theorem or32_nat {a b : Nat} (ha : a < 4294967296) (hb : b < 4294967296) : or32 a b = ((a ||| b : Nat) : Int) := by
  unfold or32
  have h1 : (BitVec.ofInt IntKind.u32.bits (a : Int) ||| BitVec.ofInt IntKind.u32.bits (b : Int)).toNat = a ||| b := by
    rw [BitVec.ofInt_natCast, BitVec.ofInt_natCast, BitVec.toNat_or, BitVec.toNat_ofNat, BitVec.toNat_ofNat, bits32, Nat.mod_eq_of_lt ha, Nat.mod_eq_of_lt hb]
  rw [h1, wrap32_nat, Nat.mod_eq_of_lt]
  exact Nat.or_lt_two_pow (n := 32) ha hb
theorem shl32_nat {a n : Nat} (hn : n ≤ 32) (h : a <<< n < 4294967296) : shl32 a n = ((a <<< n : Nat) : Int) := by
  unfold shl32
  rw [bits32, Nat.min_eq_left hn]
  have e : (a : Int) * 2 ^ n = ((a <<< n : Nat) : Int) := by
    rw [Nat.shiftLeft_eq, Int.natCast_mul, Int.natCast_pow]; rfl
  rw [e, wrap32_nat, Nat.mod_eq_of_lt h]

def accW (x : Nat → Int) : Nat → Int
  | 0 => 0
  | j + 1 => or32 (shl32 (accW x j) 8) (IntKind.u32.wrap (x j))
theorem accW_four (x : Nat → Int) (h : ∀ j, j < 4 → 0 ≤ x j ∧ x j < 256) :
    accW x 4 = or32 (or32 (or32 (shl32 (IntKind.u32.wrap (x 0)) 24) (shl32 (IntKind.u32.wrap (x 1)) 16)) (shl32 (IntKind.u32.wrap (x 2)) 8)) (IntKind.u32.wrap (x 3)) := by
  obtain ⟨a, ha, la⟩ : ∃ a : Nat, x 0 = a ∧ a < 256 := ⟨(x 0).toNat, by have := h 0 (by omega); omega, by have := h 0 (by omega); omega⟩
  obtain ⟨b, hb, lb⟩ : ∃ a : Nat, x 1 = a ∧ a < 256 := ⟨(x 1).toNat, by have := h 1 (by omega); omega, by have := h 1 (by omega); omega⟩
  obtain ⟨c, hc, lc⟩ : ∃ a : Nat, x 2 = a ∧ a < 256 := ⟨(x 2).toNat, by have := h 2 (by omega); omega, by have := h 2 (by omega); omega⟩
  obtain ⟨d, hd, ld⟩ : ∃ a : Nat, x 3 = a ∧ a < 256 := ⟨(x 3).toNat, by have := h 3 (by omega); omega, by have := h 3 (by omega); omega⟩
  have sl : ∀ (a n k : Nat), a < 2 ^ k → n + k ≤ 32 → a <<< n < 4294967296 := by
    intro a n k h1 h2
    rw [Nat.shiftLeft_eq]
    calc a * 2 ^ n < 2 ^ k * 2 ^ n := Nat.mul_lt_mul_of_pos_right h1 (Nat.two_pow_pos n)
      _ = 2 ^ (k + n) := (Nat.pow_add ..).symm
      _ ≤ 2 ^ 32 := Nat.pow_le_pow_right (by omega) (by omega)
  have w : ∀ n : Nat, n < 256 → IntKind.u32.wrap (n : Int) = n := fun n hn => by rw [wrap32_nat, Nat.mod_eq_of_lt (by omega)]
  have orl : ∀ (k a b : Nat), a < 2 ^ k → b < 2 ^ k → a ||| b < 2 ^ k := fun k a b h1 h2 => Nat.or_lt_two_pow h1 h2
  have p8 : (256 : Nat) = 2 ^ 8 := rfl
  rw [p8] at la lb lc ld
  have up : ∀ (a k m : Nat), a < 2 ^ k → k ≤ m → a < 2 ^ m := fun a k m h1 h2 => Nat.lt_of_lt_of_le h1 (Nat.pow_le_pow_right (by omega) h2)
  have shl_lt : ∀ (a k n : Nat), a < 2 ^ k → a <<< n < 2 ^ (k + n) := by
    intro a k n h1
    rw [Nat.shiftLeft_eq, Nat.pow_add]
    exact Nat.mul_lt_mul_of_pos_right h1 (Nat.two_pow_pos n)
  have z : (0 : Int) = ((0 : Nat) : Int) := rfl
  have e32 : (4294967296 : Nat) = 2 ^ 32 := rfl
  simp only [accW]
  rw [ha, hb, hc, hd, w a la, w b lb, w c lc, w d ld]
  rw [z, shl32_nat (by omega) (by simp), or32_nat (by simp) (by rw [e32]; exact up _ _ _ la (by omega))]
  have h1 : (0 <<< 8 ||| a) = a := by simp
  rw [h1]
  have q1 := shl_lt a 8 8 la
  rw [shl32_nat (by omega) (by rw [e32]; exact up _ _ _ q1 (by omega)), or32_nat (by rw [e32]; exact up _ _ _ q1 (by omega)) (by rw [e32]; exact up _ _ _ lb (by omega))]
  have q2 := orl 16 _ b q1 (up _ _ _ lb (by omega))
  have q3 := shl_lt _ 16 8 q2
  rw [shl32_nat (by omega) (by rw [e32]; exact up _ _ _ q3 (by omega)), or32_nat (by rw [e32]; exact up _ _ _ q3 (by omega)) (by rw [e32]; exact up _ _ _ lc (by omega))]
  have q4 := orl 24 _ c q3 (up _ _ _ lc (by omega))
  have q5 := shl_lt _ 24 8 q4
  rw [shl32_nat (by omega) (by rw [e32]; exact q5), or32_nat (by rw [e32]; exact q5) (by rw [e32]; exact up _ _ _ ld (by omega))]
  have r1 := shl_lt a 8 24 la
  have r2 := shl_lt b 8 16 lb
  have r3 := shl_lt c 8 8 lc
  rw [shl32_nat (by omega) (by rw [e32]; exact r1), shl32_nat (by omega) (by rw [e32]; exact up _ _ _ r2 (by omega)), shl32_nat (by omega) (by rw [e32]; exact up _ _ _ r3 (by omega))]
  rw [or32_nat (by rw [e32]; exact r1) (by rw [e32]; exact up _ _ _ r2 (by omega))]
  have r4 := orl 32 _ _ r1 (up _ _ _ r2 (by omega))
  rw [or32_nat (by rw [e32]; exact r4) (by rw [e32]; exact up _ _ _ r3 (by omega))]
  have r5 := orl 32 _ _ r4 (up _ _ _ r3 (by omega))
  rw [or32_nat (by rw [e32]; exact r5) (by rw [e32]; exact up _ _ _ ld (by omega))]
  congr 1
  simp only [Nat.shiftLeft_or_distrib, ← Nat.shiftLeft_add]

theorem fillA_zero (f : Nat → Int) : ∀ (t s : Nat), t ≤ s → s < 64 → (fillA f t).getD s 0 = 0 := by
  intro t
  induction t with
  | zero => intro s _ h; rw [fillA, List.getD_eq_getElem?_getD, List.getElem?_replicate, if_pos h]; rfl
  | succ t ih =>
    intro s h1 h2
    have := ih s (by omega) h2
    rw [List.getD_eq_getElem?_getD] at this ⊢
    rw [fillA, List.getElem?_set_ne (by omega)]; exact this
theorem fillA_self (f : Nat → Int) (t : Nat) (h : t < 64) : (fillA f t).set t 0 = fillA f t := by
  have hl := fillA_len f t
  have hz := fillA_zero f t t (Nat.le_refl _) h
  rw [List.getD_eq_getElem?_getD, List.getElem?_eq_getElem (by omega)] at hz
  simp only [Option.getD_some] at hz
  apply List.ext_getElem
  · simp
  · intro i h1 h2
    rw [List.getElem_set]
    split
    · rename_i e; subst e; exact hz.symm
    · rfl
theorem getD_set_self {l : List Int} {t : Nat} {v : Int} (h : t < l.length) : (l.set t v).getD t 0 = v := by
  simp [List.getD, h]
theorem getD_chunk (M : List Int) (m k : Nat) (h : k < 64) : ((M.drop (64 * m)).take 64).getD k 0 = M.getD (64 * m + k) 0 := by
  simp only [List.getD_eq_getElem?_getD, List.getElem?_take, if_pos h, List.getElem?_drop]

theorem u8_rng (n : Int) : 0 ≤ IntKind.u8.wrap n ∧ IntKind.u8.wrap n < 256 := by
  have e : IntKind.u8.wrap n = n % 256 := rfl
  rw [e]; omega
theorem padS_rng (b : List Int) (hb : ∀ x ∈ b, 0 ≤ x ∧ x < 256) : ∀ x ∈ padS b, 0 ≤ x ∧ x < 256 := by
  intro x hx
  simp only [padS, List.mem_append, List.mem_singleton, List.mem_replicate] at hx
  rcases hx with ((hx | hx) | hx) | hx
  · exact hb x hx
  · omega
  · omega
  · have : ∀ j, x ∈ lenB b.length j → 0 ≤ x ∧ x < 256 := by
      intro j
      induction j with
      | zero => intro h; simp [lenB] at h
      | succ j ih =>
        intro h
        simp only [lenB, List.mem_append, List.mem_singleton] at h
        rcases h with h | h
        · exact ih h
        · rw [h]; exact u8_rng _
    exact this 8 hx
theorem getD_rng {M : List Int} (h : ∀ x ∈ M, 0 ≤ x ∧ x < 256) (k : Nat) : 0 ≤ M.getD k 0 ∧ M.getD k 0 < 256 := by
  rw [List.getD_eq_getElem?_getD]
  cases hk : M[k]? with
  | none => simp
  | some x => exact h x (List.mem_of_getElem? hk)
theorem wordS_acc {M : List Int} (h : ∀ x ∈ M, 0 ≤ x ∧ x < 256) (m t : Nat) (ht : t < 16) : accW (fun j => M.getD (64 * m + 4 * t + j) 0) 4 = wordS ((M.drop (64 * m)).take 64) t := by
  rw [accW_four _ fun j _ => getD_rng h _]
  unfold wordS
  rw [getD_chunk _ _ _ (by omega), getD_chunk _ _ _ (by omega), getD_chunk _ _ _ (by omega), getD_chunk _ _ _ (by omega)]
  rfl
end Go.Lg

set_option linter.unusedSimpArgs false
set_option linter.unusedVariables false
namespace Go.Lg
open Go Go.RowKit

theorem maxLen_eq : maxLen = 9223372036854775807 := rfl
def isBy (b : List Int) : Prop := ∀ x ∈ b, 0 ≤ x ∧ x < 256
/-- The text of bytes. -/
def bytS (b : List Int) : ByteArray := strOf (b.flatMap (cK .u8))
def cBs (b : List Int) : List V := [encL (cK .u8) b]
theorem bs_imv (d : Nat) (L : List (List Int)) : (L.flatMap cBs).all (imV d) = true := by
  induction L with
  | nil => rfl
  | cons x r ih => rw [List.flatMap_cons, List.all_append, ih]; cases d <;> rfl
/-- Two unlike members of one sum. -/
def cl (L : List (List Int)) (i k : Nat) : Bool := decide (sumS (L.getD i []) = sumS (L.getD k [])) && !decide (L.getD i [] = L.getD k [])
def cb : Option (Nat × Nat) → Nat
  | some p => p.2
  | none => 0
def cs : Option (Nat × Nat) → Bool
  | some _ => true
  | none => false
end Go.Lg

set_option linter.unusedSimpArgs false
set_option linter.unusedVariables false
namespace Go.Lg
open Go Go.RowKit

/-- The entries of a store's map. -/
def entB (b : List Int) : V × V := (.agg ((sumS b).flatMap (cK .u8)), .sl b.length (b.flatMap (cK .u8)))
def ents (bs : List (List Int)) : List (V × V) := bs.map entB
theorem ents_len (bs : List (List Int)) : (ents bs).length = bs.length := by simp [ents]
theorem ents_snap (H : Heap) (d : Nat) (bs : List (List Int)) : (ents bs).map (fun e => (snap H (d + 2) e.1, snap H (d + 2) e.2)) = ents bs := by
  simp only [ents, List.map_map]
  refine List.map_congr_left fun b _ => ?_
  simp only [Function.comp, entB, snap, lk_snap]
theorem ents_snapv (H : Heap) (d : Nat) (bs : List (List Int)) : (ents bs).map (fun e => (e.1, snap H (d + 1) e.2)) = ents bs := by
  simp only [ents, List.map_map]
  refine List.map_congr_left fun b _ => ?_
  simp only [Function.comp, entB, snap]
theorem ents_sok (H : Heap) (d : Nat) (bs : List (List Int)) : (ents bs).all (fun e => sok H (d + 2) e.1 && sok H (d + 2) e.2) = true := by
  simp only [ents, List.all_map]
  refine List.all_eq_true.2 fun b _ => ?_
  simp only [Function.comp, entB, sok, lk_sok, Bool.and_self]
theorem ents_imv (d : Nat) (bs : List (List Int)) : (ents bs).all (fun e => imV (d + 1) e.1) = true := by
  simp only [ents, List.all_map]
  refine List.all_eq_true.2 fun b _ => ?_
  simp only [Function.comp, entB, imV, lk_imv]
theorem ents_key (bs : List (List Int)) : (ents bs).all (fun e => keyV (.arr 32 .u8) e.1) = true := by
  simp only [ents, List.all_map]
  refine List.all_eq_true.2 fun b _ => ?_
  simp only [Function.comp, entB, keyV, lk_ints, lk_len, sumS_len, decide_true, Bool.and_self]
theorem ents_app (bs : List (List Int)) (b : List Int) : ents bs ++ [(V.agg ((sumS b).flatMap (cK .u8)), V.sl b.length (b.flatMap (cK .u8)))] = ents (bs ++ [b]) := by
  simp [ents, entB]
theorem wrap_nat {m : Nat} (h : m ≤ 1000) : IntKind.i64.wrap (m : Int) = m := wrap_of_in (by unfold InI64; omega)
theorem set_z : setCells [.int .u8 0, .int .u8 0, .int .u8 0, .int .u8 0, .int .u8 0, .int .u8 0, .int .u8 0, .int .u8 0, .int .u8 0, .int .u8 0, .int .u8 0, .int .u8 0, .int .u8 0, .int .u8 0, .int .u8 0, .int .u8 0, .int .u8 0, .int .u8 0, .int .u8 0, .int .u8 0, .int .u8 0, .int .u8 0, .int .u8 0, .int .u8 0, .int .u8 0, .int .u8 0, .int .u8 0, .int .u8 0, .int .u8 0, .int .u8 0, .int .u8 0, .int .u8 0] 0 [.int .u8 0, .int .u8 0, .int .u8 0, .int .u8 0, .int .u8 0, .int .u8 0, .int .u8 0, .int .u8 0, .int .u8 0, .int .u8 0, .int .u8 0, .int .u8 0, .int .u8 0, .int .u8 0, .int .u8 0, .int .u8 0, .int .u8 0, .int .u8 0, .int .u8 0, .int .u8 0, .int .u8 0, .int .u8 0, .int .u8 0, .int .u8 0, .int .u8 0, .int .u8 0, .int .u8 0, .int .u8 0, .int .u8 0, .int .u8 0, .int .u8 0, .int .u8 0] = ([.int .u8 0, .int .u8 0, .int .u8 0, .int .u8 0, .int .u8 0, .int .u8 0, .int .u8 0, .int .u8 0, .int .u8 0, .int .u8 0, .int .u8 0, .int .u8 0, .int .u8 0, .int .u8 0, .int .u8 0, .int .u8 0, .int .u8 0, .int .u8 0, .int .u8 0, .int .u8 0, .int .u8 0, .int .u8 0, .int .u8 0, .int .u8 0, .int .u8 0, .int .u8 0, .int .u8 0, .int .u8 0, .int .u8 0, .int .u8 0, .int .u8 0, .int .u8 0] : List V) := rfl
theorem ld_z : ldV true 32 [.int .u8 0, .int .u8 0, .int .u8 0, .int .u8 0, .int .u8 0, .int .u8 0, .int .u8 0, .int .u8 0, .int .u8 0, .int .u8 0, .int .u8 0, .int .u8 0, .int .u8 0, .int .u8 0, .int .u8 0, .int .u8 0, .int .u8 0, .int .u8 0, .int .u8 0, .int .u8 0, .int .u8 0, .int .u8 0, .int .u8 0, .int .u8 0, .int .u8 0, .int .u8 0, .int .u8 0, .int .u8 0, .int .u8 0, .int .u8 0, .int .u8 0, .int .u8 0] 0 = some (.agg [.int .u8 0, .int .u8 0, .int .u8 0, .int .u8 0, .int .u8 0, .int .u8 0, .int .u8 0, .int .u8 0, .int .u8 0, .int .u8 0, .int .u8 0, .int .u8 0, .int .u8 0, .int .u8 0, .int .u8 0, .int .u8 0, .int .u8 0, .int .u8 0, .int .u8 0, .int .u8 0, .int .u8 0, .int .u8 0, .int .u8 0, .int .u8 0, .int .u8 0, .int .u8 0, .int .u8 0, .int .u8 0, .int .u8 0, .int .u8 0, .int .u8 0, .int .u8 0]) := rfl
/-- The low bits of a number. -/
theorem and_low (x : Int) (k : Nat) (hk : k ≤ 1000) : ∃ m : Nat, m ≤ k ∧ IntKind.i64.wrap (BitVec.ofInt IntKind.i64.bits x &&& BitVec.ofInt IntKind.i64.bits k).toNat = (m : Int) := by
  have hb : (BitVec.ofInt 64 (k : Int)).toNat = k := by rw [BitVec.toNat_ofInt]; omega
  have hb' : (BitVec.ofInt IntKind.i64.bits (k : Int)).toNat = k := hb
  have hle : (BitVec.ofInt IntKind.i64.bits x &&& BitVec.ofInt IntKind.i64.bits k).toNat ≤ k := by
    rw [BitVec.toNat_and, hb']; exact Nat.and_le_right
  refine ⟨_, hle, ?_⟩
  generalize (BitVec.ofInt IntKind.i64.bits x &&& BitVec.ofInt IntKind.i64.bits k).toNat = m at hle
  exact wrap_nat (by omega)
end Go.Lg
