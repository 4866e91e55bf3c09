/-
  LgU LgV LgR LgS MirA MirC LgW LgX LgY LgZ MpR Soa: put together.
-/
import Derived.Test.YtlnphjjhfgghkaaGreatDoorSPc
import GoSem.ClaimChange
import Derived.ChangeArms
import Derived.OpenShut
import Derived.Lib.SmallJoins
set_option linter.unusedSimpArgs false
set_option linter.unusedVariables false
namespace Go.Lg
open Go Go.RowKit

/-- What a slot holds. -/
inductive SS where
  | val (v : V)
  | frz (v : V)
  | own (esz n : Nat) (cs : List V)
  | box (cs : List V)
  | rows (esz : Nat) (rs : List (Nat × List V))
  | mapS (es : List (V × V))
  | boxm (cs : List V) (es : List (V × V))
  | ownF (esz n : Nat) (cs : List V)
  | boxo (esz n : Nat) (cs : List V)
  | boxG (pre : List V) (esz n : Nat) (cs post : List V)
  | clo (f : FuncId) (ds : List Nat)
  | ali (d' : Nat)
  | que (esz q n : Nat) (cs : List V)
  | itr (left : List (V × V))
  | mapR (esz : Nat) (es : List (V × Nat × List V))

def rowV (d : Nat) : Nat → List (Nat × List V) → List V
  | _, [] => []
  | i, r :: rs => .msl (4398046511104 + d, i) 0 0 r.1 :: rowV d (i + 1) rs

def mapV (d : Nat) : Nat → List (V × Nat × List V) → List (V × V)
  | _, [] => []
  | i, e :: r => (e.1, .msl (4398046511104 + d, i) 0 0 e.2.1) :: mapV d (i + 1) r

def SS.v (d : Nat) : SS → V
  | .val v => v
  | .frz v => v
  | .own _ n _ => .msl (2199023255552 + d, 0) 0 0 n
  | .box _ => .mp (2199023255552 + d, 0) 0 0
  | .rows _ rs => .msl (2199023255552 + d, 0) 0 0 rs.length
  | .mapS _ => .mm (2199023255552 + d, 0)
  | .boxm _ _ => .mp (2199023255552 + d, 0) 0 0
  | .ownF _ n _ => .msl (2199023255552 + d, 0) 0 0 n
  | .boxo _ _ _ => .mp (2199023255552 + d, 0) 0 0
  | .boxG .. => .mp (2199023255552 + d, 0) 0 0
  | .clo f ds => .fn f (ds.map fun d' => .mp (2199023255552 + d', 0) 0 0)
  | .ali d' => .mp (2199023255552 + d', 0) 0 0
  | .que esz q n _ => .qsl (2199023255552 + d, 0) 0 esz q n
  | .itr _ => .mp (2199023255552 + d, 0) 0 0
  | .mapR .. => .mm (2199023255552 + d, 0)

/-- Is it a pointer to an object of its own? -/
def SS.isBox : SS → Bool
  | .box _ | .boxm .. | .boxo .. | .boxG .. => true
  | _ => false

def slO : List (Nat × SS) → Nat → V
  | [], _ => .junk
  | (d, s) :: r, t => if t = d then s.v d else slO r t

def hpO : List (Nat × SS) → Heap
  | [], _ => none
  | (_, .val _) :: r, k => hpO r k
  | (_, .frz _) :: r, k => hpO r k
  | (d, .own esz _ cs) :: r, k => if k = (2199023255552 + d, 0) then some (.row 0 esz cs) else hpO r k
  | (d, .box cs) :: r, k => if k = (2199023255552 + d, 0) then some (.row 0 0 cs) else hpO r k
  | (d, .mapS es) :: r, k => if k = (2199023255552 + d, 0) then some (.map es) else hpO r k
  | (d, .boxm cs es) :: r, k => if k = (2199023255552 + d, 0) then some (.row 0 0 (cs ++ [.mm (4398046511104 + d, 0)])) else if k = (4398046511104 + d, 0) then some (.map es) else hpO r k
  | (d, .ownF esz _ cs) :: r, k => if k = (2199023255552 + d, 0) then some (.row 0 esz cs) else hpO r k
  | (d, .boxo esz n cs) :: r, k => if k = (2199023255552 + d, 0) then some (.row 0 0 [.msl (4398046511104 + d, 0) 0 0 n]) else if k = (4398046511104 + d, 0) then some (.row 0 esz cs) else hpO r k
  | (d, .boxG pre esz n cs post) :: r, k => if k = (2199023255552 + d, 0) then some (.row 0 0 (pre ++ .msl (4398046511104 + d, 0) 0 0 n :: post)) else if k = (4398046511104 + d, 0) then some (.row 0 esz cs) else hpO r k
  | (_, .clo ..) :: r, k => hpO r k
  | (_, .ali _) :: r, k => hpO r k
  | (d, .que esz _ _ cs) :: r, k => if k = (2199023255552 + d, 0) then some (.row 0 esz cs) else hpO r k
  | (d, .itr left) :: r, k => if k = (2199023255552 + d, 0) then some (.it left none) else hpO r k
  | (d, .mapR esz es) :: r, k => if k = (2199023255552 + d, 0) then some (.map (mapV d 0 es)) else if k.1 = 4398046511104 + d then (es[k.2]?).map (fun e => .row 0 esz e.2.2) else hpO r k
  | (d, .rows esz rs) :: r, k => if k = (2199023255552 + d, 0) then some (.row 0 1 (rowV d 0 rs)) else if k.1 = 4398046511104 + d then (rs[k.2]?).map (fun r => .row 0 esz r.2) else hpO r k

def mxO : List (Nat × SS) → Nat
  | [] => 1
  | (_, .rows _ rs) :: r => rs.length + mxO r
  | (_, .mapR _ es) :: r => es.length + mxO r
  | _ :: r => mxO r
def cnO (L : List (Nat × SS)) (c : Nat → Nat) (s : Nat) : Nat := if s < 2199023255552 then 0 else if s < PK then mxO L else c s

def stO (L : List (Nat × SS)) (c : Nat → Nat) : St := ⟨slO L, hpO L, cnO L c⟩

/-- One row of a slice of slices. -/
def rowAt (H : Heap) (esz : Nat) (U : Key → Prop) (κ : Nat → Option Key) (i : Nat) (r : Nat × List V) : Option V → Prop
  | some (.msl k g off m) => ∃ cs, H k = some (.row g esz cs) ∧ off = 0 ∧ m = r.1 ∧ cs = r.2 ∧ cs.all (imV 8) = true ∧ ¬ U k ∧ k.1 < PK ∧ κ i = some k
  | some .e0 => r.1 = 0 ∧ r.2 = [] ∧ κ i = none
  | _ => False

def ownAt (H : Heap) (esz n : Nat) (cs : List V) (U : Key → Prop) (K : (Key → Prop) → Prop) : V → Prop
  | .msl k g off m => match H k with
    | some (.row g' esz' cs') => (g' = g ∧ off = 0 ∧ m = n ∧ esz' = esz ∧ cs' = cs ∧ cs.all (imV 8) = true ∧ ¬ U k ∧ k.1 < PK) ∧ K fun k' => k' = k ∨ U k'
    | _ => False
  | .e0 => (n = 0 ∧ cs = []) ∧ K U
  | _ => False
def queAt (H : Heap) (esz q n : Nat) (cs : List V) (U : Key → Prop) (K : (Key → Prop) → Prop) : V → Prop
  | .qsl k g e q' m => match H k with
    | some (.row g' esz' cs') => (g' = g ∧ e = esz ∧ q' = q ∧ m = n ∧ esz' = esz ∧ cs' = cs ∧ cs.all (imV 8) = true ∧ ¬ U k ∧ k.1 < PK) ∧ K fun k' => k' = k ∨ U k'
    | _ => False
  | .msl k g off m => match H k with
    | some (.row g' esz' cs') => (g' = g ∧ off = 0 ∧ q = 0 ∧ m = n ∧ esz' = esz ∧ cs' = cs ∧ cs.all (imV 8) = true ∧ ¬ U k ∧ k.1 < PK) ∧ K fun k' => k' = k ∨ U k'
    | _ => False
  | _ => False
def itAt (H : Heap) (left : List (V × V)) (U : Key → Prop) (K : (Key → Prop) → Prop) : V → Prop
  | .mp k g off => match H k with
    | some (.it left' _) => (g = 0 ∧ off = 0 ∧ left' = left ∧ left.all (fun p => imV 8 p.1 && imV 8 p.2) = true ∧ ¬ U k ∧ k.1 < PK) ∧ K fun k' => k' = k ∨ U k'
    | _ => False
  | _ => False
def boxAt (H : Heap) (cs : List V) (U : Key → Prop) (K : (Key → Prop) → Prop) : V → Prop
  | .mp k g off => match H k with
    | some (.row g' esz' cs') => (g' = g ∧ off = 0 ∧ esz' = 0 ∧ cs' = cs ∧ cs.all (imV 8) = true ∧ ¬ U k ∧ k.1 < PK) ∧ K fun k' => k' = k ∨ U k'
    | _ => False
  | _ => False
def mapAt (H hf : Heap) (es : List (V × V)) (U : Key → Prop) (K : (Key → Prop) → Prop) : V → Prop
  | .mm k => match H k with
    | some (.map es') => (es'.map (fun p => (p.1, snap hf 8 p.2)) = es ∧ es'.all (fun p => imV 8 p.1) = true ∧ ¬ U k ∧ k.1 < PK) ∧ K fun k' => k' = k ∨ U k'
    | _ => False
  | _ => False
def boxmAt (H hf : Heap) (cs : List V) (es : List (V × V)) (U : Key → Prop) (K : (Key → Prop) → Prop) : V → Prop
  | .mp k g off => match H k with
    | some (.row g' esz' cs') => match cs'[cs.length]? with
      | some (.mm k2) => match H k2 with
        | some (.map es') => (g' = g ∧ off = 0 ∧ esz' = 0 ∧ cs'.length = cs.length + 1 ∧ cs'.take cs.length = cs ∧ cs.all (imV 8) = true ∧ ¬ U k ∧ k.1 < PK) ∧
            (es'.map (fun p => (p.1, snap hf 8 p.2)) = es ∧ es'.all (fun p => imV 8 p.1) = true ∧ ¬ U k2 ∧ k2.1 < PK) ∧ K fun k' => (k' = k ∨ k' = k2) ∨ U k'
        | _ => False
      | _ => False
    | _ => False
  | _ => False
def ownFAt (H hf : Heap) (esz n : Nat) (cs : List V) (U : Key → Prop) (K : (Key → Prop) → Prop) : V → Prop
  | .msl k g off m => match H k with
    | some (.row g' esz' cs') => (g' = g ∧ off = 0 ∧ m = n ∧ esz' = esz ∧ cs'.map (snap hf 8) = cs ∧ ¬ U k ∧ k.1 < PK) ∧ K fun k' => k' = k ∨ U k'
    | _ => False
  | .e0 => (n = 0 ∧ cs = []) ∧ K U
  | _ => False
def boxoAt (H : Heap) (esz n : Nat) (cs : List V) (U : Key → Prop) (K : (Key → Prop) → Prop) : V → Prop
  | .mp k g off => match H k with
    | some (.row g' esz0 [.msl k2 g2 off2 m]) => match H k2 with
      | some (.row g2' esz' cs') => (g' = g ∧ off = 0 ∧ esz0 = 0 ∧ ¬ U k ∧ k.1 < PK) ∧ (g2' = g2 ∧ off2 = 0 ∧ m = n ∧ esz' = esz ∧ cs' = cs ∧ cs.all (imV 8) = true ∧ ¬ U k2 ∧ k2.1 < PK) ∧ k2 ≠ k ∧ K fun k' => (k' = k ∨ k' = k2) ∨ U k'
      | _ => False
    | some (.row g' esz0 [.e0]) => (g' = g ∧ off = 0 ∧ esz0 = 0 ∧ n = 0 ∧ cs = [] ∧ ¬ U k ∧ k.1 < PK) ∧ K fun k' => k' = k ∨ U k'
    | _ => False
  | _ => False
/-- A list cut where another one ends. -/
def cutAt : List V → List V → Option (List V × V × List V)
  | [], x :: r => some ([], x, r)
  | _ :: p, x :: r => match cutAt p r with
    | some (a, y, b) => some (x :: a, y, b)
    | none => none
  | _, [] => none
theorem cutAt_ok : ∀ (p l : List V) {a : List V} {y : V} {b : List V}, cutAt p l = some (a, y, b) → l = a ++ y :: b ∧ a.length = p.length
  | [], [], _, _, _, h => by cases h
  | [], x :: r, _, _, _, h => by cases h; exact ⟨rfl, rfl⟩
  | _ :: _, [], _, _, _, h => by cases h
  | _ :: p, x :: r, a, y, b, h => by
    simp only [cutAt] at h
    cases hc : cutAt p r with
    | none => rw [hc] at h; cases h
    | some q =>
      obtain ⟨a', y', b'⟩ := q
      rw [hc] at h
      cases h
      obtain ⟨h1, h2⟩ := cutAt_ok p r hc
      exact ⟨by rw [h1]; rfl, by rw [List.length_cons, List.length_cons, h2]⟩
def boxGAt (H hf : Heap) (pre : List V) (esz n : Nat) (cs post : List V) (U : Key → Prop) (K : (Key → Prop) → Prop) : V → Prop
  | .mp k g off => match H k with
    | some (.row g' esz0 cells) => match cutAt pre cells with
      | some (a, .msl k2 g2 off2 m, b) => match H k2 with
        | some (.row g2' esz' cs') => (g' = g ∧ off = 0 ∧ esz0 = 0 ∧ a.map (snap hf 8) = pre ∧ b.map (snap hf 8) = post ∧ ¬ U k ∧ k.1 < PK) ∧ (g2' = g2 ∧ off2 = 0 ∧ m = n ∧ esz' = esz ∧ cs'.map (snap hf 8) = cs ∧ ¬ U k2 ∧ k2.1 < PK) ∧ k2 ≠ k ∧ K fun k' => (k' = k ∨ k' = k2) ∨ U k'
        | _ => False
      | some (a, .e0, b) => (g' = g ∧ off = 0 ∧ esz0 = 0 ∧ n = 0 ∧ cs = [] ∧ a.map (snap hf 8) = pre ∧ b.map (snap hf 8) = post ∧ ¬ U k ∧ k.1 < PK) ∧ K fun k' => k' = k ∨ U k'
      | _ => False
    | _ => False
  | _ => False
theorem vr_cells {H hf : Heap} {r : Ren} {a b pre post : List V} {y y' : V} (hr : r.fz = hf) (ha : a.map (snap hf 8) = pre) (hb : b.map (snap hf 8) = post) (hy : VR H r y y') (j : Nat) (x z : V) (hx : (a ++ y :: b)[j]? = some x) (hz : (pre ++ y' :: post)[j]? = some z) : VR H r x z := by
  subst hr ha hb
  rw [List.getElem?_append] at hx hz
  rw [List.length_map] at hz
  by_cases hj : j < a.length
  · rw [if_pos hj] at hx hz
    rw [List.getElem?_map, hx] at hz
    cases hz; exact .frz _ 8
  · rw [if_neg hj] at hx hz
    cases hd : j - a.length with
    | zero => rw [hd] at hx hz; cases hx; cases hz; exact hy
    | succ m =>
      rw [hd] at hx hz
      rw [List.getElem?_cons_succ] at hx hz
      rw [List.getElem?_map, hx] at hz
      cases hz; exact .frz _ 8
def rowsAt (H : Heap) (esz : Nat) (rs : List (Nat × List V)) (U : Key → Prop) (K : (Key → Prop) → Prop) : V → Prop
  | .msl k g off m => match H k with
    | some (.row g' esz' cells) => (g' = g ∧ off = 0 ∧ m = rs.length ∧ esz' = 1 ∧ cells.length = rs.length ∧ ¬ U k ∧ k.1 < PK) ∧
        ∃ κ : Nat → Option Key, (∀ (i : Nat) (r : Nat × List V), rs[i]? = some r → rowAt H esz (fun k' => k' = k ∨ U k') κ i r cells[i]?) ∧ (∀ i j k, κ i = some k → κ j = some k → i = j) ∧
          (∀ i, rs.length ≤ i → κ i = none) ∧ K fun k' => (k' = k ∨ ∃ i, κ i = some k') ∨ U k'
    | _ => False
  | .e0 => rs = [] ∧ K U
  | _ => False
def mapRAt (H : Heap) (esz : Nat) (es : List (V × Nat × List V)) (U : Key → Prop) (K : (Key → Prop) → Prop) : V → Prop
  | .mm k => match H k with
    | some (.map es') => (es'.length = es.length ∧ (∀ (i : Nat) (p : V × V) (e : V × Nat × List V), es'[i]? = some p → es[i]? = some e → p.1 = e.1 ∧ imV 8 p.1 = true) ∧ ¬ U k ∧ k.1 < PK) ∧
        ∃ κ : Nat → Option Key, (∀ (i : Nat) (e : V × Nat × List V), es[i]? = some e → rowAt H esz (fun k' => k' = k ∨ U k') κ i e.2 (es'[i]?.map (·.2))) ∧ (∀ i j k, κ i = some k → κ j = some k → i = j) ∧
          (∀ i, es.length ≤ i → κ i = none) ∧ K fun k' => (k' = k ∨ ∃ i, κ i = some k') ∨ U k'
    | _ => False
  | _ => False

def entS (σ : St) (hf : Heap) (d : Nat) (L : List (Nat × SS)) (U : Key → Prop) (K : (Key → Prop) → Prop) : SS → Prop
  | .val v => (σ.tm d = v ∧ imV 8 v = true) ∧ K U
  | .frz v => snap hf 8 (σ.tm d) = v ∧ K U
  | .own esz n cs => ownAt σ.H esz n cs U K (σ.tm d)
  | .box cs => boxAt σ.H cs U K (σ.tm d)
  | .rows esz rs => rowsAt σ.H esz rs U K (σ.tm d)
  | .mapS es => mapAt σ.H hf es U K (σ.tm d)
  | .boxm cs es => boxmAt σ.H hf cs es U K (σ.tm d)
  | .ownF esz n cs => ownFAt σ.H hf esz n cs U K (σ.tm d)
  | .boxo esz n cs => boxoAt σ.H esz n cs U K (σ.tm d)
  | .boxG pre esz n cs post => boxGAt σ.H hf pre esz n cs post U K (σ.tm d)
  | .clo f ds => (σ.tm d = .fn f (ds.map σ.tm) ∧ ds.all (fun d' => L.any fun p => p.1 == d' && p.2.isBox) = true) ∧ K U
  | .que esz q n cs => queAt σ.H esz q n cs U K (σ.tm d)
  | .itr left => itAt σ.H left U K (σ.tm d)
  | .mapR esz es => mapRAt σ.H esz es U K (σ.tm d)
  | .ali d' => (σ.tm d = σ.tm d' ∧ (L.any fun p => p.1 == d' && p.2.isBox) = true) ∧ K U

def entL (σ : St) (hf : Heap) : List (Nat × SS) → (Key → Prop) → Prop
  | [], _ => True
  | (d, s) :: r, U => entS σ hf d r U (entL σ hf r) s

def dOk (L : List (Nat × SS)) : Bool := (L.map (·.1)).Nodup && (L.map (·.1)).all fun d => decide (d < 1099511627776)

/-- The new keys of a slot. -/
def nK (d : Nat) (k : Key) : Prop := k.1 = 2199023255552 + d ∨ k.1 = 4398046511104 + d

structure Wit (σ : St) (hf : Heap) (L : List (Nat × SS)) (U : Key → Prop) (pi : Key → Option Key) (nil : Key → Bool) : Prop where
  fpi : ∀ k' k, pi k' = some k → ¬ U k ∧ k.1 < PK ∧ ∃ p ∈ L, nK p.1 k'
  finj : ∀ k1 k2 k, pi k1 = some k → pi k2 = some k → k1 = k2
  fnil : ∀ k', nil k' = true → pi k' = none ∧ ∃ p ∈ L, nK p.1 k'
  ftm : ∀ r : Ren, (∀ k' k, pi k' = some k → r.pi k' = some k) → (∀ k', nil k' = true → r.nil k' = true) → r.fz = hf → ∀ p ∈ L, VR σ.H r (σ.tm p.1) (p.2.v p.1)
  fH : ∀ r : Ren, (∀ k' k, pi k' = some k → r.pi k' = some k) → (∀ k', nil k' = true → r.nil k' = true) → r.fz = hf → ∀ k' o', hpO L k' = some o' →
    (∃ k gen esz cs cs', pi k' = some k ∧ σ.H k = some (.row gen esz cs) ∧ o' = .row 0 esz cs' ∧ cs.length = cs'.length ∧ ∀ (j : Nat) (x y : V), cs[j]? = some x → cs'[j]? = some y → VR σ.H r x y) ∨
      (nil k' = true ∧ ∃ esz, o' = .row 0 esz []) ∨ (∃ k es, pi k' = some k ∧ σ.H k = some (.map es) ∧ o' = .map (es.map fun p => (p.1, snap hf 8 p.2)) ∧ es.all (fun p => imV 8 p.1) = true) ∨
      (∃ k left last, pi k' = some k ∧ σ.H k = some (.it left last) ∧ o' = .it left none ∧ left.all (fun p => imV 8 p.1 && imV 8 p.2) = true) ∨
      (∃ k es es', pi k' = some k ∧ σ.H k = some (.map es) ∧ o' = .map es' ∧ es.length = es'.length ∧ ∀ (j : Nat) (p q : V × V), es[j]? = some p → es'[j]? = some q → p.1 = q.1 ∧ imV 8 p.1 = true ∧ VR σ.H r p.2 q.2)
  fcnt : ∀ s n, mxO L ≤ n → pi (s, n) = none ∧ nil (s, n) = false

theorem hpO_keys : ∀ {L : List (Nat × SS)} {k : Key} {o : LObj}, hpO L k = some o → ∃ p ∈ L, nK p.1 k
  | [], _, _, h => by cases h
  | (d, .val _) :: r, k, o, h => by
    obtain ⟨p, h1, h2⟩ := hpO_keys (L := r) h
    exact ⟨p, List.mem_cons_of_mem _ h1, h2⟩
  | (d, .frz _) :: r, k, o, h => by
    obtain ⟨p, h1, h2⟩ := hpO_keys (L := r) h
    exact ⟨p, List.mem_cons_of_mem _ h1, h2⟩
  | (d, .own esz n cs) :: r, k, o, h => by
    simp only [hpO] at h
    split at h
    · rename_i e; subst e; exact ⟨_, List.mem_cons_self .., .inl rfl⟩
    · obtain ⟨p, h1, h2⟩ := hpO_keys (L := r) h
      exact ⟨p, List.mem_cons_of_mem _ h1, h2⟩
  | (d, .box cs) :: r, k, o, h => by
    simp only [hpO] at h
    split at h
    · rename_i e; subst e; exact ⟨_, List.mem_cons_self .., .inl rfl⟩
    · obtain ⟨p, h1, h2⟩ := hpO_keys (L := r) h
      exact ⟨p, List.mem_cons_of_mem _ h1, h2⟩
  | (d, .mapS es) :: r, k, o, h => by
    simp only [hpO] at h
    split at h
    · rename_i e; subst e; exact ⟨_, List.mem_cons_self .., .inl rfl⟩
    · obtain ⟨p, h1, h2⟩ := hpO_keys (L := r) h
      exact ⟨p, List.mem_cons_of_mem _ h1, h2⟩
  | (d, .boxm cs es) :: r, k, o, h => by
    simp only [hpO] at h
    split at h
    · rename_i e; subst e; exact ⟨_, List.mem_cons_self .., .inl rfl⟩
    · split at h
      · rename_i e; subst e; exact ⟨_, List.mem_cons_self .., .inr rfl⟩
      · obtain ⟨p, h1, h2⟩ := hpO_keys (L := r) h
        exact ⟨p, List.mem_cons_of_mem _ h1, h2⟩
  | (d, .que esz q n cs) :: r, k, o, h => by
    simp only [hpO] at h
    split at h
    · rename_i e; subst e; exact ⟨_, List.mem_cons_self .., .inl rfl⟩
    · obtain ⟨p, h1, h2⟩ := hpO_keys (L := r) h
      exact ⟨p, List.mem_cons_of_mem _ h1, h2⟩
  | (d, .itr left) :: r, k, o, h => by
    simp only [hpO] at h
    split at h
    · rename_i e; subst e; exact ⟨_, List.mem_cons_self .., .inl rfl⟩
    · obtain ⟨p, h1, h2⟩ := hpO_keys (L := r) h
      exact ⟨p, List.mem_cons_of_mem _ h1, h2⟩
  | (d, .mapR esz es) :: r, k, o, h => by
    simp only [hpO] at h
    split at h
    · rename_i e; subst e; exact ⟨_, List.mem_cons_self .., .inl rfl⟩
    · split at h
      · rename_i e; exact ⟨_, List.mem_cons_self .., .inr e⟩
      · obtain ⟨p, h1, h2⟩ := hpO_keys (L := r) h
        exact ⟨p, List.mem_cons_of_mem _ h1, h2⟩
  | (d, .ownF esz n cs) :: r, k, o, h => by
    simp only [hpO] at h
    split at h
    · rename_i e; subst e; exact ⟨_, List.mem_cons_self .., .inl rfl⟩
    · obtain ⟨p, h1, h2⟩ := hpO_keys (L := r) h
      exact ⟨p, List.mem_cons_of_mem _ h1, h2⟩
  | (d, .boxo esz n cs) :: r, k, o, h => by
    simp only [hpO] at h
    split at h
    · rename_i e; subst e; exact ⟨_, List.mem_cons_self .., .inl rfl⟩
    · split at h
      · rename_i e; subst e; exact ⟨_, List.mem_cons_self .., .inr rfl⟩
      · obtain ⟨p, h1, h2⟩ := hpO_keys (L := r) h
        exact ⟨p, List.mem_cons_of_mem _ h1, h2⟩
  | (d, .boxG pre esz n cs post) :: r, k, o, h => by
    simp only [hpO] at h
    split at h
    · rename_i e; subst e; exact ⟨_, List.mem_cons_self .., .inl rfl⟩
    · split at h
      · rename_i e; subst e; exact ⟨_, List.mem_cons_self .., .inr rfl⟩
      · obtain ⟨p, h1, h2⟩ := hpO_keys (L := r) h
        exact ⟨p, List.mem_cons_of_mem _ h1, h2⟩
  | (d, .clo ..) :: r, k, o, h => by
    obtain ⟨p, h1, h2⟩ := hpO_keys (L := r) h
    exact ⟨p, List.mem_cons_of_mem _ h1, h2⟩
  | (d, .ali _) :: r, k, o, h => by
    obtain ⟨p, h1, h2⟩ := hpO_keys (L := r) h
    exact ⟨p, List.mem_cons_of_mem _ h1, h2⟩
  | (d, .rows esz rs) :: r, k, o, h => by
    simp only [hpO] at h
    split at h
    · rename_i e; subst e; exact ⟨_, List.mem_cons_self .., .inl rfl⟩
    · split at h
      · rename_i e; exact ⟨_, List.mem_cons_self .., .inr e⟩
      · obtain ⟨p, h1, h2⟩ := hpO_keys (L := r) h
        exact ⟨p, List.mem_cons_of_mem _ h1, h2⟩

theorem rowV_get (d : Nat) : ∀ (rs : List (Nat × List V)) (i j : Nat) (x : V), (rowV d i rs)[j]? = some x → ∃ r, rs[j]? = some r ∧ x = .msl (4398046511104 + d, i + j) 0 0 r.1
  | [], i, j, x, h => by simp [rowV] at h
  | r :: rs, i, 0, x, h => by
    simp only [rowV, List.getElem?_cons_zero, Option.some.injEq] at h
    exact ⟨r, rfl, h.symm⟩
  | r :: rs, i, j + 1, x, h => by
    simp only [rowV, List.getElem?_cons_succ] at h
    obtain ⟨r', h1, h2⟩ := rowV_get d rs (i + 1) j x h
    exact ⟨r', by simpa using h1, by rw [h2, show i + 1 + j = i + (j + 1) by omega]⟩
theorem rowV_len (d : Nat) : ∀ (rs : List (Nat × List V)) (i : Nat), (rowV d i rs).length = rs.length
  | [], _ => rfl
  | _ :: rs, i => by simp [rowV, rowV_len d rs (i + 1)]

theorem mapV_get (d : Nat) : ∀ (es : List (V × Nat × List V)) (i j : Nat) (x : V × V), (mapV d i es)[j]? = some x → ∃ e, es[j]? = some e ∧ x = (e.1, .msl (4398046511104 + d, i + j) 0 0 e.2.1)
  | [], i, j, x, h => by simp [mapV] at h
  | r :: rs, i, 0, x, h => by
    simp only [mapV, List.getElem?_cons_zero, Option.some.injEq] at h
    exact ⟨r, rfl, h.symm⟩
  | r :: rs, i, j + 1, x, h => by
    simp only [mapV, List.getElem?_cons_succ] at h
    obtain ⟨r', h1, h2⟩ := mapV_get d rs (i + 1) j x h
    exact ⟨r', by simpa using h1, by rw [h2, show i + 1 + j = i + (j + 1) by omega]⟩
theorem mapV_len (d : Nat) : ∀ (es : List (V × Nat × List V)) (i : Nat), (mapV d i es).length = es.length
  | [], _ => rfl
  | _ :: es, i => by simp [mapV, mapV_len d es (i + 1)]

theorem dOk_cons {d : Nat} {s : SS} {L : List (Nat × SS)} (h : dOk ((d, s) :: L) = true) : dOk L = true ∧ d < 1099511627776 ∧ ∀ p ∈ L, p.1 ≠ d ∧ p.1 < 1099511627776 := by
  simp only [dOk, List.map_cons, Bool.and_eq_true, decide_eq_true_eq, List.nodup_cons, List.all_cons, List.all_eq_true, List.mem_map, forall_exists_index, and_imp, forall_apply_eq_imp_iff₂] at h ⊢
  obtain ⟨⟨h1, h2⟩, h3, h4⟩ := h
  refine ⟨⟨h2, h4⟩, h3, fun p hp => ⟨?_, h4 p hp⟩⟩
  rintro rfl
  exact h1 ⟨p, hp, rfl⟩

theorem nK_apart {d : Nat} {L : List (Nat × SS)} (hd : d < 1099511627776) (hL : ∀ p ∈ L, p.1 ≠ d ∧ p.1 < 1099511627776) {k : Key} (h : ∃ p ∈ L, nK p.1 k) : ¬ nK d k := by
  obtain ⟨p, hp, h⟩ := h
  obtain ⟨h1, h2⟩ := hL p hp
  unfold nK at *
  omega

instance (d : Nat) (k : Key) : Decidable (nK d k) := by unfold nK; infer_instance

section
variable {σ : St} {hf : Heap}

theorem Wit.consX {d : Nat} {s : SS} {L : List (Nat × SS)} {U U' : Key → Prop} {pi hp : Key → Option Key} {nil hn : Key → Bool} (hok : dOk ((d, s) :: L) = true) (ht : Wit σ hf L U' pi nil) (hU : ∀ k, U k → U' k)
    (h1 : ∀ k' k, nK d k' → hp k' = some k → ¬ U k ∧ k.1 < PK ∧ U' k) (h2 : ∀ k1 k2 k, nK d k1 → nK d k2 → hp k1 = some k → hp k2 = some k → k1 = k2) (h3 : ∀ k', nK d k' → hn k' = true → hp k' = none)
    (h4 : ∀ r : Ren, (∀ k' k, nK d k' → hp k' = some k → r.pi k' = some k) → (∀ k', nK d k' → hn k' = true → r.nil k' = true) → r.fz = hf → (∀ p ∈ L, VR σ.H r (σ.tm p.1) (p.2.v p.1)) → VR σ.H r (σ.tm d) (s.v d))
    (h5 : ∀ r : Ren, (∀ k' k, nK d k' → hp k' = some k → r.pi k' = some k) → (∀ k', nK d k' → hn k' = true → r.nil k' = true) → r.fz = hf → ∀ k' o', nK d k' → hpO ((d, s) :: L) k' = some o' →
      (∃ k gen esz cs cs', hp k' = some k ∧ σ.H k = some (.row gen esz cs) ∧ o' = .row 0 esz cs' ∧ cs.length = cs'.length ∧ ∀ (j : Nat) (x y : V), cs[j]? = some x → cs'[j]? = some y → VR σ.H r x y) ∨
        (hn k' = true ∧ ∃ esz, o' = .row 0 esz []) ∨ (∃ k es, hp k' = some k ∧ σ.H k = some (.map es) ∧ o' = .map (es.map fun p => (p.1, snap hf 8 p.2)) ∧ es.all (fun p => imV 8 p.1) = true) ∨
      (∃ k left last, hp k' = some k ∧ σ.H k = some (.it left last) ∧ o' = .it left none ∧ left.all (fun p => imV 8 p.1 && imV 8 p.2) = true) ∨
      (∃ k es es', hp k' = some k ∧ σ.H k = some (.map es) ∧ o' = .map es' ∧ es.length = es'.length ∧ ∀ (j : Nat) (p q : V × V), es[j]? = some p → es'[j]? = some q → p.1 = q.1 ∧ imV 8 p.1 = true ∧ VR σ.H r p.2 q.2))
    (h6 : ∀ k', ¬ nK d k' → hpO ((d, s) :: L) k' = hpO L k') (h7 : ∀ k', nK d k' → mxO ((d, s) :: L) ≤ k'.2 → hp k' = none ∧ hn k' = false) (h8 : mxO L ≤ mxO ((d, s) :: L)) :
    Wit σ hf ((d, s) :: L) U (fun k' => if nK d k' then hp k' else pi k') (fun k' => if nK d k' then hn k' else nil k') := by
  obtain ⟨_, hd, hL⟩ := dOk_cons hok
  have offp : ∀ k' k, pi k' = some k → ¬ nK d k' := fun k' k h => nK_apart hd hL (ht.fpi k' k h).2.2
  have offn : ∀ k', nil k' = true → ¬ nK d k' := fun k' h => nK_apart hd hL (ht.fnil k' h).2
  have self : ∃ p ∈ (d, s) :: L, p.1 = d := ⟨_, List.mem_cons_self .., rfl⟩
  refine ⟨?_, ?_, ?_, ?_, ?_, ?_⟩
  · intro k' k h
    try simp only [] at h
    split at h
    · rename_i hk
      obtain ⟨a1, a2, _⟩ := h1 k' k hk h
      exact ⟨a1, a2, _, List.mem_cons_self .., hk⟩
    · obtain ⟨a1, a2, p, hp1, hp2⟩ := ht.fpi k' k h
      exact ⟨fun hu => a1 (hU k hu), a2, p, List.mem_cons_of_mem _ hp1, hp2⟩
  · intro k1 k2 k ha hb
    try simp only [] at ha hb
    split at ha <;> split at hb
    · rename_i e1 e2; exact h2 k1 k2 k e1 e2 ha hb
    · rename_i e1 e2; exact absurd (h1 k1 k e1 ha).2.2 (ht.fpi k2 k hb).1
    · rename_i e1 e2; exact absurd (h1 k2 k e2 hb).2.2 (ht.fpi k1 k ha).1
    · exact ht.finj k1 k2 k ha hb
  · intro k' h
    try simp only [] at h ⊢
    split at h
    · rename_i hk
      rw [if_pos hk]
      exact ⟨h3 k' hk h, _, List.mem_cons_self .., hk⟩
    · rename_i hk
      rw [if_neg hk]
      obtain ⟨a1, p, hp1, hp2⟩ := ht.fnil k' h
      exact ⟨a1, p, List.mem_cons_of_mem _ hp1, hp2⟩
  · intro r e1 e2 e3 p hp'
    rcases List.mem_cons.1 hp' with rfl | hp'
    · exact h4 r (fun k' k hk h => e1 k' k (by rw [if_pos hk]; exact h)) (fun k' hk h => e2 k' (by rw [if_pos hk]; exact h)) e3 (ht.ftm r (fun k' k h => e1 k' k (by rw [if_neg (offp k' k h)]; exact h)) (fun k' h => e2 k' (by rw [if_neg (offn k' h)]; exact h)) e3)
    · exact ht.ftm r (fun k' k h => e1 k' k (by rw [if_neg (offp k' k h)]; exact h)) (fun k' h => e2 k' (by rw [if_neg (offn k' h)]; exact h)) e3 p hp'
  · intro r e1 e2 e3 k' o' ho
    by_cases hk : nK d k'
    · rcases h5 r (fun k' k hk h => e1 k' k (by rw [if_pos hk]; exact h)) (fun k' hk h => e2 k' (by rw [if_pos hk]; exact h)) e3 k' o' hk ho with ⟨k, gen, esz, cs, cs', a1, a2⟩ | ⟨a1, a2⟩ | ⟨k, es, a1, a2⟩ | ⟨k, left, last, a1, a2⟩ | ⟨k, es, es', a1, a2⟩
      · exact .inl ⟨k, gen, esz, cs, cs', by rw [if_pos hk]; exact a1, a2⟩
      · exact .inr (.inl ⟨by rw [if_pos hk]; exact a1, a2⟩)
      · exact .inr (.inr (.inl ⟨k, es, by rw [if_pos hk]; exact a1, a2⟩))
      · exact .inr (.inr (.inr (.inl ⟨k, left, last, by rw [if_pos hk]; exact a1, a2⟩)))
      · exact .inr (.inr (.inr (.inr ⟨k, es, es', by rw [if_pos hk]; exact a1, a2⟩)))
    · rw [h6 k' hk] at ho
      rcases ht.fH r (fun k' k h => e1 k' k (by rw [if_neg (offp k' k h)]; exact h)) (fun k' h => e2 k' (by rw [if_neg (offn k' h)]; exact h)) e3 k' o' ho with ⟨k, gen, esz, cs, cs', a1, a2⟩ | ⟨a1, a2⟩ | ⟨k, es, a1, a2⟩ | ⟨k, left, last, a1, a2⟩ | ⟨k, es, es', a1, a2⟩
      · exact .inl ⟨k, gen, esz, cs, cs', by rw [if_neg hk]; exact a1, a2⟩
      · exact .inr (.inl ⟨by rw [if_neg hk]; exact a1, a2⟩)
      · exact .inr (.inr (.inl ⟨k, es, by rw [if_neg hk]; exact a1, a2⟩))
      · exact .inr (.inr (.inr (.inl ⟨k, left, last, by rw [if_neg hk]; exact a1, a2⟩)))
      · exact .inr (.inr (.inr (.inr ⟨k, es, es', by rw [if_neg hk]; exact a1, a2⟩)))
  · intro s' n hn'
    try simp only []
    by_cases hk : nK d (s', n)
    · rw [if_pos hk, if_pos hk]; exact h7 _ hk hn'
    · rw [if_neg hk, if_neg hk]; exact ht.fcnt s' n (Nat.le_trans h8 hn')

theorem Wit.cons {d : Nat} {s : SS} {L : List (Nat × SS)} {U U' : Key → Prop} {pi hp : Key → Option Key} {nil hn : Key → Bool} (hok : dOk ((d, s) :: L) = true) (ht : Wit σ hf L U' pi nil) (hU : ∀ k, U k → U' k)
    (h1 : ∀ k' k, nK d k' → hp k' = some k → ¬ U k ∧ k.1 < PK ∧ U' k) (h2 : ∀ k1 k2 k, nK d k1 → nK d k2 → hp k1 = some k → hp k2 = some k → k1 = k2) (h3 : ∀ k', nK d k' → hn k' = true → hp k' = none)
    (h4 : ∀ r : Ren, (∀ k' k, nK d k' → hp k' = some k → r.pi k' = some k) → (∀ k', nK d k' → hn k' = true → r.nil k' = true) → r.fz = hf → VR σ.H r (σ.tm d) (s.v d))
    (h5 : ∀ r : Ren, (∀ k' k, nK d k' → hp k' = some k → r.pi k' = some k) → (∀ k', nK d k' → hn k' = true → r.nil k' = true) → r.fz = hf → ∀ k' o', nK d k' → hpO ((d, s) :: L) k' = some o' →
      (∃ k gen esz cs cs', hp k' = some k ∧ σ.H k = some (.row gen esz cs) ∧ o' = .row 0 esz cs' ∧ cs.length = cs'.length ∧ ∀ (j : Nat) (x y : V), cs[j]? = some x → cs'[j]? = some y → VR σ.H r x y) ∨
        (hn k' = true ∧ ∃ esz, o' = .row 0 esz []) ∨ (∃ k es, hp k' = some k ∧ σ.H k = some (.map es) ∧ o' = .map (es.map fun p => (p.1, snap hf 8 p.2)) ∧ es.all (fun p => imV 8 p.1) = true) ∨
      (∃ k left last, hp k' = some k ∧ σ.H k = some (.it left last) ∧ o' = .it left none ∧ left.all (fun p => imV 8 p.1 && imV 8 p.2) = true) ∨
      (∃ k es es', hp k' = some k ∧ σ.H k = some (.map es) ∧ o' = .map es' ∧ es.length = es'.length ∧ ∀ (j : Nat) (p q : V × V), es[j]? = some p → es'[j]? = some q → p.1 = q.1 ∧ imV 8 p.1 = true ∧ VR σ.H r p.2 q.2))
    (h6 : ∀ k', ¬ nK d k' → hpO ((d, s) :: L) k' = hpO L k') (h7 : ∀ k', nK d k' → mxO ((d, s) :: L) ≤ k'.2 → hp k' = none ∧ hn k' = false) (h8 : mxO L ≤ mxO ((d, s) :: L)) :
    Wit σ hf ((d, s) :: L) U (fun k' => if nK d k' then hp k' else pi k') (fun k' => if nK d k' then hn k' else nil k') :=
  ht.consX hok hU h1 h2 h3 (fun r a b c _ => h4 r a b c) h5 h6 h7 h8

theorem mxO_pos : ∀ L : List (Nat × SS), 1 ≤ mxO L
  | [] => Nat.le_refl _
  | (_, .val _) :: r => mxO_pos r
  | (_, .frz _) :: r => mxO_pos r
  | (_, .own ..) :: r => mxO_pos r
  | (_, .box _) :: r => mxO_pos r
  | (_, .mapS _) :: r => mxO_pos r
  | (_, .boxm ..) :: r => mxO_pos r
  | (_, .ownF ..) :: r => mxO_pos r
  | (_, .boxo ..) :: r => mxO_pos r
  | (_, .boxG ..) :: r => mxO_pos r
  | (_, .clo ..) :: r => mxO_pos r
  | (_, .ali _) :: r => mxO_pos r
  | (_, .que ..) :: r => mxO_pos r
  | (_, .itr _) :: r => mxO_pos r
  | (_, .rows _ rs) :: r => by have := mxO_pos r; simp only [mxO]; omega
  | (_, .mapR _ es) :: r => by have := mxO_pos r; simp only [mxO]; omega

theorem pure_get {cs : List V} {r : Ren} (h : cs.all (imV 8) = true) (j : Nat) (x y : V) (hx : cs[j]? = some x) (hy : cs[j]? = some y) : VR σ.H r x y := by
  rw [hx] at hy; cases hy
  exact .pure x 8 (List.all_eq_true.1 h x (List.mem_of_getElem? hx))

theorem wit_of : ∀ (L : List (Nat × SS)) (U : Key → Prop), dOk L = true → entL σ hf L U → ∃ pi nil, Wit σ hf L U pi nil
  | [], U, _, _ => ⟨fun _ => none, fun _ => false, ⟨fun _ _ h => (by cases h), fun _ _ _ h => (by cases h), fun _ h => (by cases h), fun _ _ _ _ p hp => (by cases hp), fun _ _ _ _ _ _ h => (by cases h), fun _ _ _ => ⟨rfl, rfl⟩⟩⟩
  | (d, s) :: L, U, hok, h => by
    obtain ⟨hok', hd, hL⟩ := dOk_cons hok
    have noK : ∀ (k' : Key) o, nK d k' → hpO L k' = some o → False := fun k' o hk ho => nK_apart hd hL (hpO_keys ho) hk
    cases s with
    | val v =>
      obtain ⟨⟨h1, h2⟩, h⟩ := h
      obtain ⟨pi, nil, hw⟩ := wit_of L U hok' h
      exact ⟨_, _, hw.cons (hp := fun _ => none) (hn := fun _ => false) hok (fun _ h => h) (fun _ _ _ h => by cases h) (fun _ _ _ _ _ h => by cases h) (fun _ _ _ => rfl) (fun r _ _ _ => by rw [h1]; exact .pure v 8 h2)
        (fun r _ _ _ k' o' hk ho => (noK k' o' hk ho).elim) (fun _ _ => rfl) (fun _ _ _ => ⟨rfl, rfl⟩) (Nat.le_refl _)⟩
    | frz v =>
      obtain ⟨h1, h⟩ := h
      obtain ⟨pi, nil, hw⟩ := wit_of L U hok' h
      exact ⟨_, _, hw.cons (hp := fun _ => none) (hn := fun _ => false) hok (fun _ h => h) (fun _ _ _ h => by cases h) (fun _ _ _ _ _ h => by cases h) (fun _ _ _ => rfl) (fun r _ _ hr => by rw [SS.v, ← h1, ← hr]; exact .frz _ 8)
        (fun r _ _ _ k' o' hk ho => (noK k' o' hk ho).elim) (fun _ _ => rfl) (fun _ _ _ => ⟨rfl, rfl⟩) (Nat.le_refl _)⟩
    | itr left =>
      simp only [entL, entS] at h
      generalize htm : σ.tm d = X at h
      cases X with
      | mp k g off =>
        simp only [itAt] at h
        split at h
        case h_2 => exact h.elim
        rename_i left' last' hk
        obtain ⟨⟨rfl, rfl, rfl, hall, hU, hP⟩, h⟩ := h
        obtain ⟨pi, nil, hw⟩ := wit_of L _ hok' h
        refine ⟨_, _, hw.cons (hp := fun k' => if k' = (2199023255552 + d, 0) then some k else none) (hn := fun _ => false) hok (fun _ h => .inr h) ?_ ?_ (fun _ _ h => by cases h) ?_ ?_ ?_ ?_ (Nat.le_refl _)⟩
        · intro k' k1 _ h1
          try simp only [] at h1
          split at h1
          · cases h1; exact ⟨hU, hP, .inl rfl⟩
          · cases h1
        · intro k1 k2 k3 _ _ a b
          try simp only [] at a b
          split at a
          · split at b
            · rename_i e1 e2; rw [e1, e2]
            · cases b
          · cases a
        · intro r e1 _ _
          rw [htm]
          exact .mpi _ _ _ _ (by show _ < PK; unfold PK; omega) (e1 _ k (.inl rfl) (by simp)) hk
        · intro r e1 _ _ k' o' hk' ho
          simp only [hpO] at ho
          split at ho
          · rename_i e
            cases ho
            exact .inr (.inr (.inr (.inl ⟨k, _, _, by simp [e], hk, rfl, hall⟩)))
          · exact (noK k' o' hk' ho).elim
        · intro k' hk'
          simp only [hpO]
          rw [if_neg]
          rintro rfl
          exact hk' (.inl rfl)
        · intro k' _ hm
          have := mxO_pos L
          simp only [mxO] at hm
          refine ⟨if_neg ?_, rfl⟩
          rintro rfl
          simp at hm; omega
      | _ => exact h.elim
    | que esz q n cs =>
      simp only [entL, entS] at h
      generalize htm : σ.tm d = X at h
      cases X with
      | msl k g off m =>
        simp only [queAt] at h
        split at h
        case h_2 => exact h.elim
        rename_i g' esz' cs' hk
        obtain ⟨⟨rfl, rfl, rfl, rfl, rfl, rfl, hall, hU, hP⟩, h⟩ := h
        obtain ⟨pi, nil, hw⟩ := wit_of L _ hok' h
        refine ⟨_, _, hw.cons (hp := fun k' => if k' = (2199023255552 + d, 0) then some k else none) (hn := fun _ => false) hok (fun _ h => .inr h) ?_ ?_ (fun _ _ h => by cases h) ?_ ?_ ?_ ?_ (Nat.le_refl _)⟩
        · intro k' k1 _ h1
          try simp only [] at h1
          split at h1
          · cases h1; exact ⟨hU, hP, .inl rfl⟩
          · cases h1
        · intro k1 k2 k3 _ _ a b
          try simp only [] at a b
          split at a
          · split at b
            · rename_i e1 e2; rw [e1, e2]
            · cases b
          · cases a
        · intro r e1 _ _
          rw [htm]
          exact .mslq _ _ _ _ _ _ _ (by show _ < PK; unfold PK; omega) (e1 _ k (.inl rfl) (by simp)) hk
        · intro r e1 _ _ k' o' hk' ho
          simp only [hpO] at ho
          split at ho
          · rename_i e
            cases ho
            exact .inl ⟨k, _, _, _, _, by simp [e], hk, rfl, rfl, pure_get hall⟩
          · exact (noK k' o' hk' ho).elim
        · intro k' hk'
          simp only [hpO]
          rw [if_neg]
          rintro rfl
          exact hk' (.inl rfl)
        · intro k' _ hm
          have := mxO_pos L
          simp only [mxO] at hm
          refine ⟨if_neg ?_, rfl⟩
          rintro rfl
          simp at hm; omega
      | qsl k g e q' m =>
        simp only [queAt] at h
        split at h
        case h_2 => exact h.elim
        rename_i g' esz' cs' hk
        obtain ⟨⟨rfl, rfl, rfl, rfl, rfl, rfl, hall, hU, hP⟩, h⟩ := h
        obtain ⟨pi, nil, hw⟩ := wit_of L _ hok' h
        refine ⟨_, _, hw.cons (hp := fun k' => if k' = (2199023255552 + d, 0) then some k else none) (hn := fun _ => false) hok (fun _ h => .inr h) ?_ ?_ (fun _ _ h => by cases h) ?_ ?_ ?_ ?_ (Nat.le_refl _)⟩
        · intro k' k1 _ h1
          try simp only [] at h1
          split at h1
          · cases h1; exact ⟨hU, hP, .inl rfl⟩
          · cases h1
        · intro k1 k2 k3 _ _ a b
          try simp only [] at a b
          split at a
          · split at b
            · rename_i e1 e2; rw [e1, e2]
            · cases b
          · cases a
        · intro r e1 _ _
          rw [htm]
          exact .qsl _ _ _ _ _ _ _ _ (by show _ < PK; unfold PK; omega) (e1 _ k (.inl rfl) (by simp)) hk
        · intro r e1 _ _ k' o' hk' ho
          simp only [hpO] at ho
          split at ho
          · rename_i e
            cases ho
            exact .inl ⟨k, _, _, _, _, by simp [e], hk, rfl, rfl, pure_get hall⟩
          · exact (noK k' o' hk' ho).elim
        · intro k' hk'
          simp only [hpO]
          rw [if_neg]
          rintro rfl
          exact hk' (.inl rfl)
        · intro k' _ hm
          have := mxO_pos L
          simp only [mxO] at hm
          refine ⟨if_neg ?_, rfl⟩
          rintro rfl
          simp at hm; omega
      | _ => exact h.elim
    | own esz n cs =>
      simp only [entL, entS] at h
      generalize htm : σ.tm d = X at h
      cases X with
      | msl k g off m =>
        simp only [ownAt] at h
        split at h
        case h_2 => exact h.elim
        rename_i g' esz' cs' hk
        obtain ⟨⟨rfl, rfl, rfl, rfl, rfl, hall, hU, hP⟩, h⟩ := h
        obtain ⟨pi, nil, hw⟩ := wit_of L _ hok' h
        refine ⟨_, _, hw.cons (hp := fun k' => if k' = (2199023255552 + d, 0) then some k else none) (hn := fun _ => false) hok (fun _ h => .inr h) ?_ ?_ (fun _ _ h => by cases h) ?_ ?_ ?_ ?_ (Nat.le_refl _)⟩
        · intro k' k1 _ h1
          try simp only [] at h1
          split at h1
          · cases h1; exact ⟨hU, hP, .inl rfl⟩
          · cases h1
        · intro k1 k2 k3 _ _ a b
          try simp only [] at a b
          split at a
          · split at b
            · rename_i e1 e2; rw [e1, e2]
            · cases b
          · cases a
        · intro r e1 _ _
          rw [htm]
          exact .msl _ _ _ _ _ _ _ (by show _ < PK; unfold PK; omega) (e1 _ k (.inl rfl) (by simp)) hk
        · intro r e1 _ _ k' o' hk' ho
          simp only [hpO] at ho
          split at ho
          · rename_i e
            cases ho
            exact .inl ⟨k, _, _, _, _, by simp [e], hk, rfl, rfl, pure_get hall⟩
          · exact (noK k' o' hk' ho).elim
        · intro k' hk'
          simp only [hpO]
          rw [if_neg]
          rintro rfl
          exact hk' (.inl rfl)
        · intro k' _ hm
          have := mxO_pos L
          simp only [mxO] at hm
          refine ⟨if_neg ?_, rfl⟩
          rintro rfl
          simp at hm; omega
      | e0 =>
        obtain ⟨⟨rfl, rfl⟩, h⟩ := h
        obtain ⟨pi, nil, hw⟩ := wit_of L _ hok' h
        refine ⟨_, _, hw.cons (hp := fun _ => none) (hn := fun k' => decide (k' = (2199023255552 + d, 0))) hok (fun _ h => h) (fun _ _ _ h => by cases h) (fun _ _ _ _ _ h => by cases h) (fun _ _ _ => rfl) ?_ ?_ ?_ ?_ (Nat.le_refl _)⟩
        · intro r _ e2 _
          rw [htm]
          exact .nil _ (e2 _ (.inl rfl) (by simp))
        · intro r e1 _ _ k' o' hk' ho
          simp only [hpO] at ho
          split at ho
          · rename_i e
            cases ho
            exact .inr (.inl ⟨by simp [e], _, rfl⟩)
          · exact (noK k' o' hk' ho).elim
        · intro k' hk'
          simp only [hpO]
          rw [if_neg]
          rintro rfl
          exact hk' (.inl rfl)
        · intro k' _ hm
          have := mxO_pos L
          simp only [mxO] at hm
          refine ⟨rfl, ?_⟩
          simp only [decide_eq_false_iff_not]
          rintro rfl
          simp at hm; omega
      | _ => exact h.elim
    | ownF esz n cs =>
      simp only [entL, entS] at h
      generalize htm : σ.tm d = X at h
      cases X with
      | msl k g off m =>
        simp only [ownFAt] at h
        split at h
        case h_2 => exact h.elim
        rename_i g' esz' cs' hk
        obtain ⟨⟨rfl, rfl, rfl, rfl, rfl, hU, hP⟩, h⟩ := h
        obtain ⟨pi, nil, hw⟩ := wit_of L _ hok' h
        refine ⟨_, _, hw.cons (hp := fun k' => if k' = (2199023255552 + d, 0) then some k else none) (hn := fun _ => false) hok (fun _ h => .inr h) ?_ ?_ (fun _ _ h => by cases h) ?_ ?_ ?_ ?_ (Nat.le_refl _)⟩
        · intro k' k1 _ h1
          try simp only [] at h1
          split at h1
          · cases h1; exact ⟨hU, hP, .inl rfl⟩
          · cases h1
        · intro k1 k2 k3 _ _ a b
          try simp only [] at a b
          split at a
          · split at b
            · rename_i e1 e2; rw [e1, e2]
            · cases b
          · cases a
        · intro r e1 _ _
          rw [htm]
          exact .msl _ _ _ _ _ _ _ (by show _ < PK; unfold PK; omega) (e1 _ k (.inl rfl) (by simp)) hk
        · intro r e1 _ hr k' o' hk' ho
          simp only [hpO] at ho
          split at ho
          · rename_i e
            cases ho
            refine .inl ⟨k, _, _, _, _, by simp [e], hk, rfl, by simp, fun j x y hx hy => ?_⟩
            rw [List.getElem?_map, hx] at hy
            cases hy
            rw [← hr]; exact .frz _ 8
          · exact (noK k' o' hk' ho).elim
        · intro k' hk'
          simp only [hpO]
          rw [if_neg]
          rintro rfl
          exact hk' (.inl rfl)
        · intro k' _ hm
          have := mxO_pos L
          simp only [mxO] at hm
          refine ⟨if_neg ?_, rfl⟩
          rintro rfl
          simp at hm; omega
      | e0 =>
        obtain ⟨⟨rfl, rfl⟩, h⟩ := h
        obtain ⟨pi, nil, hw⟩ := wit_of L _ hok' h
        refine ⟨_, _, hw.cons (hp := fun _ => none) (hn := fun k' => decide (k' = (2199023255552 + d, 0))) hok (fun _ h => h) (fun _ _ _ h => by cases h) (fun _ _ _ _ _ h => by cases h) (fun _ _ _ => rfl) ?_ ?_ ?_ ?_ (Nat.le_refl _)⟩
        · intro r _ e2 _
          rw [htm]
          exact .nil _ (e2 _ (.inl rfl) (by simp))
        · intro r e1 _ _ k' o' hk' ho
          simp only [hpO] at ho
          split at ho
          · rename_i e
            cases ho
            exact .inr (.inl ⟨by simp [e], _, rfl⟩)
          · exact (noK k' o' hk' ho).elim
        · intro k' hk'
          simp only [hpO]
          rw [if_neg]
          rintro rfl
          exact hk' (.inl rfl)
        · intro k' _ hm
          have := mxO_pos L
          simp only [mxO] at hm
          refine ⟨rfl, ?_⟩
          simp only [decide_eq_false_iff_not]
          rintro rfl
          simp at hm; omega
      | _ => exact h.elim
    | boxo esz n cs =>
      simp only [entL, entS] at h
      generalize htm : σ.tm d = X at h
      cases X with
      | mp k g off =>
        have hdd : ((4398046511104 + d, 0) : Key) ≠ (2199023255552 + d, 0) := by intro e; injection e with e; omega
        simp only [boxoAt] at h
        split at h
        · rename_i g' esz0 k2 g2 off2 m hk
          split at h
          case h_2 => exact h.elim
          rename_i g2' esz' cs' hk2
          obtain ⟨⟨rfl, rfl, rfl, hU, hP⟩, ⟨rfl, rfl, rfl, rfl, rfl, hall, hU2, hP2⟩, hne, h⟩ := h
          obtain ⟨pi, nil, hw⟩ := wit_of L _ hok' h
          refine ⟨_, _, hw.cons (hp := fun k' => if k' = (2199023255552 + d, 0) then some k else if k' = (4398046511104 + d, 0) then some k2 else none) (hn := fun _ => false) hok (fun _ h => .inr h) ?_ ?_ (fun _ _ h => by cases h) ?_ ?_ ?_ ?_ (Nat.le_refl _)⟩
          · intro k' k1 _ h1
            try simp only [] at h1
            split at h1
            · cases h1; exact ⟨hU, hP, .inl (.inl rfl)⟩
            · split at h1
              · cases h1; exact ⟨hU2, hP2, .inl (.inr rfl)⟩
              · cases h1
          · intro k1 k3 k4 _ _ a b
            try simp only [] at a b
            split at a
            · rename_i e1
              split at b
              · rename_i e2; rw [e1, e2]
              · split at b
                · cases a; cases b; exact (hne rfl).elim
                · cases b
            · split at a
              · rename_i e1
                split at b
                · cases a; cases b; exact (hne rfl).elim
                · split at b
                  · rename_i e2; rw [e1, e2]
                  · cases b
              · cases a
          · intro r e1 _ _
            rw [htm]
            exact .mp _ _ _ _ _ _ (by show _ < PK; unfold PK; omega) (e1 _ k (.inl rfl) (by simp)) hk
          · intro r e1 _ _ k' o' hk' ho
            simp only [hpO] at ho
            split at ho
            · rename_i e
              cases ho
              refine .inl ⟨k, _, _, _, _, by simp [e], hk, rfl, rfl, fun j x y hx hy => ?_⟩
              cases j with
              | zero =>
                simp at hx hy; subst hx hy
                exact .msl _ _ _ _ _ _ _ (by show _ < PK; unfold PK; omega) (e1 _ k2 (.inr rfl) (by rw [if_neg hdd, if_pos rfl])) hk2
              | succ j => simp at hx
            · split at ho
              · rename_i e0 e
                cases ho
                exact .inl ⟨k2, _, _, _, _, by rw [if_neg e0, if_pos e], hk2, rfl, rfl, pure_get hall⟩
              · exact (noK k' o' hk' ho).elim
          · intro k' hk'
            simp only [hpO]
            rw [if_neg, if_neg]
            · rintro rfl; exact hk' (.inr rfl)
            · rintro rfl; exact hk' (.inl rfl)
          · intro k' _ hm
            have := mxO_pos L
            simp only [mxO] at hm
            refine ⟨?_, rfl⟩
            rw [if_neg (by rintro rfl; simp at hm; omega), if_neg (by rintro rfl; simp at hm; omega)]
        · rename_i g' esz0 hk
          obtain ⟨⟨rfl, rfl, rfl, rfl, rfl, hU, hP⟩, h⟩ := h
          obtain ⟨pi, nil, hw⟩ := wit_of L _ hok' h
          refine ⟨_, _, hw.cons (hp := fun k' => if k' = (2199023255552 + d, 0) then some k else none) (hn := fun k' => decide (k' = (4398046511104 + d, 0))) hok (fun _ h => .inr h) ?_ ?_ ?_ ?_ ?_ ?_ ?_ (Nat.le_refl _)⟩
          · intro k' k1 _ h1
            try simp only [] at h1
            split at h1
            · cases h1; exact ⟨hU, hP, .inl rfl⟩
            · cases h1
          · intro k1 k2 k3 _ _ a b
            try simp only [] at a b
            split at a
            · split at b
              · rename_i e1 e2; rw [e1, e2]
              · cases b
            · cases a
          · intro k' _ h1
            have : k' = (4398046511104 + d, 0) := of_decide_eq_true h1
            rw [this, if_neg hdd]
          · intro r e1 _ _
            rw [htm]
            exact .mp _ _ _ _ _ _ (by show _ < PK; unfold PK; omega) (e1 _ k (.inl rfl) (by simp)) hk
          · intro r e1 e2 _ k' o' hk' ho
            simp only [hpO] at ho
            split at ho
            · rename_i e
              cases ho
              refine .inl ⟨k, _, _, _, _, by simp [e], hk, rfl, rfl, fun j x y hx hy => ?_⟩
              cases j with
              | zero =>
                simp at hx hy; subst hx hy
                exact .nil _ (e2 _ (.inr rfl) (by simp))
              | succ j => simp at hx
            · split at ho
              · rename_i e0 e
                cases ho
                exact .inr (.inl ⟨by simp [e], _, rfl⟩)
              · exact (noK k' o' hk' ho).elim
          · intro k' hk'
            simp only [hpO]
            rw [if_neg, if_neg]
            · rintro rfl; exact hk' (.inr rfl)
            · rintro rfl; exact hk' (.inl rfl)
          · intro k' _ hm
            have := mxO_pos L
            simp only [mxO] at hm
            refine ⟨if_neg (by rintro rfl; simp at hm; omega), ?_⟩
            simp only [decide_eq_false_iff_not]
            rintro rfl
            simp at hm; omega
        · exact h.elim
      | _ => exact h.elim
    | boxG pre esz n cs post =>
      simp only [entL, entS] at h
      generalize htm : σ.tm d = X at h
      cases X with
      | mp k g off =>
        have hdd : ((4398046511104 + d, 0) : Key) ≠ (2199023255552 + d, 0) := by intro e; injection e with e; omega
        simp only [boxGAt] at h
        split at h
        case h_2 => exact h.elim
        rename_i g' esz0 cells hk
        split at h
        · rename_i a k2 g2 off2 m b hcut
          split at h
          case h_2 => exact h.elim
          rename_i g2' esz' cs' hk2
          obtain ⟨⟨rfl, rfl, rfl, ha, hb, hU, hP⟩, ⟨rfl, rfl, rfl, rfl, hcs, hU2, hP2⟩, hne, h⟩ := h
          obtain ⟨hcl, hpl⟩ := cutAt_ok _ _ hcut
          obtain ⟨pi, nil, hw⟩ := wit_of L _ hok' h
          refine ⟨_, _, hw.cons (hp := fun k' => if k' = (2199023255552 + d, 0) then some k else if k' = (4398046511104 + d, 0) then some k2 else none) (hn := fun _ => false) hok (fun _ h => .inr h) ?_ ?_ (fun _ _ h => by cases h) ?_ ?_ ?_ ?_ (Nat.le_refl _)⟩
          · intro k' k1 _ h1
            try simp only [] at h1
            split at h1
            · cases h1; exact ⟨hU, hP, .inl (.inl rfl)⟩
            · split at h1
              · cases h1; exact ⟨hU2, hP2, .inl (.inr rfl)⟩
              · cases h1
          · intro k1 k3 k4 _ _ a b
            try simp only [] at a b
            split at a
            · rename_i e1
              split at b
              · rename_i e2; rw [e1, e2]
              · split at b
                · cases a; cases b; exact (hne rfl).elim
                · cases b
            · split at a
              · rename_i e1
                split at b
                · cases a; cases b; exact (hne rfl).elim
                · split at b
                  · rename_i e2; rw [e1, e2]
                  · cases b
              · cases a
          · intro r e1 _ _
            rw [htm]
            exact .mp _ _ _ _ _ _ (by show _ < PK; unfold PK; omega) (e1 _ k (.inl rfl) (by simp)) hk
          · intro r e1 _ e3 k' o' hk' ho
            simp only [hpO] at ho
            split at ho
            · rename_i e
              cases ho
              subst hcl
              refine .inl ⟨k, _, _, _, _, by simp [e], hk, rfl, by rw [← ha, ← hb]; simp, vr_cells e3 ha hb ?_⟩
              exact .msl _ _ _ _ _ _ _ (by show _ < PK; unfold PK; omega) (e1 _ k2 (.inr rfl) (by rw [if_neg hdd, if_pos rfl])) hk2
            · split at ho
              · rename_i e0 e
                cases ho
                refine .inl ⟨k2, _, _, _, _, by rw [if_neg e0, if_pos e], hk2, rfl, by rw [← hcs]; simp, fun j x y hx hy => ?_⟩
                rw [← hcs, List.getElem?_map, hx] at hy
                cases hy
                rw [← e3]
                exact .frz _ 8
              · exact (noK k' o' hk' ho).elim
          · intro k' hk'
            simp only [hpO]
            rw [if_neg, if_neg]
            · rintro rfl; exact hk' (.inr rfl)
            · rintro rfl; exact hk' (.inl rfl)
          · intro k' _ hm
            have := mxO_pos L
            simp only [mxO] at hm
            refine ⟨?_, rfl⟩
            rw [if_neg (by rintro rfl; simp at hm; omega), if_neg (by rintro rfl; simp at hm; omega)]
        · rename_i a b hcut
          obtain ⟨⟨rfl, rfl, rfl, rfl, rfl, ha, hb, hU, hP⟩, h⟩ := h
          obtain ⟨hcl, hpl⟩ := cutAt_ok _ _ hcut
          obtain ⟨pi, nil, hw⟩ := wit_of L _ hok' h
          refine ⟨_, _, hw.cons (hp := fun k' => if k' = (2199023255552 + d, 0) then some k else none) (hn := fun k' => decide (k' = (4398046511104 + d, 0))) hok (fun _ h => .inr h) ?_ ?_ ?_ ?_ ?_ ?_ ?_ (Nat.le_refl _)⟩
          · intro k' k1 _ h1
            try simp only [] at h1
            split at h1
            · cases h1; exact ⟨hU, hP, .inl rfl⟩
            · cases h1
          · intro k1 k2 k3 _ _ a b
            try simp only [] at a b
            split at a
            · split at b
              · rename_i e1 e2; rw [e1, e2]
              · cases b
            · cases a
          · intro k' _ h1
            have : k' = (4398046511104 + d, 0) := of_decide_eq_true h1
            rw [this, if_neg hdd]
          · intro r e1 _ _
            rw [htm]
            exact .mp _ _ _ _ _ _ (by show _ < PK; unfold PK; omega) (e1 _ k (.inl rfl) (by simp)) hk
          · intro r e1 e2 e3 k' o' hk' ho
            simp only [hpO] at ho
            split at ho
            · rename_i e
              cases ho
              subst hcl
              refine .inl ⟨k, _, _, _, _, by simp [e], hk, rfl, by rw [← ha, ← hb]; simp, vr_cells e3 ha hb ?_⟩
              exact .nil _ (e2 _ (.inr rfl) (by simp))
            · split at ho
              · rename_i e0 e
                cases ho
                exact .inr (.inl ⟨by simp [e], _, rfl⟩)
              · exact (noK k' o' hk' ho).elim
          · intro k' hk'
            simp only [hpO]
            rw [if_neg, if_neg]
            · rintro rfl; exact hk' (.inr rfl)
            · rintro rfl; exact hk' (.inl rfl)
          · intro k' _ hm
            have := mxO_pos L
            simp only [mxO] at hm
            refine ⟨if_neg (by rintro rfl; simp at hm; omega), ?_⟩
            simp only [decide_eq_false_iff_not]
            rintro rfl
            simp at hm; omega
        · exact h.elim
      | _ => exact h.elim
    | ali d' =>
      obtain ⟨⟨h1, h2⟩, h⟩ := h
      obtain ⟨pi, nil, hw⟩ := wit_of L U hok' h
      have hbox : ∀ (d' : Nat) (s' : SS), s'.isBox = true → s'.v d' = .mp (2199023255552 + d', 0) 0 0 := by
        intro d' s' hb
        cases s' <;> first | rfl | cases hb
      refine ⟨_, _, hw.consX (hp := fun _ => none) (hn := fun _ => false) hok (fun _ h => h) (fun _ _ _ h => by cases h) (fun _ _ _ _ _ h => by cases h) (fun _ _ _ => rfl) (fun r e1 e2 e3 e4 => ?_)
        (fun r _ _ _ k' o' hk ho => (noK k' o' hk ho).elim) (fun _ _ => rfl) (fun _ _ _ => ⟨rfl, rfl⟩) (Nat.le_refl _)⟩
      rw [h1]
      obtain ⟨q, hq, hq2⟩ := List.any_eq_true.1 h2
      simp only [Bool.and_eq_true, beq_iff_eq] at hq2
      obtain ⟨rfl, hb⟩ := hq2
      have := e4 q hq
      rw [hbox _ _ hb] at this
      exact this
    | clo f ds =>
      obtain ⟨⟨h1, h2⟩, h⟩ := h
      obtain ⟨pi, nil, hw⟩ := wit_of L U hok' h
      have hbox : ∀ (d' : Nat) (s' : SS), s'.isBox = true → s'.v d' = .mp (2199023255552 + d', 0) 0 0 := by
        intro d' s' hb
        cases s' <;> first | rfl | cases hb
      refine ⟨_, _, hw.consX (hp := fun _ => none) (hn := fun _ => false) hok (fun _ h => h) (fun _ _ _ h => by cases h) (fun _ _ _ _ _ h => by cases h) (fun _ _ _ => rfl) (fun r e1 e2 e3 e4 => ?_)
        (fun r _ _ _ k' o' hk ho => (noK k' o' hk ho).elim) (fun _ _ => rfl) (fun _ _ _ => ⟨rfl, rfl⟩) (Nat.le_refl _)⟩
      rw [h1]
      refine .fn f _ _ (by simp) fun j x y hx hy => ?_
      rw [List.getElem?_map, Option.map_eq_some_iff] at hx hy
      obtain ⟨d1, hd1, rfl⟩ := hx
      obtain ⟨d2, hd2, rfl⟩ := hy
      rw [hd1] at hd2; cases hd2
      have := List.all_eq_true.1 h2 d1 (List.mem_of_getElem? hd1)
      obtain ⟨q, hq, hq2⟩ := List.any_eq_true.1 this
      simp only [Bool.and_eq_true, beq_iff_eq] at hq2
      obtain ⟨rfl, hb⟩ := hq2
      have := e4 q hq
      rw [hbox _ _ hb] at this
      exact this
    | box cs =>
      simp only [entL, entS] at h
      generalize htm : σ.tm d = X at h
      cases X with
      | mp k g off =>
        simp only [boxAt] at h
        split at h
        case h_2 => exact h.elim
        rename_i g' esz' cs' hk
        obtain ⟨⟨rfl, rfl, rfl, rfl, hall, hU, hP⟩, h⟩ := h
        obtain ⟨pi, nil, hw⟩ := wit_of L _ hok' h
        refine ⟨_, _, hw.cons (hp := fun k' => if k' = (2199023255552 + d, 0) then some k else none) (hn := fun _ => false) hok (fun _ h => .inr h) ?_ ?_ (fun _ _ h => by cases h) ?_ ?_ ?_ ?_ (Nat.le_refl _)⟩
        · intro k' k1 _ h1
          try simp only [] at h1
          split at h1
          · cases h1; exact ⟨hU, hP, .inl rfl⟩
          · cases h1
        · intro k1 k2 k3 _ _ a b
          try simp only [] at a b
          split at a
          · split at b
            · rename_i e1 e2; rw [e1, e2]
            · cases b
          · cases a
        · intro r e1 _ _
          rw [htm]
          exact .mp _ _ _ _ _ _ (by show _ < PK; unfold PK; omega) (e1 _ k (.inl rfl) (by simp)) hk
        · intro r e1 _ _ k' o' hk' ho
          simp only [hpO] at ho
          split at ho
          · rename_i e
            cases ho
            exact .inl ⟨k, _, _, _, _, by simp [e], hk, rfl, rfl, pure_get hall⟩
          · exact (noK k' o' hk' ho).elim
        · intro k' hk'
          simp only [hpO]
          rw [if_neg]
          rintro rfl
          exact hk' (.inl rfl)
        · intro k' _ hm
          have := mxO_pos L
          simp only [mxO] at hm
          refine ⟨if_neg ?_, rfl⟩
          rintro rfl
          simp at hm; omega
      | _ => exact h.elim
    | mapS es =>
      simp only [entL, entS] at h
      generalize htm : σ.tm d = X at h
      cases X with
      | mm k =>
        simp only [mapAt] at h
        split at h
        case h_2 => exact h.elim
        rename_i es' hk
        obtain ⟨⟨rfl, hall, hU, hP⟩, h⟩ := h
        obtain ⟨pi, nil, hw⟩ := wit_of L _ hok' h
        refine ⟨_, _, hw.cons (hp := fun k' => if k' = (2199023255552 + d, 0) then some k else none) (hn := fun _ => false) hok (fun _ h => .inr h) ?_ ?_ (fun _ _ h => by cases h) ?_ ?_ ?_ ?_ (Nat.le_refl _)⟩
        · intro k' k1 _ h1
          try simp only [] at h1
          split at h1
          · cases h1; exact ⟨hU, hP, .inl rfl⟩
          · cases h1
        · intro k1 k2 k3 _ _ a b
          try simp only [] at a b
          split at a
          · split at b
            · rename_i e1 e2; rw [e1, e2]
            · cases b
          · cases a
        · intro r e1 _ _
          rw [htm]
          exact .mm _ _ _ (by show _ < PK; unfold PK; omega) (e1 _ k (.inl rfl) (by simp)) hk
        · intro r e1 _ _ k' o' hk' ho
          simp only [hpO] at ho
          split at ho
          · rename_i e
            cases ho
            exact .inr (.inr (.inl ⟨k, _, by simp [e], hk, rfl, hall⟩))
          · exact (noK k' o' hk' ho).elim
        · intro k' hk'
          simp only [hpO]
          rw [if_neg]
          rintro rfl
          exact hk' (.inl rfl)
        · intro k' _ hm
          have := mxO_pos L
          simp only [mxO] at hm
          refine ⟨if_neg ?_, rfl⟩
          rintro rfl
          simp at hm; omega
      | _ => exact h.elim
    | boxm cs es =>
      simp only [entL, entS] at h
      generalize htm : σ.tm d = X at h
      cases X with
      | mp k g off =>
        simp only [boxmAt] at h
        split at h
        case h_2 => exact h.elim
        rename_i g' esz' cs' hk
        split at h
        case h_2 => exact h.elim
        rename_i k2 hlast
        split at h
        case h_2 => exact h.elim
        rename_i es' hk2
        obtain ⟨⟨rfl, rfl, rfl, hlen, htake, hall, hU, hP⟩, ⟨rfl, hall2, hU2, hP2⟩, h⟩ := h
        obtain ⟨pi, nil, hw⟩ := wit_of L _ hok' h
        have hne : k ≠ k2 := by rintro rfl; rw [hk] at hk2; cases hk2
        have hdd : ((4398046511104 + d, 0) : Key) ≠ (2199023255552 + d, 0) := by intro e; injection e with e; omega
        refine ⟨_, _, hw.cons (hp := fun k' => if k' = (2199023255552 + d, 0) then some k else if k' = (4398046511104 + d, 0) then some k2 else none) (hn := fun _ => false) hok (fun _ h => .inr h) ?_ ?_ (fun _ _ h => by cases h) ?_ ?_ ?_ ?_ (Nat.le_refl _)⟩
        · intro k' k1 _ h1
          try simp only [] at h1
          split at h1
          · cases h1; exact ⟨hU, hP, .inl (.inl rfl)⟩
          · split at h1
            · cases h1; exact ⟨hU2, hP2, .inl (.inr rfl)⟩
            · cases h1
        · intro k1 k3 k4 _ _ a b
          try simp only [] at a b
          split at a
          · rename_i e1
            split at b
            · rename_i e2; rw [e1, e2]
            · split at b
              · cases a; cases b; exact (hne rfl).elim
              · cases b
          · split at a
            · rename_i e1
              split at b
              · cases a; cases b; exact (hne rfl).elim
              · split at b
                · rename_i e2; rw [e1, e2]
                · cases b
            · cases a
        · intro r e1 _ _
          rw [htm]
          exact .mp _ _ _ _ _ _ (by show _ < PK; unfold PK; omega) (e1 _ k (.inl rfl) (by simp)) hk
        · intro r e1 _ _ k' o' hk' ho
          simp only [hpO] at ho
          split at ho
          · rename_i e
            cases ho
            refine .inl ⟨k, _, _, _, _, by simp [e], hk, rfl, by simp [hlen], fun j x y hx hy => ?_⟩
            rcases Nat.lt_trichotomy j cs.length with hj | hj | hj
            · rw [List.getElem?_append_left hj] at hy
              have hx' : cs[j]? = some x := by rw [← htake, List.getElem?_take, if_pos hj]; exact hx
              exact pure_get hall j x y hx' hy
            · subst hj
              rw [hlast] at hx; cases hx
              rw [List.getElem?_append_right (Nat.le_refl _), Nat.sub_self] at hy
              simp at hy
              subst hy
              exact .mm _ _ _ (by show _ < PK; unfold PK; omega) (e1 _ k2 (.inr rfl) (by rw [if_neg hdd, if_pos rfl])) hk2
            · rw [List.getElem?_eq_none (by omega)] at hx; cases hx
          · split at ho
            · rename_i e0 e
              cases ho
              exact .inr (.inr (.inl ⟨k2, _, by rw [if_neg e0, if_pos e], hk2, rfl, hall2⟩))
            · exact (noK k' o' hk' ho).elim
        · intro k' hk'
          simp only [hpO]
          rw [if_neg, if_neg]
          · rintro rfl; exact hk' (.inr rfl)
          · rintro rfl; exact hk' (.inl rfl)
        · intro k' _ hm
          have := mxO_pos L
          simp only [mxO] at hm
          refine ⟨?_, rfl⟩
          rw [if_neg (by rintro rfl; simp at hm; omega), if_neg (by rintro rfl; simp at hm; omega)]
      | _ => exact h.elim
    | mapR esz es =>
      simp only [entL, entS] at h
      generalize htm : σ.tm d = X at h
      cases X with
      | mm k =>
        simp only [mapRAt] at h
        split at h
        case h_2 => exact h.elim
        rename_i es' hk
        obtain ⟨⟨hlen, hky, hU, hP⟩, κ, hrow, hinj, hout, h⟩ := h
        obtain ⟨pi, nil, hw⟩ := wit_of L _ hok' h
        have hκ : ∀ i k', κ i = some k' → ¬ (k' = k ∨ U k') ∧ k'.1 < PK ∧ i < es.length := by
          intro i k' hi
          have hlt : i < es.length := by
            rcases Nat.lt_or_ge i es.length with h | h
            · exact h
            · rw [hout i h] at hi; cases hi
          have hr := hrow i _ (List.getElem?_eq_getElem hlt)
          revert hr
          cases (es'[i]?.map (·.2)) with
          | none => exact fun h => h.elim
          | some c =>
            cases c with
            | msl k1 g1 o1 m1 =>
              rintro ⟨cs, _, _, _, _, _, a1, a2, a3⟩
              rw [a3] at hi; cases hi
              exact ⟨a1, a2, hlt⟩
            | e0 =>
              rintro ⟨_, _, a3⟩
              rw [a3] at hi; cases hi
            | _ => exact fun h => h.elim
        refine ⟨_, _, hw.cons (hp := fun k' => if k' = (2199023255552 + d, 0) then some k else if k'.1 = 4398046511104 + d then κ k'.2 else none)
          (hn := fun k' => decide (k'.1 = 4398046511104 + d) && (decide (k'.2 < es.length) && (κ k'.2).isNone)) hok (fun _ h => .inr h) ?_ ?_ ?_ ?_ ?_ ?_ ?_ (by simp only [mxO]; omega)⟩
        · intro k' k1 _ h1
          try simp only [] at h1
          split at h1
          · cases h1; exact ⟨hU, hP, .inl (.inl rfl)⟩
          · split at h1
            · obtain ⟨a1, a2, _⟩ := hκ _ _ h1
              exact ⟨fun hu => a1 (.inr hu), a2, .inl (.inr ⟨_, h1⟩)⟩
            · cases h1
        · intro k1 k2 k3 _ _ a b
          try simp only [] at a b
          split at a
          · rename_i e1
            split at b
            · rename_i e2; rw [e1, e2]
            · split at b
              · cases a; exact ((hκ _ _ b).1 (.inl rfl)).elim
              · cases b
          · split at a
            · rename_i e1
              split at b
              · cases b; exact ((hκ _ _ a).1 (.inl rfl)).elim
              · split at b
                · rename_i e2
                  have := hinj _ _ _ a b
                  exact Prod.ext (e1.trans e2.symm) this
                · cases b
            · cases a
        · intro k' _ h1
          simp only [Bool.and_eq_true, decide_eq_true_eq, Option.isNone_iff_eq_none] at h1
          obtain ⟨a1, a2, a3⟩ := h1
          rw [if_neg (by rintro rfl; try simp only [] at a1; omega), if_pos a1]; exact a3
        · intro r e1 _ _
          rw [htm]
          exact .mm _ _ _ (by show _ < PK; unfold PK; omega) (e1 _ k (.inl rfl) (by simp)) hk
        · intro r e1 e2 _ k' o' hk' ho
          simp only [hpO] at ho
          split at ho
          · rename_i e
            cases ho
            refine .inr (.inr (.inr (.inr ⟨k, _, _, by simp [e], hk, rfl, by rw [mapV_len]; exact hlen, fun j x y hx hy => ?_⟩)))
            obtain ⟨rj, a1, rfl⟩ := mapV_get d es 0 j y hy
            have hr := hrow j rj a1
            rw [hx] at hr
            obtain ⟨c1, c2⟩ := hky j x rj hx a1
            refine ⟨c1, c2, ?_⟩
            simp only [Option.map_some] at hr
            rw [Nat.zero_add]
            generalize x.2 = y at hr
            cases y with
            | msl k1 g1 o1 m1 =>
              obtain ⟨cs, b1, rfl, rfl, _, _, _, _, b3⟩ := hr
              exact .msl _ _ _ _ _ _ _ (by show _ < PK; unfold PK; omega) (e1 _ k1 (.inr rfl) (by
                rw [if_neg (by intro e; injection e with e; omega), if_pos rfl]; exact b3)) b1
            | e0 =>
              obtain ⟨b1, b2, b3⟩ := hr
              rw [b1]
              have hlt := (List.getElem?_eq_some_iff.1 a1).1
              exact .nil _ (e2 _ (.inr rfl) (by simp [b3, hlt]))
            | _ => exact hr.elim
          · split at ho
            · rename_i e0 e
              rw [Option.map_eq_some_iff] at ho
              obtain ⟨rj, a1, rfl⟩ := ho
              have hr := hrow _ rj a1
              revert hr
              cases (es'[k'.2]?.map (·.2)) with
              | none => exact fun h => h.elim
              | some c =>
                cases c with
                | msl k1 g1 o1 m1 =>
                  rintro ⟨cs, b1, _, _, rfl, b2, _, _, b3⟩
                  exact .inl ⟨k1, _, _, _, _, by rw [if_neg e0, if_pos e]; exact b3, b1, rfl, rfl, pure_get b2⟩
                | e0 =>
                  rintro ⟨b1, b2, b3⟩
                  have hlt := (List.getElem?_eq_some_iff.1 a1).1
                  exact .inr (.inl ⟨by simp [e, b3, hlt], _, by rw [b2]⟩)
                | _ => exact fun h => h.elim
            · exact (noK k' o' hk' ho).elim
        · intro k' hk'
          simp only [hpO]
          rw [if_neg, if_neg]
          · intro e; exact hk' (.inr e)
          · rintro rfl
            exact hk' (.inl rfl)
        · intro k' _ hm
          have := mxO_pos L
          simp only [mxO] at hm
          have hge : es.length ≤ k'.2 := by omega
          refine ⟨?_, ?_⟩
          · rw [if_neg (by rintro rfl; simp at hm; omega)]
            split
            · exact hout _ hge
            · rfl
          · simp only [show ¬ k'.2 < es.length by omega, decide_false, Bool.false_and, Bool.and_false]
      | _ => exact h.elim
    | rows esz rs =>
      simp only [entL, entS] at h
      generalize htm : σ.tm d = X at h
      cases X with
      | msl k g off m =>
        simp only [rowsAt] at h
        split at h
        case h_2 => exact h.elim
        rename_i g' esz' cells hk
        obtain ⟨⟨rfl, rfl, rfl, rfl, hlen, hU, hP⟩, κ, hrow, hinj, hout, h⟩ := h
        obtain ⟨pi, nil, hw⟩ := wit_of L _ hok' h
        have hκ : ∀ i k', κ i = some k' → ¬ (k' = k ∨ U k') ∧ k'.1 < PK ∧ i < rs.length := by
          intro i k' hi
          have hlt : i < rs.length := by
            rcases Nat.lt_or_ge i rs.length with h | h
            · exact h
            · rw [hout i h] at hi; cases hi
          have hr := hrow i _ (List.getElem?_eq_getElem hlt)
          revert hr
          cases cells[i]? with
          | none => exact fun h => h.elim
          | some c =>
            cases c with
            | msl k1 g1 o1 m1 =>
              rintro ⟨cs, _, _, _, _, _, a1, a2, a3⟩
              rw [a3] at hi; cases hi
              exact ⟨a1, a2, hlt⟩
            | e0 =>
              rintro ⟨_, _, a3⟩
              rw [a3] at hi; cases hi
            | _ => exact fun h => h.elim
        refine ⟨_, _, hw.cons (hp := fun k' => if k' = (2199023255552 + d, 0) then some k else if k'.1 = 4398046511104 + d then κ k'.2 else none)
          (hn := fun k' => decide (k'.1 = 4398046511104 + d) && (decide (k'.2 < rs.length) && (κ k'.2).isNone)) hok (fun _ h => .inr h) ?_ ?_ ?_ ?_ ?_ ?_ ?_ (by simp only [mxO]; omega)⟩
        · intro k' k1 _ h1
          try simp only [] at h1
          split at h1
          · cases h1; exact ⟨hU, hP, .inl (.inl rfl)⟩
          · split at h1
            · obtain ⟨a1, a2, _⟩ := hκ _ _ h1
              exact ⟨fun hu => a1 (.inr hu), a2, .inl (.inr ⟨_, h1⟩)⟩
            · cases h1
        · intro k1 k2 k3 _ _ a b
          try simp only [] at a b
          split at a
          · rename_i e1
            split at b
            · rename_i e2; rw [e1, e2]
            · split at b
              · cases a; exact ((hκ _ _ b).1 (.inl rfl)).elim
              · cases b
          · split at a
            · rename_i e1
              split at b
              · cases b; exact ((hκ _ _ a).1 (.inl rfl)).elim
              · split at b
                · rename_i e2
                  have := hinj _ _ _ a b
                  exact Prod.ext (e1.trans e2.symm) this
                · cases b
            · cases a
        · intro k' _ h1
          simp only [Bool.and_eq_true, decide_eq_true_eq, Option.isNone_iff_eq_none] at h1
          obtain ⟨a1, a2, a3⟩ := h1
          rw [if_neg (by rintro rfl; try simp only [] at a1; omega), if_pos a1]; exact a3
        · intro r e1 _ _
          rw [htm]
          exact .msl _ _ _ _ _ _ _ (by show _ < PK; unfold PK; omega) (e1 _ k (.inl rfl) (by simp)) hk
        · intro r e1 e2 _ k' o' hk' ho
          simp only [hpO] at ho
          split at ho
          · rename_i e
            cases ho
            refine .inl ⟨k, _, _, _, _, by simp [e], hk, rfl, by rw [rowV_len]; exact hlen, fun j x y hx hy => ?_⟩
            obtain ⟨rj, a1, rfl⟩ := rowV_get d rs 0 j y hy
            have hr := hrow j rj a1
            rw [hx] at hr
            rw [Nat.zero_add]
            cases x with
            | msl k1 g1 o1 m1 =>
              obtain ⟨cs, b1, rfl, rfl, _, _, _, _, b3⟩ := hr
              exact .msl _ _ _ _ _ _ _ (by show _ < PK; unfold PK; omega) (e1 _ k1 (.inr rfl) (by
                rw [if_neg (by intro e; injection e with e; omega), if_pos rfl]; exact b3)) b1
            | e0 =>
              obtain ⟨b1, b2, b3⟩ := hr
              rw [b1]
              have hlt := (List.getElem?_eq_some_iff.1 a1).1
              exact .nil _ (e2 _ (.inr rfl) (by simp [b3, hlt]))
            | _ => exact hr.elim
          · split at ho
            · rename_i e0 e
              rw [Option.map_eq_some_iff] at ho
              obtain ⟨rj, a1, rfl⟩ := ho
              have hr := hrow _ rj a1
              revert hr
              cases cells[k'.2]? with
              | none => exact fun h => h.elim
              | some c =>
                cases c with
                | msl k1 g1 o1 m1 =>
                  rintro ⟨cs, b1, _, _, rfl, b2, _, _, b3⟩
                  exact .inl ⟨k1, _, _, _, _, by rw [if_neg e0, if_pos e]; exact b3, b1, rfl, rfl, pure_get b2⟩
                | e0 =>
                  rintro ⟨b1, b2, b3⟩
                  have hlt := (List.getElem?_eq_some_iff.1 a1).1
                  exact .inr (.inl ⟨by simp [e, b3, hlt], _, by rw [b2]⟩)
                | _ => exact fun h => h.elim
            · exact (noK k' o' hk' ho).elim
        · intro k' hk'
          simp only [hpO]
          rw [if_neg, if_neg]
          · intro e; exact hk' (.inr e)
          · rintro rfl
            exact hk' (.inl rfl)
        · intro k' _ hm
          have := mxO_pos L
          simp only [mxO] at hm
          have hge : rs.length ≤ k'.2 := by omega
          refine ⟨?_, ?_⟩
          · rw [if_neg (by rintro rfl; simp at hm; omega)]
            split
            · exact hout _ hge
            · rfl
          · simp only [show ¬ k'.2 < rs.length by omega, decide_false, Bool.false_and, Bool.and_false]
      | e0 =>
        obtain ⟨rfl, h⟩ := h
        obtain ⟨pi, nil, hw⟩ := wit_of L _ hok' h
        refine ⟨_, _, hw.cons (hp := fun _ => none) (hn := fun k' => decide (k' = (2199023255552 + d, 0))) hok (fun _ h => h) (fun _ _ _ h => by cases h) (fun _ _ _ _ _ h => by cases h) (fun _ _ _ => rfl) ?_ ?_ ?_ ?_ (by simp only [mxO]; omega)⟩
        · intro r _ e2 _
          rw [htm]
          exact .nil _ (e2 _ (.inl rfl) (by simp))
        · intro r e1 _ _ k' o' hk' ho
          simp only [hpO] at ho
          split at ho
          · rename_i e
            cases ho
            exact .inr (.inl ⟨by simp [e], _, rfl⟩)
          · split at ho
            · simp at ho
            · exact (noK k' o' hk' ho).elim
        · intro k' hk'
          simp only [hpO]
          rw [if_neg, if_neg]
          · intro e; exact hk' (.inr e)
          · rintro rfl
            exact hk' (.inl rfl)
        · intro k' _ hm
          have := mxO_pos L
          simp only [mxO] at hm
          refine ⟨rfl, ?_⟩
          simp only [decide_eq_false_iff_not]
          rintro rfl
          simp at hm; omega
      | _ => exact h.elim

def hfz (H : Heap) (fl : List Key) : Heap := fun k => if k ∈ fl then H k else none

theorem slO_get : ∀ {L : List (Nat × SS)} {t : Nat}, (∃ p ∈ L, p.1 = t ∧ slO L t = p.2.v p.1) ∨ slO L t = .junk
  | [], _ => .inr rfl
  | (d, s) :: r, t => by
    simp only [slO]
    split
    · rename_i e; exact .inl ⟨_, List.mem_cons_self .., e.symm, rfl⟩
    · rcases slO_get (L := r) (t := t) with ⟨p, h1, h2, h3⟩ | h
      · exact .inl ⟨p, List.mem_cons_of_mem _ h1, h2, h3⟩
      · exact .inr h

/-- A state is one that is told slot by slot. -/
theorem ent_of (L : List (Nat × SS)) (fl : List Key) (hok : dOk L = true) (hfl : fl.all (fun k => decide (k.1 < PK)) = true) (h : entL σ (hfz σ.H fl) L (fun k => k ∈ fl)) : Ent σ (stO L σ.cnt) := by
  obtain ⟨pi, nil, hw⟩ := wit_of L _ hok h
  refine Ent.ren (r := ⟨pi, nil, hfz σ.H fl⟩) ⟨?_, ?_, hw.finj, ?_, ?_, ?_, ?_, ?_⟩
  · intro k o hk
    simp only [hfz] at hk
    split at hk
    · rename_i hm; exact ⟨hk, by simpa using List.all_eq_true.1 hfl k hm⟩
    · cases hk
  · intro k' k hk
    obtain ⟨a1, a2, p, hp, a3⟩ := hw.fpi k' k hk
    have hlt : k'.1 < PK := by
      have : ∀ p ∈ L, p.1 < 1099511627776 := by
        intro p hp
        simp only [dOk, Bool.and_eq_true, List.all_eq_true, List.mem_map, forall_exists_index, and_imp, forall_apply_eq_imp_iff₂, decide_eq_true_eq] at hok
        exact hok.2 p hp
      have := this p hp
      unfold nK at a3; unfold PK; omega
    refine ⟨?_, fun h => by omega, fun _ => a2⟩
    simp only [hfz]; rw [if_neg a1]
  · intro k' hk
    obtain ⟨a1, p, hp, a3⟩ := hw.fnil k' hk
    refine ⟨a1, ?_⟩
    have : ∀ p ∈ L, p.1 < 1099511627776 := by
      intro p hp
      simp only [dOk, Bool.and_eq_true, List.all_eq_true, List.mem_map, forall_exists_index, and_imp, forall_apply_eq_imp_iff₂, decide_eq_true_eq] at hok
      exact hok.2 p hp
    have := this p hp
    unfold nK at a3; unfold PK; omega
  · intro t
    rcases slO_get (L := L) (t := t) with ⟨p, h1, h2, h3⟩ | h3
    · simp only [stO, h3]
      rw [← h2]
      exact hw.ftm _ (fun _ _ h => h) (fun _ h => h) rfl p h1
    · simp only [stO, h3]; exact .junk _
  · intro k' o' ho
    rcases hw.fH ⟨pi, nil, hfz σ.H fl⟩ (fun _ _ h => h) (fun _ h => h) rfl k' o' ho with ⟨k, gen, esz, cs, cs', a1, a2, a3, a4⟩ | h | ⟨k, es, a1, a2, a3, a4⟩ | ⟨k, left, last, a1, a2, a3, a4⟩ | ⟨k, es, es', a1, a2, a3, a4, a5⟩
    · left
      have hlt : ¬ PK ≤ k'.1 := by
        obtain ⟨_, _, p, hp, a5⟩ := hw.fpi k' k a1
        have : ∀ p ∈ L, p.1 < 1099511627776 := by
          intro p hp
          simp only [dOk, Bool.and_eq_true, List.all_eq_true, List.mem_map, forall_exists_index, and_imp, forall_apply_eq_imp_iff₂, decide_eq_true_eq] at hok
          exact hok.2 p hp
        have := this p hp
        unfold nK at a5; unfold PK; omega
      exact ⟨k, gen, esz, cs, cs', a1, a2, by rw [if_neg hlt]; exact a3, a4⟩
    · exact .inr (.inl h)
    · right; right; left
      have hlt : k'.1 < PK := by
        obtain ⟨_, _, p, hp, a5⟩ := hw.fpi k' k a1
        have : ∀ p ∈ L, p.1 < 1099511627776 := by
          intro p hp
          simp only [dOk, Bool.and_eq_true, List.all_eq_true, List.mem_map, forall_exists_index, and_imp, forall_apply_eq_imp_iff₂, decide_eq_true_eq] at hok
          exact hok.2 p hp
        have := this p hp
        unfold nK at a5; unfold PK; omega
      refine ⟨k, es, _, hlt, a1, a2, a3, by simp, fun j p q hp hq => ?_⟩
      rw [List.getElem?_map, hp] at hq; cases hq
      have := List.all_eq_true.1 a4 p (List.mem_of_getElem? hp)
      exact ⟨.pure _ 8 this, .frz _ 8⟩
    · right; right; right
      have hlt : k'.1 < PK := by
        obtain ⟨_, _, p, hp, a5⟩ := hw.fpi k' k a1
        have : ∀ p ∈ L, p.1 < 1099511627776 := by
          intro p hp
          simp only [dOk, Bool.and_eq_true, List.all_eq_true, List.mem_map, forall_exists_index, and_imp, forall_apply_eq_imp_iff₂, decide_eq_true_eq] at hok
          exact hok.2 p hp
        have := this p hp
        unfold nK at a5; unfold PK; omega
      exact ⟨k, left, last, hlt, a1, a2, a3, fun p hp => by simpa using List.all_eq_true.1 a4 p hp⟩
    · right; right; left
      have hlt : k'.1 < PK := by
        obtain ⟨_, _, p, hp, a6⟩ := hw.fpi k' k a1
        have : ∀ p ∈ L, p.1 < 1099511627776 := by
          intro p hp
          simp only [dOk, Bool.and_eq_true, List.all_eq_true, List.mem_map, forall_exists_index, and_imp, forall_apply_eq_imp_iff₂, decide_eq_true_eq] at hok
          exact hok.2 p hp
        have := this p hp
        unfold nK at a6; unfold PK; omega
      refine ⟨k, es, es', hlt, a1, a2, a3, a4, fun j p q hp hq => ?_⟩
      obtain ⟨b1, b2, b3⟩ := a5 j p q hp hq
      exact ⟨by rw [← b1]; exact .pure _ 8 b2, b3⟩
  · intro s n hn
    simp only [stO, cnO] at hn
    have hlt : ∀ p ∈ L, p.1 < 1099511627776 := by
      intro p hp
      simp only [dOk, Bool.and_eq_true, List.all_eq_true, List.mem_map, forall_exists_index, and_imp, forall_apply_eq_imp_iff₂, decide_eq_true_eq] at hok
      exact hok.2 p hp
    by_cases hs : 2199023255552 ≤ s ∧ s < PK
    · rw [if_neg (by omega), if_pos hs.2] at hn
      exact hw.fcnt s n hn
    · have off : ∀ p ∈ L, ¬ nK p.1 (s, n) := by
        intro p hp hk
        have := hlt p hp
        unfold nK at hk; unfold PK at hs; try simp only [] at hk; omega
      refine ⟨?_, ?_⟩
      · cases hh : pi (s, n) with
        | none => exact hh
        | some k => obtain ⟨_, _, p, hp, hk⟩ := hw.fpi _ k hh; exact (off p hp hk).elim
      · cases hh : nil (s, n) with
        | false => exact hh
        | true => obtain ⟨_, p, hp, hk⟩ := hw.fnil _ hh; exact (off p hp hk).elim
  · intro s hs
    simp only [stO, cnO]
    rw [if_neg (by unfold PK at hs; omega), if_neg (by omega)]
    exact Nat.le_refl _

end

theorem rowV_at (d : Nat) : ∀ (rs : List (Nat × List V)) (i j : Nat) (h : j < rs.length), (rowV d i rs)[j]? = some (.msl (4398046511104 + d, i + j) 0 0 rs[j].1)
  | r :: rs, i, 0, _ => rfl
  | r :: rs, i, j + 1, h => by
    simp only [rowV, List.getElem?_cons_succ]
    rw [rowV_at d rs (i + 1) j (by simpa using h), show i + 1 + j = i + (j + 1) by omega]; rfl
theorem rowV_ld {d j : Nat} {rs : List (Nat × List V)} (h : j < rs.length) : ldV false 1 (rowV d 0 rs) j = some (.msl (4398046511104 + d, j) 0 0 rs[j].1) := by
  have := rowV_at d rs 0 j h
  rw [Nat.zero_add] at this
  simpa [ldV] using this

/-- An object told by fewer of its cells. -/
theorem Ent.cut {σ : St} {key : Key} {g esz : Nat} {cs : List V} (k : Nat) (h : σ.H key = some (.row g esz cs)) : Ent σ ⟨σ.tm, hupd σ.H key (.row g esz (cs.take k)), σ.cnt⟩ := by
  rintro E a w ⟨gh, hs⟩
  refine ⟨gh, ⟨hs.below, hs.sizeB, hs.size, hs.defers, hs.tm, hs.immlt, hs.imm0, hs.immB, ?_, ?_, ?_, hs.ref0⟩⟩
  · intro k' o ho
    simp only [hupd] at ho
    split at ho
    · rename_i e; subst e; cases ho
      obtain ⟨blk, cap, r1, r2, r3⟩ := hs.obj _ _ h
      refine ⟨blk, cap, r1, r2, ?_⟩
      cases blk with
      | none => exact ⟨by rw [r3.1]; simp, r3.2⟩
      | some b =>
        obtain ⟨q1, q2, q3, us, T, fz, t1, t2, t3, t4, t5⟩ := r3
        refine ⟨q1, q2, q3, us, T, fz, t1, t2, by rw [List.length_take]; omega, t4, fun j u c hu hc => ?_⟩
        rw [List.getElem?_take] at hc
        split at hc
        · exact t5 j u c hu hc
        · cases hc
    · exact hs.obj _ _ ho
  · intro k1 k2 o1 o2 b h1 h2 hb1 hb2
    have old : ∀ (k' : Key) (o : LObj), hupd σ.H key (.row g esz (cs.take k)) k' = some o → ∃ o', σ.H k' = some o' ∧ blkOf gh k' o' = blkOf gh k' o := by
      intro k' o ho
      simp only [hupd] at ho
      split at ho
      · rename_i e; subst e; cases ho
        exact ⟨_, h, rfl⟩
      · exact ⟨o, ho, rfl⟩
    obtain ⟨o1', a1, a2⟩ := old k1 o1 h1
    obtain ⟨o2', b1, b2⟩ := old k2 o2 h2
    exact hs.apart k1 k2 o1' o2' b a1 b1 (by rw [a2]; exact hb1) (by rw [b2]; exact hb2)
  · intro s n hn
    have hf := hs.fresh s n hn
    refine ⟨?_, hf.2⟩
    simp only [hupd]
    rw [if_neg]
    · exact hf.1
    · rintro rfl; rw [hf.1] at h; cases h

end Go.Lg

set_option linter.unusedSimpArgs false
set_option linter.unusedVariables false
namespace Go.Lg
open Go Go.RowKit

theorem VC0 : type_of% @Go.Lg.vcg_skip ∧
  type_of% @Go.Lg.vcg_reg ∧
  type_of% @Go.Lg.vcg_rego ∧
  type_of% @Go.Lg.vcg_seq ∧
  type_of% @Go.Lg.vcg_cond ∧
  type_of% @Go.Lg.vcg_block ∧
  type_of% @Go.Lg.vcg_loop ∧
  type_of% @Go.Lg.vcg_exit ∧
  type_of% @Go.Lg.vcg_ret ∧
  type_of% @Go.Lg.vcg_bad ∧
  type_of% @Go.Lg.vcg_keep ∧
  type_of% @Go.Lg.St.keep.eq_1 ∧
  type_of% @Go.Lg.keepL.eq_1 ∧
  type_of% @Go.Lg.keepL.eq_2 ∧
  type_of% @Go.Lg.vops_nil ∧
  type_of% @Go.Lg.vops_cons ∧
  type_of% @Go.Lg.vopsM_nil ∧
  type_of% @Go.Lg.vopsM_cons ∧
  type_of% @Go.Lg.thenQ_normal ∧
  type_of% @Go.Lg.thenQ_exit ∧
  type_of% @Go.Lg.thenQ_ret ∧
  type_of% @Go.Lg.blockQ_normal ∧
  type_of% @Go.Lg.blockQ_exit ∧
  type_of% @Go.Lg.blockQ_ret ∧
  type_of% @Go.Lg.retK_normal ∧
  type_of% @Go.Lg.retK_ret ∧
  type_of% @Go.Lg.some_ex ∧
  type_of% @Go.Lg.vstep_none ∧
  type_of% @Go.Lg.vstep_some ∧
  type_of% @Go.Lg.vguard_bool ∧
  type_of% @Go.Lg.vguard_skip ∧
  type_of% @Go.Lg.vguardM_skip ∧
  type_of% @Go.Lg.gdV_true ∧
  type_of% @Go.Lg.gdV_false ∧
  type_of% @Go.Lg.vstepM_none ∧
  type_of% @Go.Lg.vstepM_some ∧
  type_of% @Go.Lg.vguardM_bool ∧
  type_of% @Go.Lg.gdVM_true ∧
  type_of% @Go.Lg.gdVM_false ∧
  type_of% @Go.Lg.vresM_A ∧
  type_of% @Go.Lg.vresM_C ∧
  type_of% @Go.Lg.vresM_D ∧
  type_of% @Go.Lg.vresM_call ∧
  type_of% @Go.Lg.vresM_bad ∧
  type_of% @Go.Lg.vres_A ∧
  type_of% @Go.Lg.vres_C ∧
  type_of% @Go.Lg.vres_D ∧
  type_of% @Go.Lg.vres_call ∧
  type_of% @Go.Lg.vres_bad ∧
  type_of% @Go.Lg.condV_true ∧
  type_of% @Go.Lg.condV_false ∧
  type_of% @Go.Lg.ofOpt_some ∧
  type_of% @Go.Lg.lop.eq_1 ∧
  type_of% @Go.Lg.lop.eq_2 ∧
  type_of% @Go.Lg.lop.eq_3 ∧
  type_of% @Go.Lg.lop.eq_4 ∧
  type_of% @Go.Lg.lop.eq_5 ∧
  type_of% @Go.Lg.lop.eq_6 ∧
  type_of% @Go.Lg.lop.eq_7 ∧
  type_of% @Go.Lg.lop.eq_8 :=
  ⟨@Go.Lg.vcg_skip, @Go.Lg.vcg_reg, @Go.Lg.vcg_rego, @Go.Lg.vcg_seq, @Go.Lg.vcg_cond, @Go.Lg.vcg_block, @Go.Lg.vcg_loop, @Go.Lg.vcg_exit, @Go.Lg.vcg_ret, @Go.Lg.vcg_bad, @Go.Lg.vcg_keep, @Go.Lg.St.keep.eq_1, @Go.Lg.keepL.eq_1, @Go.Lg.keepL.eq_2, @Go.Lg.vops_nil, @Go.Lg.vops_cons, @Go.Lg.vopsM_nil, @Go.Lg.vopsM_cons, @Go.Lg.thenQ_normal, @Go.Lg.thenQ_exit, @Go.Lg.thenQ_ret, @Go.Lg.blockQ_normal, @Go.Lg.blockQ_exit, @Go.Lg.blockQ_ret, @Go.Lg.retK_normal, @Go.Lg.retK_ret, @Go.Lg.some_ex, @Go.Lg.vstep_none, @Go.Lg.vstep_some, @Go.Lg.vguard_bool, @Go.Lg.vguard_skip, @Go.Lg.vguardM_skip, @Go.Lg.gdV_true, @Go.Lg.gdV_false, @Go.Lg.vstepM_none, @Go.Lg.vstepM_some, @Go.Lg.vguardM_bool, @Go.Lg.gdVM_true, @Go.Lg.gdVM_false, @Go.Lg.vresM_A, @Go.Lg.vresM_C, @Go.Lg.vresM_D, @Go.Lg.vresM_call, @Go.Lg.vresM_bad, @Go.Lg.vres_A, @Go.Lg.vres_C, @Go.Lg.vres_D, @Go.Lg.vres_call, @Go.Lg.vres_bad, @Go.Lg.condV_true, @Go.Lg.condV_false, @Go.Lg.ofOpt_some, @Go.Lg.lop.eq_1, @Go.Lg.lop.eq_2, @Go.Lg.lop.eq_3, @Go.Lg.lop.eq_4, @Go.Lg.lop.eq_5, @Go.Lg.lop.eq_6, @Go.Lg.lop.eq_7, @Go.Lg.lop.eq_8⟩

theorem VC1 : type_of% @Go.Lg.lop.eq_9 ∧
  type_of% @Go.Lg.lop.eq_10 ∧
  type_of% @Go.Lg.lop.eq_11 ∧
  type_of% @Go.Lg.lop.eq_12 ∧
  type_of% @Go.Lg.lop.eq_13 ∧
  type_of% @Go.Lg.lop.eq_14 ∧
  type_of% @Go.Lg.lop.eq_15 ∧
  type_of% @Go.Lg.lop.eq_16 ∧
  type_of% @Go.Lg.lop.eq_17 ∧
  type_of% @Go.Lg.lop.eq_18 ∧
  type_of% @Go.Lg.lop.eq_19 ∧
  type_of% @Go.Lg.lop.eq_20 ∧
  type_of% @Go.Lg.lop.eq_21 ∧
  type_of% @Go.Lg.lop.eq_22 ∧
  type_of% @Go.Lg.lop.eq_23 ∧
  type_of% @Go.Lg.lop.eq_24 ∧
  type_of% @Go.Lg.lop.eq_25 ∧
  type_of% @Go.Lg.lop.eq_26 ∧
  type_of% @Go.Lg.lop.eq_27 ∧
  type_of% @Go.Lg.lop.eq_28 ∧
  type_of% @Go.Lg.lop.eq_29 ∧
  type_of% @Go.Lg.lop.eq_30 ∧
  type_of% @Go.Lg.lop.eq_31 ∧
  type_of% @Go.Lg.lop.eq_32 ∧
  type_of% @Go.Lg.lop.eq_33 ∧
  type_of% @Go.Lg.lop.eq_34 ∧
  type_of% @Go.Lg.lop.eq_35 ∧
  type_of% @Go.Lg.lop.eq_36 ∧
  type_of% @Go.Lg.lop.eq_37 ∧
  type_of% @Go.Lg.lop.eq_38 ∧
  type_of% @Go.Lg.lop.eq_39 ∧
  type_of% @Go.Lg.lop.eq_40 ∧
  type_of% @Go.Lg.lop.eq_41 ∧
  type_of% @Go.Lg.lop.eq_42 ∧
  type_of% @Go.Lg.lop.eq_43 ∧
  type_of% @Go.Lg.lop.eq_44 ∧
  type_of% @Go.Lg.lop.eq_45 ∧
  type_of% @Go.Lg.lop.eq_46 ∧
  type_of% @Go.Lg.lop.eq_47 ∧
  type_of% @Go.Lg.lop.eq_48 ∧
  type_of% @Go.Lg.lop.eq_49 ∧
  type_of% @Go.Lg.lop.eq_50 ∧
  type_of% @Go.Lg.lop.eq_51 ∧
  type_of% @Go.Lg.lop.eq_52 ∧
  type_of% @Go.Lg.Rd.get.eq_1 ∧
  type_of% @Go.Lg.Rd.get.eq_2 ∧
  type_of% @Go.Lg.lbin.eq_1 ∧
  type_of% @Go.Lg.lbin.eq_2 ∧
  type_of% @Go.Lg.lbin.eq_3 ∧
  type_of% @Go.Lg.lbin.eq_4 ∧
  type_of% @Go.Lg.lbin.eq_5 ∧
  type_of% @Go.Lg.lbin.eq_6 ∧
  type_of% @Go.Lg.lbin.eq_7 ∧
  type_of% @Go.Lg.lbin.eq_8 ∧
  type_of% @Go.Lg.lbin.eq_9 ∧
  type_of% @Go.Lg.lbin.eq_10 ∧
  type_of% @Go.Lg.lbin.eq_11 ∧
  type_of% @Go.Lg.lbin.eq_12 ∧
  type_of% @Go.Lg.lbin.eq_13 ∧
  type_of% @Go.Lg.lbin.eq_14 :=
  ⟨@Go.Lg.lop.eq_9, @Go.Lg.lop.eq_10, @Go.Lg.lop.eq_11, @Go.Lg.lop.eq_12, @Go.Lg.lop.eq_13, @Go.Lg.lop.eq_14, @Go.Lg.lop.eq_15, @Go.Lg.lop.eq_16, @Go.Lg.lop.eq_17, @Go.Lg.lop.eq_18, @Go.Lg.lop.eq_19, @Go.Lg.lop.eq_20, @Go.Lg.lop.eq_21, @Go.Lg.lop.eq_22, @Go.Lg.lop.eq_23, @Go.Lg.lop.eq_24, @Go.Lg.lop.eq_25, @Go.Lg.lop.eq_26, @Go.Lg.lop.eq_27, @Go.Lg.lop.eq_28, @Go.Lg.lop.eq_29, @Go.Lg.lop.eq_30, @Go.Lg.lop.eq_31, @Go.Lg.lop.eq_32, @Go.Lg.lop.eq_33, @Go.Lg.lop.eq_34, @Go.Lg.lop.eq_35, @Go.Lg.lop.eq_36, @Go.Lg.lop.eq_37, @Go.Lg.lop.eq_38, @Go.Lg.lop.eq_39, @Go.Lg.lop.eq_40, @Go.Lg.lop.eq_41, @Go.Lg.lop.eq_42, @Go.Lg.lop.eq_43, @Go.Lg.lop.eq_44, @Go.Lg.lop.eq_45, @Go.Lg.lop.eq_46, @Go.Lg.lop.eq_47, @Go.Lg.lop.eq_48, @Go.Lg.lop.eq_49, @Go.Lg.lop.eq_50, @Go.Lg.lop.eq_51, @Go.Lg.lop.eq_52, @Go.Lg.Rd.get.eq_1, @Go.Lg.Rd.get.eq_2, @Go.Lg.lbin.eq_1, @Go.Lg.lbin.eq_2, @Go.Lg.lbin.eq_3, @Go.Lg.lbin.eq_4, @Go.Lg.lbin.eq_5, @Go.Lg.lbin.eq_6, @Go.Lg.lbin.eq_7, @Go.Lg.lbin.eq_8, @Go.Lg.lbin.eq_9, @Go.Lg.lbin.eq_10, @Go.Lg.lbin.eq_11, @Go.Lg.lbin.eq_12, @Go.Lg.lbin.eq_13, @Go.Lg.lbin.eq_14⟩

theorem VC2 : type_of% @Go.Lg.lbin.eq_15 ∧
  type_of% @Go.Lg.lbin.eq_16 ∧
  type_of% @Go.Lg.lbin.eq_17 ∧
  type_of% @Go.Lg.lbin.eq_18 ∧
  type_of% @Go.Lg.lbin.eq_19 ∧
  type_of% @Go.Lg.lbin.eq_20 ∧
  type_of% @Go.Lg.lbin.eq_21 ∧
  type_of% @Go.Lg.lbin.eq_22 ∧
  type_of% @Go.Lg.lbin.eq_23 ∧
  type_of% @Go.Lg.lbin.eq_24 ∧
  type_of% @Go.Lg.lbin.eq_25 ∧
  type_of% @Go.Lg.lbin.eq_26 ∧
  type_of% @Go.Lg.lconvI.eq_1 ∧
  type_of% @Go.Lg.lconvI.eq_2 ∧
  type_of% @Go.Lg.lload.eq_1 ∧
  type_of% @Go.Lg.lload.eq_2 ∧
  type_of% @Go.Lg.lload.eq_3 ∧
  type_of% @Go.Lg.lstore.eq_1 ∧
  type_of% @Go.Lg.lstore.eq_2 ∧
  type_of% @Go.Lg.lnil.eq_1 ∧
  type_of% @Go.Lg.lnil.eq_2 ∧
  type_of% @Go.Lg.lnil.eq_3 ∧
  type_of% @Go.Lg.leqb.eq_1 ∧
  type_of% @Go.Lg.leqb.eq_2 ∧
  type_of% @Go.Lg.leqp.eq_1 ∧
  type_of% @Go.Lg.leqp.eq_2 ∧
  type_of% @Go.Lg.leqp.eq_3 ∧
  type_of% @Go.Lg.leqp.eq_4 ∧
  type_of% @Go.Lg.leqi.eq_1 ∧
  type_of% @Go.Lg.leqi.eq_2 ∧
  type_of% @Go.Lg.leqi.eq_3 ∧
  type_of% @Go.Lg.leqi.eq_4 ∧
  type_of% @Go.Lg.lun.eq_1 ∧
  type_of% @Go.Lg.lun.eq_2 ∧
  type_of% @Go.Lg.lun.eq_3 ∧
  type_of% @Go.Lg.lun.eq_4 ∧
  type_of% @Go.Lg.lpick.eq_1 ∧
  type_of% @Go.Lg.lpick.eq_2 ∧
  type_of% @Go.Lg.lmvs.eq_1 ∧
  type_of% @Go.Lg.lmvs.eq_2 ∧
  type_of% @Go.Lg.lmksl.eq_1 ∧
  type_of% @Go.Lg.lmksl.eq_2 ∧
  type_of% @Go.Lg.lslS.eq_1 ∧
  type_of% @Go.Lg.lslSx.eq_1 ∧
  type_of% @Go.Lg.lslSx.eq_2 ∧
  type_of% @Go.Lg.lslVx.eq_1 ∧
  type_of% @Go.Lg.lsl.eq_1 ∧
  type_of% @Go.Lg.lsl.eq_2 ∧
  type_of% @Go.Lg.lslV.eq_1 ∧
  type_of% @Go.Lg.lslV.eq_2 ∧
  type_of% @Go.Lg.lslV.eq_3 ∧
  type_of% @Go.Lg.lslV.eq_4 ∧
  type_of% @Go.Lg.lslV.eq_5 ∧
  type_of% @Go.Lg.lslA.eq_1 ∧
  type_of% @Go.Lg.lslA.eq_2 ∧
  type_of% @Go.Lg.lslA.eq_3 ∧
  type_of% @Go.Lg.lfad.eq_1 ∧
  type_of% @Go.Lg.lfad.eq_2 ∧
  type_of% @Go.Lg.lfad.eq_3 ∧
  type_of% @Go.Lg.lfld.eq_1 :=
  ⟨@Go.Lg.lbin.eq_15, @Go.Lg.lbin.eq_16, @Go.Lg.lbin.eq_17, @Go.Lg.lbin.eq_18, @Go.Lg.lbin.eq_19, @Go.Lg.lbin.eq_20, @Go.Lg.lbin.eq_21, @Go.Lg.lbin.eq_22, @Go.Lg.lbin.eq_23, @Go.Lg.lbin.eq_24, @Go.Lg.lbin.eq_25, @Go.Lg.lbin.eq_26, @Go.Lg.lconvI.eq_1, @Go.Lg.lconvI.eq_2, @Go.Lg.lload.eq_1, @Go.Lg.lload.eq_2, @Go.Lg.lload.eq_3, @Go.Lg.lstore.eq_1, @Go.Lg.lstore.eq_2, @Go.Lg.lnil.eq_1, @Go.Lg.lnil.eq_2, @Go.Lg.lnil.eq_3, @Go.Lg.leqb.eq_1, @Go.Lg.leqb.eq_2, @Go.Lg.leqp.eq_1, @Go.Lg.leqp.eq_2, @Go.Lg.leqp.eq_3, @Go.Lg.leqp.eq_4, @Go.Lg.leqi.eq_1, @Go.Lg.leqi.eq_2, @Go.Lg.leqi.eq_3, @Go.Lg.leqi.eq_4, @Go.Lg.lun.eq_1, @Go.Lg.lun.eq_2, @Go.Lg.lun.eq_3, @Go.Lg.lun.eq_4, @Go.Lg.lpick.eq_1, @Go.Lg.lpick.eq_2, @Go.Lg.lmvs.eq_1, @Go.Lg.lmvs.eq_2, @Go.Lg.lmksl.eq_1, @Go.Lg.lmksl.eq_2, @Go.Lg.lslS.eq_1, @Go.Lg.lslSx.eq_1, @Go.Lg.lslSx.eq_2, @Go.Lg.lslVx.eq_1, @Go.Lg.lsl.eq_1, @Go.Lg.lsl.eq_2, @Go.Lg.lslV.eq_1, @Go.Lg.lslV.eq_2, @Go.Lg.lslV.eq_3, @Go.Lg.lslV.eq_4, @Go.Lg.lslV.eq_5, @Go.Lg.lslA.eq_1, @Go.Lg.lslA.eq_2, @Go.Lg.lslA.eq_3, @Go.Lg.lfad.eq_1, @Go.Lg.lfad.eq_2, @Go.Lg.lfad.eq_3, @Go.Lg.lfld.eq_1⟩

theorem VC3 : type_of% @Go.Lg.lfld.eq_2 ∧
  type_of% @Go.Lg.liaA.eq_1 ∧
  type_of% @Go.Lg.liaA.eq_2 ∧
  type_of% @Go.Lg.liaA.eq_3 ∧
  type_of% @Go.Lg.liaA.eq_4 ∧
  type_of% @Go.Lg.liaS.eq_1 ∧
  type_of% @Go.Lg.liaS.eq_2 ∧
  type_of% @Go.Lg.liaS.eq_3 ∧
  type_of% @Go.Lg.liaS.eq_4 ∧
  type_of% @Go.Lg.liaS.eq_5 ∧
  type_of% @Go.Lg.liaS.eq_6 ∧
  type_of% @Go.Lg.lixS.eq_1 ∧
  type_of% @Go.Lg.lixS.eq_2 ∧
  type_of% @Go.Lg.lixS.eq_3 ∧
  type_of% @Go.Lg.ltas.eq_1 ∧
  type_of% @Go.Lg.ltas.eq_2 ∧
  type_of% @Go.Lg.ltas.eq_3 ∧
  type_of% @Go.Lg.lext.eq_1 ∧
  type_of% @Go.Lg.lext.eq_2 ∧
  type_of% @Go.Lg.llen.eq_1 ∧
  type_of% @Go.Lg.llen.eq_2 ∧
  type_of% @Go.Lg.llen.eq_3 ∧
  type_of% @Go.Lg.llen.eq_4 ∧
  type_of% @Go.Lg.llen.eq_5 ∧
  type_of% @Go.Lg.llen.eq_6 ∧
  type_of% @Go.Lg.llen.eq_7 ∧
  type_of% @Go.Lg.lmn.eq_1 ∧
  type_of% @Go.Lg.lmn.eq_2 ∧
  type_of% @Go.Lg.lcallv.eq_1 ∧
  type_of% @Go.Lg.lcallv.eq_2 ∧
  type_of% @Go.Lg.lappx.eq_1 ∧
  type_of% @Go.Lg.lapp.eq_1 ∧
  type_of% @Go.Lg.lapp.eq_2 ∧
  type_of% @Go.Lg.lapp.eq_3 ∧
  type_of% @Go.Lg.lenV.eq_1 ∧
  type_of% @Go.Lg.lenV.eq_2 ∧
  type_of% @Go.Lg.lenV.eq_3 ∧
  type_of% @Go.Lg.lenV.eq_4 ∧
  type_of% @Go.Lg.lenV.eq_5 ∧
  type_of% @Go.Lg.lenV.eq_6 ∧
  type_of% @Go.Lg.lenV.eq_7 ∧
  type_of% @Go.Lg.loOf.eq_1 ∧
  type_of% @Go.Lg.loOf.eq_2 ∧
  type_of% @Go.Lg.hiOf.eq_1 ∧
  type_of% @Go.Lg.hiOf.eq_2 ∧
  type_of% @Go.Lg.srcOf.eq_1 ∧
  type_of% @Go.Lg.srcOf.eq_2 ∧
  type_of% @Go.Lg.srcOf.eq_3 ∧
  type_of% @Go.Lg.srcOf.eq_4 ∧
  type_of% @Go.Lg.srcOf.eq_5 ∧
  type_of% @Go.Lg.V.cells.eq_1 ∧
  type_of% @Go.Lg.V.cells.eq_2 ∧
  type_of% @Go.Lg.V.known.eq_1 ∧
  type_of% @Go.Lg.V.known.eq_2 ∧
  type_of% @Go.Lg.isPtr.eq_1 ∧
  type_of% @Go.Lg.isPtr.eq_2 ∧
  type_of% @Go.Lg.isPtr.eq_3 ∧
  type_of% @Go.Lg.partsOk.eq_1 ∧
  type_of% @Go.Lg.partsOk.eq_2 ∧
  type_of% @Go.Lg.fillL.eq_1 :=
  ⟨@Go.Lg.lfld.eq_2, @Go.Lg.liaA.eq_1, @Go.Lg.liaA.eq_2, @Go.Lg.liaA.eq_3, @Go.Lg.liaA.eq_4, @Go.Lg.liaS.eq_1, @Go.Lg.liaS.eq_2, @Go.Lg.liaS.eq_3, @Go.Lg.liaS.eq_4, @Go.Lg.liaS.eq_5, @Go.Lg.liaS.eq_6, @Go.Lg.lixS.eq_1, @Go.Lg.lixS.eq_2, @Go.Lg.lixS.eq_3, @Go.Lg.ltas.eq_1, @Go.Lg.ltas.eq_2, @Go.Lg.ltas.eq_3, @Go.Lg.lext.eq_1, @Go.Lg.lext.eq_2, @Go.Lg.llen.eq_1, @Go.Lg.llen.eq_2, @Go.Lg.llen.eq_3, @Go.Lg.llen.eq_4, @Go.Lg.llen.eq_5, @Go.Lg.llen.eq_6, @Go.Lg.llen.eq_7, @Go.Lg.lmn.eq_1, @Go.Lg.lmn.eq_2, @Go.Lg.lcallv.eq_1, @Go.Lg.lcallv.eq_2, @Go.Lg.lappx.eq_1, @Go.Lg.lapp.eq_1, @Go.Lg.lapp.eq_2, @Go.Lg.lapp.eq_3, @Go.Lg.lenV.eq_1, @Go.Lg.lenV.eq_2, @Go.Lg.lenV.eq_3, @Go.Lg.lenV.eq_4, @Go.Lg.lenV.eq_5, @Go.Lg.lenV.eq_6, @Go.Lg.lenV.eq_7, @Go.Lg.loOf.eq_1, @Go.Lg.loOf.eq_2, @Go.Lg.hiOf.eq_1, @Go.Lg.hiOf.eq_2, @Go.Lg.srcOf.eq_1, @Go.Lg.srcOf.eq_2, @Go.Lg.srcOf.eq_3, @Go.Lg.srcOf.eq_4, @Go.Lg.srcOf.eq_5, @Go.Lg.V.cells.eq_1, @Go.Lg.V.cells.eq_2, @Go.Lg.V.known.eq_1, @Go.Lg.V.known.eq_2, @Go.Lg.isPtr.eq_1, @Go.Lg.isPtr.eq_2, @Go.Lg.isPtr.eq_3, @Go.Lg.partsOk.eq_1, @Go.Lg.partsOk.eq_2, @Go.Lg.fillL.eq_1⟩

theorem VC4 : type_of% @Go.Lg.fillL.eq_2 ∧
  type_of% @Go.Lg.St.put.eq_1 ∧
  type_of% @Go.Lg.dput_some ∧
  type_of% @Go.Lg.dput_none ∧
  type_of% @Go.Lg.tupd_app ∧
  type_of% @Go.Lg.hupd_app ∧
  type_of% @Go.Lg.cupd_app ∧
  type_of% @Go.Lg.siteOf.eq_1 ∧
  type_of% @Go.Lg.rvals.eq_1 ∧
  type_of% @Go.Lg.rvals.eq_2 ∧
  type_of% @Go.Lg.rval.eq_1 ∧
  type_of% @Go.Lg.rval.eq_2 ∧
  type_of% @Go.Lg.snap.eq_1 ∧
  type_of% @Go.Lg.snap.eq_2 ∧
  type_of% @Go.Lg.snap.eq_3 ∧
  type_of% @Go.Lg.snap.eq_4 ∧
  type_of% @Go.Lg.snap.eq_5 ∧
  type_of% @Go.Lg.snap.eq_6 ∧
  type_of% @Go.Lg.snap.eq_7 ∧
  type_of% @Go.Lg.snap.eq_8 ∧
  type_of% @Go.Lg.snap.eq_9 ∧
  type_of% @Go.Lg.snap.eq_10 ∧
  type_of% @Go.Lg.snap.eq_11 ∧
  type_of% @Go.Lg.sok.eq_1 ∧
  type_of% @Go.Lg.sok.eq_2 ∧
  type_of% @Go.Lg.sok.eq_3 ∧
  type_of% @Go.Lg.sok.eq_4 ∧
  type_of% @Go.Lg.sok.eq_5 ∧
  type_of% @Go.Lg.sok.eq_6 ∧
  type_of% @Go.Lg.sok.eq_7 ∧
  type_of% @Go.Lg.sok.eq_8 ∧
  type_of% @Go.Lg.sok.eq_9 ∧
  type_of% @Go.Lg.sok.eq_10 ∧
  type_of% @Go.Lg.sok.eq_11 ∧
  type_of% @Go.Lg.frs.eq_1 ∧
  type_of% @Go.Lg.frs.eq_2 ∧
  type_of% @Go.Lg.frs.eq_3 ∧
  type_of% @Go.Lg.frs.eq_4 ∧
  type_of% @Go.Lg.frs.eq_5 ∧
  type_of% @Go.Lg.frs.eq_6 ∧
  type_of% @Go.Lg.frs.eq_7 ∧
  type_of% @Go.Lg.frs.eq_8 ∧
  type_of% @Go.Lg.frs.eq_9 ∧
  type_of% @Go.Lg.frs.eq_10 ∧
  type_of% @Go.Lg.frs.eq_11 ∧
  type_of% @Go.Lg.frs.eq_12 ∧
  type_of% @Go.Lg.frs.eq_13 ∧
  type_of% @Go.Lg.frs.eq_14 ∧
  type_of% @Go.Lg.frs.eq_15 ∧
  type_of% @Go.Lg.argTm_app ∧
  type_of% @Go.Lg.noH_app ∧
  type_of% @Go.Lg.noC_app ∧
  type_of% @Go.Lg.tmk_nil ∧
  type_of% @Go.Lg.tmk_cons ∧
  type_of% @Go.Lg.hmk_nil ∧
  type_of% @Go.Lg.hmk_cons ∧
  type_of% @Go.Lg.tmOk.eq_1 ∧
  type_of% @Go.Lg.tmOk.eq_2 ∧
  type_of% @Go.Lg.hOk.eq_1 ∧
  type_of% @Go.Lg.hOk.eq_2 :=
  ⟨@Go.Lg.fillL.eq_2, @Go.Lg.St.put.eq_1, @Go.Lg.dput_some, @Go.Lg.dput_none, @Go.Lg.tupd_app, @Go.Lg.hupd_app, @Go.Lg.cupd_app, @Go.Lg.siteOf.eq_1, @Go.Lg.rvals.eq_1, @Go.Lg.rvals.eq_2, @Go.Lg.rval.eq_1, @Go.Lg.rval.eq_2, @Go.Lg.snap.eq_1, @Go.Lg.snap.eq_2, @Go.Lg.snap.eq_3, @Go.Lg.snap.eq_4, @Go.Lg.snap.eq_5, @Go.Lg.snap.eq_6, @Go.Lg.snap.eq_7, @Go.Lg.snap.eq_8, @Go.Lg.snap.eq_9, @Go.Lg.snap.eq_10, @Go.Lg.snap.eq_11, @Go.Lg.sok.eq_1, @Go.Lg.sok.eq_2, @Go.Lg.sok.eq_3, @Go.Lg.sok.eq_4, @Go.Lg.sok.eq_5, @Go.Lg.sok.eq_6, @Go.Lg.sok.eq_7, @Go.Lg.sok.eq_8, @Go.Lg.sok.eq_9, @Go.Lg.sok.eq_10, @Go.Lg.sok.eq_11, @Go.Lg.frs.eq_1, @Go.Lg.frs.eq_2, @Go.Lg.frs.eq_3, @Go.Lg.frs.eq_4, @Go.Lg.frs.eq_5, @Go.Lg.frs.eq_6, @Go.Lg.frs.eq_7, @Go.Lg.frs.eq_8, @Go.Lg.frs.eq_9, @Go.Lg.frs.eq_10, @Go.Lg.frs.eq_11, @Go.Lg.frs.eq_12, @Go.Lg.frs.eq_13, @Go.Lg.frs.eq_14, @Go.Lg.frs.eq_15, @Go.Lg.argTm_app, @Go.Lg.noH_app, @Go.Lg.noC_app, @Go.Lg.tmk_nil, @Go.Lg.tmk_cons, @Go.Lg.hmk_nil, @Go.Lg.hmk_cons, @Go.Lg.tmOk.eq_1, @Go.Lg.tmOk.eq_2, @Go.Lg.hOk.eq_1, @Go.Lg.hOk.eq_2⟩

theorem VC5 : type_of% @Option.map.eq_1.{0,0} ∧
  type_of% @Option.map.eq_2.{0,0} ∧
  type_of% @Prod.mk.injEq.{0,0} ∧
  type_of% @List.getD_cons_zero.{0} ∧
  type_of% @List.getD_cons_succ.{0} ∧
  type_of% @List.map_cons.{0,0} ∧
  type_of% @List.map_nil.{0,0} ∧
  type_of% @List.all_cons.{0} ∧
  type_of% @List.all_nil.{0} ∧
  type_of% @true_and ∧
  type_of% @and_true ∧
  type_of% @and_self ∧
  type_of% @and_false ∧
  type_of% @false_and ∧
  type_of% @Bool.true_and ∧
  type_of% @Bool.and_true ∧
  type_of% @Bool.not_true ∧
  type_of% @Bool.not_false ∧
  type_of% @beq_self_eq_true.{0} ∧
  type_of% @decide_eq_true_eq ∧
  type_of% @decide_eq_false_iff_not ∧
  type_of% @Int.toNat_natCast ∧
  type_of% @Nat.zero_add ∧
  type_of% @Nat.add_zero ∧
  type_of% @Nat.mul_one ∧
  type_of% @forall_const.{1} ∧
  type_of% @eq_self.{1} ∧
  type_of% @Bool.false_eq_true ∧
  type_of% @Bool.true_eq_false ∧
  type_of% @false_implies ∧
  type_of% @true_implies ∧
  type_of% @beq_true ∧
  type_of% @beq_false ∧
  type_of% @if_true.{1} ∧
  type_of% @if_false.{1} ∧
  type_of% @List.cons_append.{0} ∧
  type_of% @List.nil_append.{0} ∧
  type_of% @Nat.le_refl ∧
  type_of% @Nat.lt_add_one ∧
  type_of% @Go.Lg.stO.eq_1 ∧
  type_of% @Go.Lg.slO.eq_1 ∧
  type_of% @Go.Lg.slO.eq_2 ∧
  type_of% @Go.Lg.SS.v.eq_1 ∧
  type_of% @Go.Lg.SS.v.eq_2 ∧
  type_of% @Go.Lg.SS.v.eq_3 ∧
  type_of% @Go.Lg.SS.v.eq_4 ∧
  type_of% @Go.Lg.SS.v.eq_5 ∧
  type_of% @Go.Lg.SS.v.eq_6 ∧
  type_of% @Go.Lg.SS.v.eq_7 ∧
  type_of% @Go.Lg.SS.v.eq_8 ∧
  type_of% @Go.Lg.SS.v.eq_9 ∧
  type_of% @Go.Lg.SS.v.eq_10 ∧
  type_of% @Go.Lg.SS.v.eq_11 ∧
  type_of% @Go.Lg.SS.v.eq_12 ∧
  type_of% @Go.Lg.SS.v.eq_13 ∧
  type_of% @Go.Lg.SS.v.eq_14 ∧
  type_of% @Go.Lg.SS.v.eq_15 ∧
  type_of% @Go.Lg.hpO.eq_1 ∧
  type_of% @Go.Lg.hpO.eq_2 ∧
  type_of% @Go.Lg.hpO.eq_3 :=
  ⟨@Option.map.eq_1.{0,0}, @Option.map.eq_2.{0,0}, @Prod.mk.injEq.{0,0}, @List.getD_cons_zero.{0}, @List.getD_cons_succ.{0}, @List.map_cons.{0,0}, @List.map_nil.{0,0}, @List.all_cons.{0}, @List.all_nil.{0}, @true_and, @and_true, @and_self, @and_false, @false_and, @Bool.true_and, @Bool.and_true, @Bool.not_true, @Bool.not_false, @beq_self_eq_true.{0}, @decide_eq_true_eq, @decide_eq_false_iff_not, @Int.toNat_natCast, @Nat.zero_add, @Nat.add_zero, @Nat.mul_one, @forall_const.{1}, @eq_self.{1}, @Bool.false_eq_true, @Bool.true_eq_false, @false_implies, @true_implies, @beq_true, @beq_false, @if_true.{1}, @if_false.{1}, @List.cons_append.{0}, @List.nil_append.{0}, @Nat.le_refl, @Nat.lt_add_one, @Go.Lg.stO.eq_1, @Go.Lg.slO.eq_1, @Go.Lg.slO.eq_2, @Go.Lg.SS.v.eq_1, @Go.Lg.SS.v.eq_2, @Go.Lg.SS.v.eq_3, @Go.Lg.SS.v.eq_4, @Go.Lg.SS.v.eq_5, @Go.Lg.SS.v.eq_6, @Go.Lg.SS.v.eq_7, @Go.Lg.SS.v.eq_8, @Go.Lg.SS.v.eq_9, @Go.Lg.SS.v.eq_10, @Go.Lg.SS.v.eq_11, @Go.Lg.SS.v.eq_12, @Go.Lg.SS.v.eq_13, @Go.Lg.SS.v.eq_14, @Go.Lg.SS.v.eq_15, @Go.Lg.hpO.eq_1, @Go.Lg.hpO.eq_2, @Go.Lg.hpO.eq_3⟩

theorem VC6 : type_of% @Go.Lg.hpO.eq_4 ∧
  type_of% @Go.Lg.hpO.eq_5 ∧
  type_of% @Go.Lg.hpO.eq_6 ∧
  type_of% @Go.Lg.hpO.eq_7 ∧
  type_of% @Go.Lg.hpO.eq_8 ∧
  type_of% @Go.Lg.hpO.eq_9 ∧
  type_of% @Go.Lg.hpO.eq_10 ∧
  type_of% @Go.Lg.hpO.eq_11 ∧
  type_of% @Go.Lg.hpO.eq_12 ∧
  type_of% @Go.Lg.hpO.eq_13 ∧
  type_of% @Go.Lg.hpO.eq_14 ∧
  type_of% @Go.Lg.hpO.eq_15 ∧
  type_of% @Go.Lg.hpO.eq_16 ∧
  type_of% @Go.Lg.cnO.eq_1 ∧
  type_of% @Go.Lg.mxO.eq_1 ∧
  type_of% @Go.Lg.mxO.eq_2 ∧
  type_of% @Go.Lg.mxO.eq_3 ∧
  type_of% @Go.Lg.mxO.eq_4 ∧
  type_of% @Go.Lg.PK.eq_1 ∧
  type_of% @Go.Lg.entL.eq_1 ∧
  type_of% @Go.Lg.entL.eq_2 ∧
  type_of% @Go.Lg.entS.eq_1 ∧
  type_of% @Go.Lg.entS.eq_2 ∧
  type_of% @Go.Lg.entS.eq_3 ∧
  type_of% @Go.Lg.entS.eq_4 ∧
  type_of% @Go.Lg.entS.eq_5 ∧
  type_of% @Go.Lg.entS.eq_6 ∧
  type_of% @Go.Lg.entS.eq_7 ∧
  type_of% @Go.Lg.entS.eq_8 ∧
  type_of% @Go.Lg.entS.eq_9 ∧
  type_of% @Go.Lg.entS.eq_10 ∧
  type_of% @Go.Lg.entS.eq_11 ∧
  type_of% @Go.Lg.entS.eq_12 ∧
  type_of% @Go.Lg.entS.eq_13 ∧
  type_of% @Go.Lg.entS.eq_14 ∧
  type_of% @Go.Lg.entS.eq_15 ∧
  type_of% @Go.Lg.ownAt.eq_1 ∧
  type_of% @Go.Lg.ownAt.eq_2 ∧
  type_of% @Go.Lg.ownAt.eq_3 ∧
  type_of% @Go.Lg.boxAt.eq_1 ∧
  type_of% @Go.Lg.boxAt.eq_2 ∧
  type_of% @List.mem_nil_iff.{0} ∧
  type_of% @List.not_mem_nil.{0} ∧
  type_of% @not_false_eq_true ∧
  type_of% @or_false ∧
  type_of% @false_or ∧
  type_of% @not_or ∧
  type_of% @true_or ∧
  type_of% @or_true ∧
  type_of% @Nat.zero_ne_one ∧
  type_of% @Go.Lg.rowV_ld ∧
  type_of% @Go.Lg.hfz.eq_1 ∧
  type_of% @Option.map_some.{0,0} ∧
  type_of% @Go.Lg.intBeq ∧
  type_of% @Go.Lg.intBne ∧
  type_of% @Bool.not_not ∧
  type_of% @decide_true ∧
  type_of% @decide_false ∧
  type_of% @not_true_eq_false ∧
  type_of% @ge_iff_le.{0} :=
  ⟨@Go.Lg.hpO.eq_4, @Go.Lg.hpO.eq_5, @Go.Lg.hpO.eq_6, @Go.Lg.hpO.eq_7, @Go.Lg.hpO.eq_8, @Go.Lg.hpO.eq_9, @Go.Lg.hpO.eq_10, @Go.Lg.hpO.eq_11, @Go.Lg.hpO.eq_12, @Go.Lg.hpO.eq_13, @Go.Lg.hpO.eq_14, @Go.Lg.hpO.eq_15, @Go.Lg.hpO.eq_16, @Go.Lg.cnO.eq_1, @Go.Lg.mxO.eq_1, @Go.Lg.mxO.eq_2, @Go.Lg.mxO.eq_3, @Go.Lg.mxO.eq_4, @Go.Lg.PK.eq_1, @Go.Lg.entL.eq_1, @Go.Lg.entL.eq_2, @Go.Lg.entS.eq_1, @Go.Lg.entS.eq_2, @Go.Lg.entS.eq_3, @Go.Lg.entS.eq_4, @Go.Lg.entS.eq_5, @Go.Lg.entS.eq_6, @Go.Lg.entS.eq_7, @Go.Lg.entS.eq_8, @Go.Lg.entS.eq_9, @Go.Lg.entS.eq_10, @Go.Lg.entS.eq_11, @Go.Lg.entS.eq_12, @Go.Lg.entS.eq_13, @Go.Lg.entS.eq_14, @Go.Lg.entS.eq_15, @Go.Lg.ownAt.eq_1, @Go.Lg.ownAt.eq_2, @Go.Lg.ownAt.eq_3, @Go.Lg.boxAt.eq_1, @Go.Lg.boxAt.eq_2, @List.mem_nil_iff.{0}, @List.not_mem_nil.{0}, @not_false_eq_true, @or_false, @false_or, @not_or, @true_or, @or_true, @Nat.zero_ne_one, @Go.Lg.rowV_ld, @Go.Lg.hfz.eq_1, @Option.map_some.{0,0}, @Go.Lg.intBeq, @Go.Lg.intBne, @Bool.not_not, @decide_true, @decide_false, @not_true_eq_false, @ge_iff_le.{0}⟩

theorem VC7 : type_of% @gt_iff_lt.{0} ∧
  type_of% @ite_not.{0} ∧
  type_of% @Bool.true_or ∧
  type_of% @Bool.or_true ∧
  type_of% @Bool.false_or ∧
  type_of% @Bool.or_false ∧
  type_of% @Bool.false_and ∧
  type_of% @Bool.and_false ∧
  type_of% @List.length_nil.{0} ∧
  type_of% @List.length_cons.{0} ∧
  type_of% @Go.Lg.imV.eq_1 ∧
  type_of% @Go.Lg.imV.eq_2 ∧
  type_of% @Go.Lg.imV.eq_3 ∧
  type_of% @Go.Lg.imV.eq_4 ∧
  type_of% @Go.Lg.imV.eq_5 ∧
  type_of% @Go.Lg.imV.eq_6 ∧
  type_of% @Go.Lg.imV.eq_7 ∧
  type_of% @Go.Lg.imV.eq_8 ∧
  type_of% @Go.Lg.imV.eq_9 ∧
  type_of% @Go.Lg.imV.eq_10 ∧
  type_of% @Go.Lg.imV.eq_11 ∧
  type_of% @Go.Lg.imV.eq_12 ∧
  type_of% @Go.Lg.imV.eq_13 ∧
  type_of% @Go.Lg.imV.eq_14 ∧
  type_of% @Go.Lg.imV.eq_15 ∧
  type_of% @Go.Lg.imV.eq_16 ∧
  type_of% @Go.Lg.imV.eq_17 ∧
  type_of% @Go.Lg.V.int.injEq ∧
  type_of% @Go.Lg.V.bool.injEq ∧
  type_of% @Go.Lg.V.sl.injEq ∧
  type_of% @Go.Lg.V.str.injEq ∧
  type_of% @Int.natCast_zero ∧
  type_of% @Int.natCast_add ∧
  type_of% @Int.natCast_one ∧
  type_of% @Int.add_sub_cancel ∧
  type_of% @Nat.add_assoc ∧
  type_of% @Go.Lg.slOf.eq_1 ∧
  type_of% @Go.Lg.slOf.eq_2 ∧
  type_of% @Go.Lg.one_int ∧
  type_of% @Go.Lg.one_bool ∧
  type_of% @Go.Lg.one_str ∧
  type_of% @Go.Lg.one_sl ∧
  type_of% @Go.Lg.one_e0 ∧
  type_of% @Go.Lg.one_msl ∧
  type_of% @Go.Lg.one_mp ∧
  type_of% @Go.Lg.one_ip ∧
  type_of% @Go.Lg.one_nilp ∧
  type_of% @Go.Lg.one_fn ∧
  type_of% @Go.Lg.one_ifc ∧
  type_of% @Go.Lg.one_nili ∧
  type_of% @Nat.sub_zero ∧
  type_of% @Int.cast_ofNat_Int ∧
  type_of% @Int.le_refl ∧
  type_of% @Go.Lg.vcg_join ∧
  type_of% @List.drop_zero.{0} ∧
  type_of% @Go.Lg.vcg_regb ∧
  type_of% @Go.Lg.vopsB_nil ∧
  type_of% @Go.Lg.vopsB_consF ∧
  type_of% @Go.Lg.vopsB_consT ∧
  type_of% @Go.Lg.vstepL_none :=
  ⟨@gt_iff_lt.{0}, @ite_not.{0}, @Bool.true_or, @Bool.or_true, @Bool.false_or, @Bool.or_false, @Bool.false_and, @Bool.and_false, @List.length_nil.{0}, @List.length_cons.{0}, @Go.Lg.imV.eq_1, @Go.Lg.imV.eq_2, @Go.Lg.imV.eq_3, @Go.Lg.imV.eq_4, @Go.Lg.imV.eq_5, @Go.Lg.imV.eq_6, @Go.Lg.imV.eq_7, @Go.Lg.imV.eq_8, @Go.Lg.imV.eq_9, @Go.Lg.imV.eq_10, @Go.Lg.imV.eq_11, @Go.Lg.imV.eq_12, @Go.Lg.imV.eq_13, @Go.Lg.imV.eq_14, @Go.Lg.imV.eq_15, @Go.Lg.imV.eq_16, @Go.Lg.imV.eq_17, @Go.Lg.V.int.injEq, @Go.Lg.V.bool.injEq, @Go.Lg.V.sl.injEq, @Go.Lg.V.str.injEq, @Int.natCast_zero, @Int.natCast_add, @Int.natCast_one, @Int.add_sub_cancel, @Nat.add_assoc, @Go.Lg.slOf.eq_1, @Go.Lg.slOf.eq_2, @Go.Lg.one_int, @Go.Lg.one_bool, @Go.Lg.one_str, @Go.Lg.one_sl, @Go.Lg.one_e0, @Go.Lg.one_msl, @Go.Lg.one_mp, @Go.Lg.one_ip, @Go.Lg.one_nilp, @Go.Lg.one_fn, @Go.Lg.one_ifc, @Go.Lg.one_nili, @Nat.sub_zero, @Int.cast_ofNat_Int, @Int.le_refl, @Go.Lg.vcg_join, @List.drop_zero.{0}, @Go.Lg.vcg_regb, @Go.Lg.vopsB_nil, @Go.Lg.vopsB_consF, @Go.Lg.vopsB_consT, @Go.Lg.vstepL_none⟩

theorem VC8 : type_of% @Go.Lg.litR_bsl ∧
  type_of% @Go.Lg.rmut.eq_1 ∧
  type_of% @Go.Lg.rmut.eq_2 ∧
  type_of% @Go.Lg.lappE.eq_1 ∧
  type_of% @Go.Lg.lappE.eq_2 ∧
  type_of% @Go.Lg.St.call.eq_1 ∧
  type_of% @Go.Lg.St.back.eq_1 ∧
  type_of% @Go.Lg.callTm_app ∧
  type_of% @Go.Lg.backTm_app ∧
  type_of% @Go.Lg.mapAt.eq_1 ∧
  type_of% @Go.Lg.mapAt.eq_2 ∧
  type_of% @Go.Lg.boxmAt.eq_1 ∧
  type_of% @Go.Lg.boxmAt.eq_2 ∧
  type_of% @Go.Lg.ownFAt.eq_1 ∧
  type_of% @Go.Lg.ownFAt.eq_2 ∧
  type_of% @Go.Lg.ownFAt.eq_3 ∧
  type_of% @Go.Lg.boxoAt.eq_1 ∧
  type_of% @Go.Lg.boxoAt.eq_2 ∧
  type_of% @Go.Lg.SS.isBox.eq_1 ∧
  type_of% @Go.Lg.SS.isBox.eq_2 ∧
  type_of% @Go.Lg.SS.isBox.eq_3 ∧
  type_of% @Go.Lg.SS.isBox.eq_4 ∧
  type_of% @Go.Lg.SS.isBox.eq_5 ∧
  type_of% @Go.Lg.one_mm ∧
  type_of% @Go.Lg.one_im ∧
  type_of% @Go.Lg.lmsb.eq_1 ∧
  type_of% @Go.Lg.lmsb.eq_2 ∧
  type_of% @Go.Lg.lmlk.eq_1 ∧
  type_of% @Go.Lg.lmlk.eq_2 ∧
  type_of% @Go.Lg.lmlk.eq_3 ∧
  type_of% @Go.Lg.lmset.eq_1 ∧
  type_of% @Go.Lg.lmset.eq_2 ∧
  type_of% @Go.Lg.lmlen.eq_1 ∧
  type_of% @Go.Lg.lmlen.eq_2 ∧
  type_of% @Go.Lg.lmlen.eq_3 ∧
  type_of% @Go.Lg.lmlen.eq_4 ∧
  type_of% @Go.Lg.ls2b.eq_1 ∧
  type_of% @Go.Lg.ls2b.eq_2 ∧
  type_of% @Go.Lg.lb2s.eq_1 ∧
  type_of% @Go.Lg.leqa.eq_1 ∧
  type_of% @Go.Lg.leqa.eq_2 ∧
  type_of% @Go.Lg.lkV.eq_1 ∧
  type_of% @Go.Lg.lkV.eq_2 ∧
  type_of% @Go.Lg.keyV.eq_1 ∧
  type_of% @Go.Lg.keyV.eq_2 ∧
  type_of% @Go.Lg.keyV.eq_3 ∧
  type_of% @Go.Lg.keyV.eq_4 ∧
  type_of% @Go.Lg.keyV.eq_5 ∧
  type_of% @Go.Lg.findK.eq_1 ∧
  type_of% @Go.Lg.findK.eq_2 ∧
  type_of% @Go.Lg.eqK.eq_1 ∧
  type_of% @Go.Lg.eqK.eq_2 ∧
  type_of% @Go.Lg.eqK.eq_3 ∧
  type_of% @Go.Lg.eqK.eq_4 ∧
  type_of% @Go.Lg.eqK.eq_5 ∧
  type_of% @Go.Lg.eqInts.eq_1 ∧
  type_of% @Go.Lg.eqInts.eq_2 ∧
  type_of% @Go.Lg.eqInts.eq_3 ∧
  type_of% @Go.Lg.intsK.eq_1 ∧
  type_of% @Go.Lg.intsK.eq_2 :=
  ⟨@Go.Lg.litR_bsl, @Go.Lg.rmut.eq_1, @Go.Lg.rmut.eq_2, @Go.Lg.lappE.eq_1, @Go.Lg.lappE.eq_2, @Go.Lg.St.call.eq_1, @Go.Lg.St.back.eq_1, @Go.Lg.callTm_app, @Go.Lg.backTm_app, @Go.Lg.mapAt.eq_1, @Go.Lg.mapAt.eq_2, @Go.Lg.boxmAt.eq_1, @Go.Lg.boxmAt.eq_2, @Go.Lg.ownFAt.eq_1, @Go.Lg.ownFAt.eq_2, @Go.Lg.ownFAt.eq_3, @Go.Lg.boxoAt.eq_1, @Go.Lg.boxoAt.eq_2, @Go.Lg.SS.isBox.eq_1, @Go.Lg.SS.isBox.eq_2, @Go.Lg.SS.isBox.eq_3, @Go.Lg.SS.isBox.eq_4, @Go.Lg.SS.isBox.eq_5, @Go.Lg.one_mm, @Go.Lg.one_im, @Go.Lg.lmsb.eq_1, @Go.Lg.lmsb.eq_2, @Go.Lg.lmlk.eq_1, @Go.Lg.lmlk.eq_2, @Go.Lg.lmlk.eq_3, @Go.Lg.lmset.eq_1, @Go.Lg.lmset.eq_2, @Go.Lg.lmlen.eq_1, @Go.Lg.lmlen.eq_2, @Go.Lg.lmlen.eq_3, @Go.Lg.lmlen.eq_4, @Go.Lg.ls2b.eq_1, @Go.Lg.ls2b.eq_2, @Go.Lg.lb2s.eq_1, @Go.Lg.leqa.eq_1, @Go.Lg.leqa.eq_2, @Go.Lg.lkV.eq_1, @Go.Lg.lkV.eq_2, @Go.Lg.keyV.eq_1, @Go.Lg.keyV.eq_2, @Go.Lg.keyV.eq_3, @Go.Lg.keyV.eq_4, @Go.Lg.keyV.eq_5, @Go.Lg.findK.eq_1, @Go.Lg.findK.eq_2, @Go.Lg.eqK.eq_1, @Go.Lg.eqK.eq_2, @Go.Lg.eqK.eq_3, @Go.Lg.eqK.eq_4, @Go.Lg.eqK.eq_5, @Go.Lg.eqInts.eq_1, @Go.Lg.eqInts.eq_2, @Go.Lg.eqInts.eq_3, @Go.Lg.intsK.eq_1, @Go.Lg.intsK.eq_2⟩

theorem VC9 : type_of% @Go.Lg.intsK.eq_3 ∧
  type_of% @Go.Lg.isSlV.eq_1 ∧
  type_of% @Go.Lg.isSlV.eq_2 ∧
  type_of% @Go.Lg.isSlV.eq_3 ∧
  type_of% @Go.Lg.isSlV.eq_4 ∧
  type_of% @Go.Lg.boxGAt.eq_1 ∧
  type_of% @Go.Lg.boxGAt.eq_2 ∧
  type_of% @Go.Lg.cutAt.eq_1 ∧
  type_of% @Go.Lg.cutAt.eq_2 ∧
  type_of% @Go.Lg.cutAt.eq_3 ∧
  type_of% @Go.Lg.vcg_regf ∧
  type_of% @Go.Lg.vcg_regg ∧
  type_of% @Go.Lg.vopsL_one ∧
  type_of% @Go.Lg.vopsL_cons ∧
  type_of% @Go.Lg.leqf.eq_1 ∧
  type_of% @Go.Lg.leqf.eq_2 ∧
  type_of% @Go.Lg.leqf.eq_3 ∧
  type_of% @Go.Lg.leqf.eq_4 ∧
  type_of% @Go.Lg.queAt.eq_1 ∧
  type_of% @Go.Lg.queAt.eq_2 ∧
  type_of% @Go.Lg.queAt.eq_3 ∧
  type_of% @Go.Lg.vcg_regh ∧
  type_of% @Go.Lg.vopsH_z ∧
  type_of% @Go.Lg.vopsH_cons ∧
  type_of% @Go.Lg.vcg_regv ∧
  type_of% @Go.Lg.vT_leaf ∧
  type_of% @Go.Lg.vT_none ∧
  type_of% @Go.Lg.vT_alt ∧
  type_of% @Go.Lg.loAt_z ∧
  type_of% @Go.Lg.loAt_s ∧
  type_of% @Go.Lg.itAt.eq_1 ∧
  type_of% @Go.Lg.itAt.eq_2 ∧
  type_of% @Go.Lg.vcg_regc ∧
  type_of% @Go.Lg.vopsC_nil ∧
  type_of% @Go.Lg.vopsC_z ∧
  type_of% @Go.Lg.vopsC_2 :=
  ⟨@Go.Lg.intsK.eq_3, @Go.Lg.isSlV.eq_1, @Go.Lg.isSlV.eq_2, @Go.Lg.isSlV.eq_3, @Go.Lg.isSlV.eq_4, @Go.Lg.boxGAt.eq_1, @Go.Lg.boxGAt.eq_2, @Go.Lg.cutAt.eq_1, @Go.Lg.cutAt.eq_2, @Go.Lg.cutAt.eq_3, @Go.Lg.vcg_regf, @Go.Lg.vcg_regg, @Go.Lg.vopsL_one, @Go.Lg.vopsL_cons, @Go.Lg.leqf.eq_1, @Go.Lg.leqf.eq_2, @Go.Lg.leqf.eq_3, @Go.Lg.leqf.eq_4, @Go.Lg.queAt.eq_1, @Go.Lg.queAt.eq_2, @Go.Lg.queAt.eq_3, @Go.Lg.vcg_regh, @Go.Lg.vopsH_z, @Go.Lg.vopsH_cons, @Go.Lg.vcg_regv, @Go.Lg.vT_leaf, @Go.Lg.vT_none, @Go.Lg.vT_alt, @Go.Lg.loAt_z, @Go.Lg.loAt_s, @Go.Lg.itAt.eq_1, @Go.Lg.itAt.eq_2, @Go.Lg.vcg_regc, @Go.Lg.vopsC_nil, @Go.Lg.vopsC_z, @Go.Lg.vopsC_2⟩

end Go.Lg

set_option linter.unusedSimpArgs false
set_option linter.unusedVariables false
namespace Go.Lg
open Go Go.RowKit

/-- Types whose values are not looked into. -/
def otherOk (P : Program) : TypeDesc → Bool
  | .bool | .int _ | .string | .struct _ | .array .. => false
  | .slice e => P.cellsOf e == 0
  | _ => true

/-- The cells of a value of a type. -/
inductive Ty (P : Program) : TypeId → List V → Prop
  | bool (t b) : P.underlying t = some .bool → Ty P t [.bool b]
  | int (t k n) : P.underlying t = some (.int k) → (Lit.int k n).wf = true → Ty P t [.int k n]
  | str (t s) : P.underlying t = some .string → s.size ≤ maxLen → Ty P t [.str s]
  | struct (t fs cs) : P.underlying t = some (.struct fs) → cs.length = P.cellsOf t → (∀ f ∈ fs.toList, Ty P f.type ((cs.drop f.offset).take (P.cellsOf f.type))) → Ty P t cs
  | array (t n e cs) : P.underlying t = some (.array n e) → cs.length = P.cellsOf t → (∀ i, i < n → Ty P e ((cs.drop (i * P.cellsOf e)).take (P.cellsOf e))) → Ty P t cs
  | slice (t e n cs) : P.underlying t = some (.slice e) → cs.length = n * P.cellsOf e → n ≤ maxLen → (∀ i, i < n → Ty P e ((cs.drop (i * P.cellsOf e)).take (P.cellsOf e))) → Ty P t [.sl n cs]
  | other (t d) : P.underlying t = some d → otherOk P d = true → Ty P t [.junk]

section
variable {P : Program} {H : Type} {enc : TypeId × Value → H} {w : World}

/-- Cells of the model and logical ones. -/
def CellsRep (w : World) (cs : List Value) (xs : List V) : Prop :=
  xs.length = cs.length ∧ ∀ (j : Nat) (v : Value) (x : V), cs[j]? = some v → xs[j]? = some x → RepI (· < w.heap.size) w v x

theorem CellsRep.one {v : Value} {x : V} (h : RepI (· < w.heap.size) w v x) : CellsRep w [v] [x] := by
  refine ⟨rfl, fun j u y hu hy => ?_⟩
  cases j with
  | zero => simp at hu hy; subst hu hy; exact h
  | succ j => simp at hu

theorem cells?_spec {a : Addr} {n : Nat} {l : List Value} (h : w.cells? 0 a n = some l) : l.length = n ∧ (0 < n → ∃ us T fz, a.spot = none ∧ w.heap[a.block]? = some (.cells us T fz) ∧ a.off + n ≤ us.size ∧ ∀ j, j < n → us[a.off + j]? = l[j]?) := by
  unfold World.cells? at h
  rw [if_pos (Nat.zero_le _)] at h
  obtain ⟨h1, h2⟩ := mapM_spec h
  rw [List.length_range] at h1
  have get : ∀ j (hj : j < n), w.cell? (a.add j) = some (l[j]'(by omega)) := by
    intro j hj
    exact h2 j j _ (by simp [hj]) (List.getElem?_eq_getElem (by omega))
  refine ⟨h1, fun hn => ?_⟩
  have h0 := get 0 hn
  have e0 : a.add 0 = a := by simp [Addr.add]
  rw [e0] at h0
  have hspot : a.spot = none := by
    unfold World.cell? at h0
    split at h0
    · split at h0
      · cases h0
      · rename_i hsp; simpa using hsp
    · cases h0
  obtain ⟨b, off, spot⟩ := a
  subst hspot
  unfold World.cell? at h0
  simp only [] at h0
  cases hb : w.heap[b]? with
  | none => rw [hb] at h0; cases h0
  | some ob =>
    cases ob with
    | cells us T fz =>
      have cell : ∀ j, j < n → us[off + j]? = l[j]? := by
        intro j hj
        have := get j hj
        rw [addr_add, cell_at hb] at this
        rw [this, List.getElem?_eq_getElem (by omega)]
      refine ⟨us, T, fz, rfl, rfl, ?_, cell⟩
      have hl := cell (n - 1) (by omega)
      rw [List.getElem?_eq_getElem (by omega)] at hl
      have : off + (n - 1) < us.size := by
        rcases Nat.lt_or_ge (off + (n - 1)) us.size with h' | h'
        · exact h'
        · rw [Array.getElem?_eq_none h'] at hl; cases hl
      simp only []
      omega
    | _ => rw [hb] at h0; cases h0

/-- Fields side by side. -/
def tileF (P : Program) : Nat → List Field → Option Nat
  | o, [] => some o
  | o, f :: r => if f.offset = o then tileF P (o + P.cellsOf f.type) r else none
def tileOk (P : Program) (t : TypeId) : Bool := match P.underlying t with
  | some (.struct fs) => tileF P 0 fs.toList == some (P.cellsOf t)
  | some (.array n e) => n * P.cellsOf e == P.cellsOf t
  | _ => true

def compsOf (P : Program) (t : TypeId) : List TypeId := match P.underlying t with
  | some (.struct fs) => fs.toList.map (·.type)
  | some (.array _ e) | some (.slice e) => [e]
  | _ => []
/-- All types of the table are laid out side by side, and made of types of the table. -/
def tilesOk (P : Program) : Bool := (List.range P.types.size).all fun t => tileOk P t && (compsOf P t).all fun c => decide (c < P.types.size)

theorem tile_all (h : tilesOk P = true) {t : TypeId} (ht : t < P.types.size) : tileOk P t = true ∧ ∀ c ∈ compsOf P t, c < P.types.size := by
  have := List.all_eq_true.1 h t (List.mem_range.2 ht)
  simp only [Bool.and_eq_true] at this
  exact ⟨this.1, fun c hc => by simpa using List.all_eq_true.1 this.2 c hc⟩

theorem fields_rep {fuel : Nat} (ih : ∀ (t : TypeId) (cs : List Value) (d : DataW H) (p : List MemPlace), t < P.types.size → DataW.trod enc P w 0 (fun _ => true) true fuel t cs = some (d, p) → ∃ xs, Ty P t xs ∧ CellsRep w cs xs) (cs : List Value) :
    ∀ (fs : List Field) (o n : Nat), (∀ f ∈ fs, f.type < P.types.size) → tileF P o fs = some n → n ≤ cs.length → (∀ f ∈ fs, ∃ x, DataW.trod enc P w 0 (fun _ => true) true fuel f.type ((cs.drop f.offset).take (P.cellsOf f.type)) = some x) →
      ∃ xs, o ≤ n ∧ CellsRep w ((cs.drop o).take (n - o)) xs ∧ ∀ f ∈ fs, o ≤ f.offset ∧ Ty P f.type ((xs.drop (f.offset - o)).take (P.cellsOf f.type))
  | [], o, n, _, ht, hn, _ => by
    cases ht
    exact ⟨[], Nat.le_refl _, ⟨by simp, fun j v x h => by simp at h⟩, fun f h => by cases h⟩
  | f :: r, o, n, hin, ht, hn, hf => by
    simp only [tileF] at ht
    split at ht
    case isFalse => cases ht
    rename_i hoff
    obtain ⟨xs', hle, hrep, hty⟩ := fields_rep ih cs r _ n (fun f hm => hin f (List.mem_cons_of_mem _ hm)) ht hn fun f hm => hf f (List.mem_cons_of_mem _ hm)
    obtain ⟨⟨d, p⟩, hx⟩ := hf f (List.mem_cons_self ..)
    obtain ⟨ys, hyt, hyr⟩ := ih _ _ _ _ (hin f (List.mem_cons_self ..)) hx
    rw [hoff] at hx hyr
    have hyl : ys.length = P.cellsOf f.type := by
      rw [hyr.1, List.length_take, List.length_drop]; omega
    have hsplit : (cs.drop o).take (n - o) = (cs.drop o).take (P.cellsOf f.type) ++ (cs.drop (o + P.cellsOf f.type)).take (n - (o + P.cellsOf f.type)) := by
      have e1 : n - o = P.cellsOf f.type + (n - (o + P.cellsOf f.type)) := by omega
      rw [e1, List.take_add, List.drop_drop]
    refine ⟨ys ++ xs', by omega, ?_, fun g hg => ?_⟩
    · rw [hsplit]
      refine ⟨by rw [List.length_append, List.length_append, hyr.1, hrep.1], fun j v x hv hx' => ?_⟩
      have hl : ((cs.drop o).take (P.cellsOf f.type)).length = ys.length := hyr.1.symm
      rw [List.getElem?_append, hl] at hv
      rw [List.getElem?_append] at hx'
      split at hv
      · rename_i hlt; rw [if_pos hlt] at hx'; exact hyr.2 j v x hv hx'
      · rename_i hlt; rw [if_neg hlt] at hx'; exact hrep.2 _ v x hv hx'
    · rcases List.mem_cons.1 hg with rfl | hg
      · refine ⟨by omega, ?_⟩
        rw [hoff, Nat.sub_self, List.drop_zero, List.take_append_of_le_length (by omega), List.take_of_length_le (by omega)]
        exact hyt
      · obtain ⟨h1, h2⟩ := hty g hg
        refine ⟨by omega, ?_⟩
        rw [List.drop_append, List.drop_eq_nil_of_le (by omega), List.nil_append, show g.offset - o - ys.length = g.offset - (o + P.cellsOf f.type) by omega]
        exact h2

/-- Elements side by side, each read by itself. -/
theorem elems_rep {e s : Nat} : ∀ (n : Nat) (get : Nat → List Value), (∀ i, i < n → (get i).length = s ∧ ∃ xs, Ty P e xs ∧ CellsRep w (get i) xs) →
    ∃ xs, CellsRep w ((List.range n).flatMap get) xs ∧ xs.length = n * s ∧ ∀ i, i < n → Ty P e ((xs.drop (i * s)).take s)
  | 0, get, _ => ⟨[], ⟨rfl, fun j v x h => by simp at h⟩, by simp, fun i h => by omega⟩
  | n + 1, get, h => by
    obtain ⟨xs, h1, h2, h3⟩ := elems_rep n get fun i hi => h i (by omega)
    obtain ⟨hl, ys, hy1, hy2⟩ := h n (by omega)
    have hyl : ys.length = s := by rw [hy2.1, hl]
    rw [List.range_succ, List.flatMap_append]
    simp only [List.flatMap_cons, List.flatMap_nil, List.append_nil]
    refine ⟨xs ++ ys, ⟨by rw [List.length_append, List.length_append, h1.1, hy2.1], fun j v x hv hx => ?_⟩, by rw [List.length_append, h2, hyl, Nat.add_mul]; omega, fun i hi => ?_⟩
    · rw [List.getElem?_append, ← h1.1] at hv
      rw [List.getElem?_append] at hx
      split at hv
      · rename_i hlt; rw [if_pos hlt] at hx; exact h1.2 j v x hv hx
      · rename_i hlt; rw [if_neg hlt] at hx; exact hy2.2 _ v x hv hx
    · rcases Nat.lt_or_ge i n with hlt | hge
      · have hm : i * s + s ≤ n * s := by
          have := Nat.mul_le_mul_right s (show i + 1 ≤ n by omega)
          rw [Nat.add_mul] at this; omega
        rw [List.drop_append_of_le_length (by omega), List.take_append_of_le_length (by rw [List.length_drop]; omega)]
        exact h3 i hlt
      · obtain rfl : i = n := by omega
        rw [List.drop_append, List.drop_eq_nil_of_le (by omega), h2, Nat.sub_self]
        simp only [List.nil_append, List.drop_zero]
        rw [List.take_of_length_le (by omega)]
        exact hy1

theorem trod_rep (htile : tilesOk P = true) : ∀ (fuel : Nat) (t : TypeId) (cs : List Value) (d : DataW H) (p : List MemPlace), t < P.types.size → DataW.trod enc P w 0 (fun _ => true) true fuel t cs = some (d, p) → ∃ xs, Ty P t xs ∧ CellsRep w cs xs
  | 0, t, cs, d, p, _, h => by cases h
  | fuel + 1, t, cs, d, p, hin, h => by
    have ih := trod_rep htile fuel
    obtain ⟨hto, hcomp⟩ := tile_all htile hin
    have h0 := h
    cases ht : P.underlying t with
    | none => unfold DataW.trod at h; rw [ht] at h; cases h
    | some td =>
      have other : ∀ v, cs = [v] → otherOk P td = true → ∃ xs, Ty P t xs ∧ CellsRep w cs xs := by
        intro v e hm
        subst e
        exact ⟨[.junk], .other t td ht hm, CellsRep.one (.junk _)⟩
      cases td with
      | bool =>
        obtain ⟨b, rfl, _⟩ := DataW.trod_bool ht h
        exact ⟨_, .bool t b ht, CellsRep.one (.bool b)⟩
      | int k =>
        obtain ⟨n, rfl, _, hw⟩ := DataW.trod_int ht h
        exact ⟨_, .int t k n ht hw, CellsRep.one (.int k n)⟩
      | string =>
        obtain ⟨s, rfl, _, hs⟩ := DataW.trod_string ht h
        exact ⟨_, .str t s ht hs, CellsRep.one (.str s)⟩
      | struct fs =>
        obtain ⟨ys, n, hn, _, hl, hlen, hf⟩ := DataW.trod_struct ht h
        obtain rfl : n = fuel := by omega
        simp only [tileOk, ht, beq_iff_eq] at hto
        obtain ⟨xs, h1, h2, h3⟩ := fields_rep ih cs fs.toList 0 _ (fun f hm => hcomp _ (by simp only [compsOf, ht]; exact List.mem_map_of_mem hm)) hto (by omega) (fun f hm => by
          obtain ⟨i, hi⟩ := List.mem_iff_getElem?.1 hm
          rw [Array.getElem?_toList] at hi
          have hlt : i < fs.size := by
            rcases Nat.lt_or_ge i fs.size with h' | h'
            · exact h'
            · rw [Array.getElem?_eq_none h'] at hi; cases hi
          exact ⟨ys[i], by rw [hf i f hi, List.getElem?_eq_getElem (by omega)]⟩)
        rw [List.drop_zero, Nat.sub_zero, List.take_of_length_le (by omega)] at h2
        exact ⟨xs, .struct t fs xs ht (by rw [h2.1, hl]) (fun f hm => by simpa using (h3 f hm).2), h2⟩
      | array n e =>
        obtain ⟨ys, m, hm, _, hl, hlen, hf⟩ := DataW.trod_array ht h
        obtain rfl : m = fuel := by omega
        simp only [tileOk, ht, beq_iff_eq] at hto
        obtain ⟨xs, h1, h2, h3⟩ := elems_rep (P := P) (e := e) (s := P.cellsOf e) (w := w) n (fun i => (cs.drop (i * P.cellsOf e)).take (P.cellsOf e)) (fun i hi => by
          refine ⟨?_, ?_⟩
          · have hmm : i * P.cellsOf e + P.cellsOf e ≤ n * P.cellsOf e := by
              have := Nat.mul_le_mul_right (P.cellsOf e) (show i + 1 ≤ n by omega)
              rw [Nat.add_mul] at this; omega
            rw [List.length_take, List.length_drop]; omega
          · have hx := hf i hi
            rw [List.getElem?_eq_getElem (by omega)] at hx
            exact ih _ _ _ _ (hcomp e (by simp [compsOf, ht])) hx)
        have hcs : (List.range n).flatMap (fun i => (cs.drop (i * P.cellsOf e)).take (P.cellsOf e)) = cs := by
          have key : ∀ m, m ≤ n → (List.range m).flatMap (fun i => (cs.drop (i * P.cellsOf e)).take (P.cellsOf e)) = cs.take (m * P.cellsOf e) := by
            intro m
            induction m with
            | zero => intro _; simp
            | succ m ihm =>
              intro hm
              rw [List.range_succ, List.flatMap_append, ihm (by omega)]
              simp only [List.flatMap_cons, List.flatMap_nil, List.append_nil]
              rw [Nat.add_mul, Nat.one_mul, List.take_add]
          rw [key n (Nat.le_refl _), List.take_of_length_le (by omega)]
        rw [hcs] at h1
        exact ⟨xs, .array t n e xs ht (by rw [h1.1, hl]) h3, h1⟩
      | slice e =>
        unfold DataW.trod at h
        rw [ht] at h
        simp only [] at h
        by_cases hz : P.cellsOf e = 0
        · obtain ⟨a, l, c, rfl⟩ := Joins.slice_form ht h0
          exact other _ rfl (by simp [otherOk, hz])
        · have hp : 0 < P.cellsOf e := Nat.pos_of_ne_zero hz
          obtain ⟨a, l, c, rfl⟩ := Joins.slice_form ht h0
          cases a with
          | none =>
            have hlc : l = 0 ∧ c = 0 := by
              split at h <;> first | (cases h; done) | simp_all
            obtain ⟨rfl, rfl⟩ := hlc
            exact ⟨[.sl 0 []], .slice t e 0 [] ht (by simp) (Nat.zero_le _) (fun i h => by omega), CellsRep.one (.sl0 _ _)⟩
          | some a =>
            simp only [] at h
            split at h
            case isFalse => cases h
            rename_i hcond
            simp only [Option.bind_eq_some_iff] at h
            obtain ⟨els, hels, _⟩ := h
            obtain ⟨q1, q2⟩ := mapM_spec hels
            rw [List.length_range] at q1
            have each : ∀ i, i < l → ∃ cl, w.cells? 0 (a.add (i * P.cellsOf e)) (P.cellsOf e) = some cl ∧ ∃ xs, Ty P e xs ∧ CellsRep w cl xs := by
              intro i hi
              have := q2 i i _ (by simp [hi]) (List.getElem?_eq_getElem (by omega))
              simp only [Option.bind_eq_some_iff] at this
              obtain ⟨cl, h1, h2⟩ := this
              exact ⟨cl, h1, ih _ _ _ _ (hcomp e (by simp [compsOf, ht])) h2⟩
            by_cases hl0 : l = 0
            · subst hl0
              exact ⟨[.sl 0 []], .slice t e 0 [] ht (by simp) (Nat.zero_le _) (fun i h => by omega), CellsRep.one (.sl0 _ _)⟩
            · obtain ⟨cl0, hc0, _⟩ := each 0 (by omega)
              have ea0 : a.add (0 * P.cellsOf e) = a := by simp [Addr.add]
              rw [ea0] at hc0
              obtain ⟨_, hblk⟩ := cells?_spec hc0
              obtain ⟨us, T, fz, hspot, hb, _, _⟩ := hblk hp
              clear hblk
              obtain ⟨b, off, spot⟩ := a
              simp only [] at hspot hb
              subst hspot
              obtain ⟨xs, h1, h2, h3⟩ := elems_rep (P := P) (e := e) (s := P.cellsOf e) (w := w) l (fun i => ((us.toList.drop (off + i * P.cellsOf e)).take (P.cellsOf e))) (fun i hi => by
                obtain ⟨cl, hcl, xs, hx1, hx2⟩ := each i hi
                rw [addr_add] at hcl
                obtain ⟨hlen, hsp⟩ := cells?_spec hcl
                obtain ⟨us', T', fz', _, hb', hsz, hget⟩ := hsp hp
                simp only [] at hb' hsz hget
                rw [hb] at hb'; cases hb'
                have heq : (us.toList.drop (off + i * P.cellsOf e)).take (P.cellsOf e) = cl := by
                  apply List.ext_getElem?
                  intro j
                  rw [List.getElem?_take]
                  split
                  · rename_i hj
                    rw [List.getElem?_drop, Array.getElem?_toList]
                    exact hget j hj
                  · rename_i hj
                    rw [List.getElem?_eq_none (by omega)]
                refine ⟨by rw [heq]; exact hlen, xs, hx1, by rw [heq]; exact hx2⟩)
              have hsz : off + l * P.cellsOf e ≤ us.size := by
                obtain ⟨cl, hcl, _⟩ := each (l - 1) (by omega)
                rw [addr_add] at hcl
                obtain ⟨_, hsp⟩ := cells?_spec hcl
                obtain ⟨us', T', fz', _, hb', hsz, _⟩ := hsp hp
                simp only [] at hb' hsz
                rw [hb] at hb'; cases hb'
                have : (l - 1) * P.cellsOf e + P.cellsOf e = l * P.cellsOf e := by
                  rw [← Nat.succ_mul]; congr 1; omega
                omega
              refine ⟨[.sl l xs], .slice t e l xs ht h2 (by omega) h3, CellsRep.one (.sl b off l c us T fz xs ?_ hb (by omega) hcond.2.1 fun j v x hv hx => ?_)⟩
              · rcases Nat.lt_or_ge b w.heap.size with h' | h'
                · exact h'
                · rw [Array.getElem?_eq_none h'] at hb; cases hb
              · have hjl : j < l * P.cellsOf e := by
                  rcases Nat.lt_or_ge j xs.length with h' | h'
                  · omega
                  · rw [List.getElem?_eq_none h'] at hx; cases hx
                refine h1.2 j v x ?_ hx
                have hfl : (List.range l).flatMap (fun i => ((us.toList.drop (off + i * P.cellsOf e)).take (P.cellsOf e))) = (us.toList.drop off).take (l * P.cellsOf e) := by
                  have key : ∀ m, (List.range m).flatMap (fun i => ((us.toList.drop (off + i * P.cellsOf e)).take (P.cellsOf e))) = (us.toList.drop off).take (m * P.cellsOf e) := by
                    intro m
                    induction m with
                    | zero => simp
                    | succ m ihm =>
                      rw [List.range_succ, List.flatMap_append, ihm]
                      simp only [List.flatMap_cons, List.flatMap_nil, List.append_nil]
                      rw [Nat.add_mul, Nat.one_mul, List.take_add, List.drop_drop]
                  exact key l
                rw [hfl, List.getElem?_take, if_pos hjl, List.getElem?_drop, Array.getElem?_toList]
                exact hv
      | _ =>
        have : ∃ v, cs = [v] := by
          unfold DataW.trod at h
          rw [ht] at h
          simp only [] at h
          first
            | (cases h; done)
            | (split at h <;> first | (cases h; done) | exact ⟨_, rfl⟩ | simp_all)
        obtain ⟨v, hv⟩ := this
        exact other v hv rfl

end
end Go.Lg

set_option linter.unusedSimpArgs false
set_option linter.unusedVariables false
namespace Go.Lg
open Go Go.RowKit

def kindF (P : Program) (t : TypeId) : Option IntKind := match P.underlying t with | some (.int k) => some k | _ => none
def boolF (P : Program) (t : TypeId) : Bool := match P.underlying t with | some .bool => true | _ => false
def strF (P : Program) (t : TypeId) : Bool := match P.underlying t with | some .string => true | _ => false
def stF (P : Program) (t : TypeId) : Option (List TypeId) := match P.underlying t with | some (.struct fs) => if tileOk P t then some (fs.toList.map (·.type)) else none | _ => none
def slF (P : Program) (t : TypeId) : Option (TypeId × Nat) := match P.underlying t with | some (.slice e) => some (e, P.cellsOf e) | _ => none
/-- Cells in pieces, each with its type. -/
def Pcs (Q : TypeId → List V → Prop) : List TypeId → List V → Prop
  | [], xs => xs = []
  | t :: r, xs => ∃ p q, xs = p ++ q ∧ Q t p ∧ Pcs Q r q

section
variable {P : Program}

theorem pcs_of {Q : TypeId → List V → Prop} {xs : List V} : ∀ (fs : List Field) (o n : Nat), tileF P o fs = some n → xs.length = n → (∀ f ∈ fs, Q f.type ((xs.drop f.offset).take (P.cellsOf f.type))) → Pcs Q (fs.map (·.type)) (xs.drop o)
  | [], o, n, h, hl, _ => by
    cases h
    simp only [List.map_nil, Pcs]
    exact List.drop_eq_nil_of_le (by omega)
  | f :: r, o, n, h, hl, hf => by
    simp only [tileF] at h
    split at h
    case isFalse => cases h
    rename_i ho
    have h1 := hf f (List.mem_cons_self ..)
    rw [ho] at h1
    refine ⟨_, _, ?_, h1, pcs_of r _ n h hl fun g hg => hf g (List.mem_cons_of_mem _ hg)⟩
    rw [← List.drop_drop, List.take_append_drop]

theorem Ty.st {t : TypeId} {xs : List V} {ts : List TypeId} (h : Ty P t xs) (hs : stF P t = some ts) : Pcs (Ty P) ts xs := by
  unfold stF at hs
  cases h with
  | struct _ fs _ hu hl hf =>
    simp only [hu] at hs
    split at hs
    case isFalse => cases hs
    rename_i ht
    cases hs
    simp only [tileOk, hu, beq_iff_eq] at ht
    have := pcs_of (Q := Ty P) (xs := xs) fs.toList 0 _ ht hl hf
    simpa using this
  | other _ d hu ho => simp only [hu] at hs; cases d <;> simp_all [otherOk]
  | _ => simp_all

def IsT (P : Program) (t : TypeId) {α : Type} (f : α → List V) (ok : α → Prop) : Prop := ∀ xs, Ty P t xs → ∃ x, xs = f x ∧ ok x

def encL {α : Type} (f : α → List V) (l : List α) : V := .sl l.length (l.flatMap f)

theorem isInt {t : TypeId} (h : kindF P t = some .i64) : IsT P t (fun n : Int => [.int .i64 n]) InI64 := by
  intro xs hx
  unfold kindF at h
  cases hx with
  | int _ k n hu hw =>
    simp only [hu, Option.some.injEq] at h
    subst h
    refine ⟨n, rfl, ?_⟩
    simp [Lit.wf, IntKind.min, IntKind.max, IntKind.signed, IntKind.bits] at hw
    exact hw
  | other _ d hu ho => simp only [hu] at h; cases d <;> simp_all [otherOk]
  | _ => simp_all
theorem isBool {t : TypeId} (h : boolF P t = true) : IsT P t (fun b : Bool => [.bool b]) (fun _ => True) := by
  intro xs hx
  unfold boolF at h
  cases hx with
  | bool _ b hu => exact ⟨b, rfl, trivial⟩
  | other _ d hu ho => simp only [hu] at h; cases d <;> simp_all [otherOk]
  | _ => simp_all
theorem isStr {t : TypeId} (h : strF P t = true) : IsT P t (fun s : ByteArray => [.str s]) (fun s => s.size ≤ maxLen) := by
  intro xs hx
  unfold strF at h
  cases hx with
  | str _ b hu hs => exact ⟨b, rfl, hs⟩
  | other _ d hu ho => simp only [hu] at h; cases d <;> simp_all [otherOk]
  | _ => simp_all

theorem Ty.sl {t e : TypeId} {s : Nat} {xs : List V} (h : Ty P t xs) (hs : slF P t = some (e, s)) (hp : 0 < s) :
    ∃ n cs, xs = [.sl n cs] ∧ cs.length = n * s ∧ n ≤ maxLen ∧ ∀ i, i < n → Ty P e ((cs.drop (i * s)).take s) := by
  unfold slF at hs
  cases h with
  | slice _ e' n cs hu hl hn hi =>
    simp only [hu, Option.some.injEq, Prod.mk.injEq] at hs
    obtain ⟨rfl, rfl⟩ := hs
    exact ⟨n, cs, rfl, hl, hn, hi⟩
  | other _ d hu ho =>
    simp only [hu] at hs
    cases d with
    | slice e' =>
      simp only [Option.some.injEq, Prod.mk.injEq] at hs
      obtain ⟨rfl, rfl⟩ := hs
      simp [otherOk] at ho; omega
    | _ => cases hs
  | _ => simp_all

theorem list_of_pcs {α : Type} {f : α → List V} {ok : α → Prop} {s : Nat} (hf : ∀ x, (f x).length = s) : ∀ (n : Nat) (cs : List V), cs.length = n * s → (∀ i, i < n → ∃ x, (cs.drop (i * s)).take s = f x ∧ ok x) →
    ∃ l : List α, l.length = n ∧ cs = l.flatMap f ∧ ∀ x ∈ l, ok x
  | 0, cs, hl, _ => ⟨[], rfl, List.eq_nil_of_length_eq_zero (by omega), fun x h => by cases h⟩
  | n + 1, cs, hl, h => by
    obtain ⟨x, hx, hox⟩ := h 0 (by omega)
    have hl' : (cs.drop s).length = n * s := by rw [List.length_drop, hl, Nat.add_mul]; omega
    obtain ⟨l, h1, h2, h3⟩ := list_of_pcs hf n (cs.drop s) hl' fun i hi => by
      obtain ⟨y, hy, hoy⟩ := h (i + 1) (by omega)
      refine ⟨y, ?_, hoy⟩
      rw [List.drop_drop, show s + i * s = (i + 1) * s by rw [Nat.add_mul]; omega]
      exact hy
    refine ⟨x :: l, by simp [h1], ?_, fun y hy => ?_⟩
    · simp only [Nat.zero_mul, List.drop_zero] at hx
      rw [List.flatMap_cons, ← h2, ← hx, List.take_append_drop]
    · rcases List.mem_cons.1 hy with rfl | hy
      · exact hox
      · exact h3 y hy

theorem isSl {t e : TypeId} {s : Nat} {α : Type} {f : α → List V} {ok : α → Prop} (h : slF P t = some (e, s)) (hp : 0 < s) (hf : ∀ x, (f x).length = s) (he : IsT P e f ok) :
    IsT P t (fun l : List α => [encL f l]) (fun l => l.length ≤ maxLen ∧ ∀ x ∈ l, ok x) := by
  intro xs hx
  obtain ⟨n, cs, rfl, hl, hn, hi⟩ := hx.sl h hp
  obtain ⟨l, h1, h2, h3⟩ := list_of_pcs hf n cs hl fun i h => he _ (hi i h)
  exact ⟨l, by simp only [encL]; rw [← h2, h1], by omega, h3⟩

/-! Reading lists of records. -/
theorem flat_len {α : Type} {f : α → List V} {s : Nat} (hf : ∀ x, (f x).length = s) : ∀ (l : List α), (l.flatMap f).length = l.length * s
  | [] => by simp
  | x :: l => by rw [List.flatMap_cons, List.length_append, flat_len hf l, hf, List.length_cons, Nat.add_mul]; omega

theorem flat_rec {α : Type} {f : α → List V} {s : Nat} (hf : ∀ x, (f x).length = s) : ∀ (l : List α) (i : Nat) (h : i < l.length), ((l.flatMap f).drop (i * s)).take s = f l[i]
  | x :: l, 0, _ => by
    rw [List.flatMap_cons, Nat.zero_mul, List.drop_zero, ← hf x, List.take_left]; rfl
  | x :: l, i + 1, h => by
    rw [List.flatMap_cons, Nat.add_mul, Nat.one_mul, Nat.add_comm, List.drop_append, hf, List.drop_eq_nil_of_le (by rw [hf]; omega), List.nil_append, Nat.add_sub_cancel_left]
    exact flat_rec hf l i (by simpa using h)

theorem flat_cell {α : Type} {f : α → List V} {s : Nat} (hf : ∀ x, (f x).length = s) : ∀ (l : List α) (i j : Nat) (h : i < l.length), j < s → (l.flatMap f)[i * s + j]? = (f l[i])[j]?
  | x :: l, 0, j, _, hj => by
    rw [List.flatMap_cons, Nat.zero_mul, Nat.zero_add, List.getElem?_append_left (by rw [hf]; exact hj)]; rfl
  | x :: l, i + 1, j, h, hj => by
    rw [List.flatMap_cons, List.getElem?_append_right (by rw [hf, Nat.add_mul]; omega), hf, show (i + 1) * s + j - s = i * s + j by rw [Nat.add_mul]; omega]
    exact flat_cell hf l i j (by simpa using h) hj

end
end Go.Lg

set_option linter.unusedSimpArgs false
set_option linter.unusedVariables false
namespace Go.Lg
open Go Go.RowKit

def cI (n : Int) : List V := [.int .i64 n]
def cB (b : Bool) : List V := [.bool b]
def cS (s : ByteArray) : List V := [.str s]

structure MPath where
  loc : Int
  steps : List ByteArray
@[irreducible] def MPath.cells (p : MPath) : List V := [.int .i64 p.loc, encL cS p.steps]
def MPath.ok (p : MPath) : Prop := InI64 p.loc ∧ p.steps.length ≤ maxLen ∧ ∀ s ∈ p.steps, s.size ≤ maxLen

structure MOper where
  kind : Int
  n : Int
  path : MPath
@[irreducible] def MOper.cells (o : MOper) : List V := [.int .i64 o.kind, .int .i64 o.n, .int .i64 o.path.loc, encL cS o.path.steps]
def MOper.ok (o : MOper) : Prop := InI64 o.kind ∧ InI64 o.n ∧ o.path.ok

structure MVal where
  kind : Int
  a : MOper
  b : MOper
  op : Int
  path : MPath
  region : Int
  name : ByteArray
  regions : List Int
  args : List MOper
@[irreducible] def MVal.cells (v : MVal) : List V := [.int .i64 v.kind, .int .i64 v.a.kind, .int .i64 v.a.n, .int .i64 v.a.path.loc, encL cS v.a.path.steps, .int .i64 v.b.kind, .int .i64 v.b.n, .int .i64 v.b.path.loc, encL cS v.b.path.steps,
  .int .i64 v.op, .int .i64 v.path.loc, encL cS v.path.steps, .int .i64 v.region, .str v.name, encL cI v.regions, encL MOper.cells v.args]
def MVal.ok (v : MVal) : Prop := InI64 v.kind ∧ v.a.ok ∧ v.b.ok ∧ InI64 v.op ∧ v.path.ok ∧ InI64 v.region ∧ v.name.size ≤ maxLen ∧ (v.regions.length ≤ maxLen ∧ ∀ x ∈ v.regions, InI64 x) ∧ (v.args.length ≤ maxLen ∧ ∀ x ∈ v.args, x.ok)

structure MInst where
  kind : Int
  at' : Int
  has : Bool
  to : MPath
  val : MVal
  next : List Int
@[irreducible] def MInst.cells (x : MInst) : List V := [.int .i64 x.kind, .int .i64 x.at', .bool x.has, .int .i64 x.to.loc, encL cS x.to.steps, .int .i64 x.val.kind, .int .i64 x.val.a.kind, .int .i64 x.val.a.n, .int .i64 x.val.a.path.loc, encL cS x.val.a.path.steps,
  .int .i64 x.val.b.kind, .int .i64 x.val.b.n, .int .i64 x.val.b.path.loc, encL cS x.val.b.path.steps, .int .i64 x.val.op, .int .i64 x.val.path.loc, encL cS x.val.path.steps, .int .i64 x.val.region, .str x.val.name, encL cI x.val.regions, encL MOper.cells x.val.args, encL cI x.next]
def MInst.ok (x : MInst) : Prop := InI64 x.kind ∧ InI64 x.at' ∧ x.to.ok ∧ x.val.ok ∧ x.next.length ≤ maxLen ∧ ∀ y ∈ x.next, InI64 y

inductive RT where
  | mk (kind : Int) (name : ByteArray) (regions : List Int) (elem : List RT)
def RT.kind : RT → Int | .mk k _ _ _ => k
def RT.name : RT → ByteArray | .mk _ n _ _ => n
def RT.regions : RT → List Int | .mk _ _ r _ => r
def RT.elem : RT → List RT | .mk _ _ _ e => e
mutual
def RT.cells : RT → List V
  | .mk k n r e => [.int .i64 k, .str n, encL cI r, .sl e.length (RT.cellsL e)]
def RT.cellsL : List RT → List V
  | [] => []
  | x :: r => RT.cells x ++ RT.cellsL r
end
mutual
def RT.ok : RT → Prop
  | .mk k n r e => InI64 k ∧ n.size ≤ maxLen ∧ (r.length ≤ maxLen ∧ ∀ x ∈ r, InI64 x) ∧ e.length ≤ maxLen ∧ RT.okL e
def RT.okL : List RT → Prop
  | [] => True
  | x :: r => RT.ok x ∧ RT.okL r
end
theorem RT.cellsL_eq : ∀ l : List RT, RT.cellsL l = l.flatMap RT.cells
  | [] => rfl
  | x :: r => by rw [RT.cellsL, RT.cellsL_eq r]; rfl
theorem RT.cells_eq (t : RT) : t.cells = [.int .i64 t.kind, .str t.name, encL cI t.regions, encL RT.cells t.elem] := by
  cases t with
  | mk k n r e => rw [RT.cells, RT.cellsL_eq]; rfl
structure MLocal where
  name : ByteArray
  type : RT
  param : Bool
@[irreducible] def MLocal.cells (l : MLocal) : List V := [.str l.name, .int .i64 l.type.kind, .str l.type.name, encL cI l.type.regions, encL RT.cells l.type.elem, .bool l.param]
def MLocal.ok (l : MLocal) : Prop := l.name.size ≤ maxLen ∧ l.type.ok

structure Mir where
  at' : Int
  free : Int
  regions : Int
  known : List (List Int)
  locals : List MLocal
  code : List MInst
@[irreducible] def Mir.cells (m : Mir) : List V := [.int .i64 m.at', .int .i64 m.free, .int .i64 m.regions, encL (fun k : List Int => k.flatMap cI) m.known, encL MLocal.cells m.locals, encL MInst.cells m.code]
def Mir.ok (m : Mir) : Prop := InI64 m.at' ∧ InI64 m.free ∧ InI64 m.regions ∧ (m.known.length ≤ maxLen ∧ ∀ k ∈ m.known, k.length = 2 ∧ ∀ x ∈ k, InI64 x) ∧ (m.locals.length ≤ maxLen ∧ ∀ x ∈ m.locals, x.ok) ∧ (m.code.length ≤ maxLen ∧ ∀ x ∈ m.code, x.ok)

theorem cS_len (x : ByteArray) : (cS x).length = 1 := rfl
theorem MPath.len (x : MPath) : x.cells.length = 2 := by simp [MPath.cells]
theorem MOper.len (x : MOper) : x.cells.length = 4 := by simp [MOper.cells]
theorem MVal.len (x : MVal) : x.cells.length = 16 := by simp [MVal.cells]
theorem MInst.len (x : MInst) : x.cells.length = 22 := by simp [MInst.cells]
theorem RT.len (x : RT) : x.cells.length = 4 := by rw [RT.cells_eq]; rfl
theorem MLocal.len (x : MLocal) : x.cells.length = 6 := by simp [MLocal.cells]
theorem Mir.len (x : Mir) : x.cells.length = 6 := by simp [Mir.cells]

end Go.Lg

set_option linter.unusedSimpArgs false
set_option linter.unusedVariables false
namespace Go.Lg
open Go Go.RowKit

theorem MPath.c0 (x : MPath) : ldV false 1 x.cells 0 = some (.int .i64 x.loc) := by simp [ldV, MPath.cells]
theorem MPath.c1 (x : MPath) : ldV false 1 x.cells 1 = some (encL cS x.steps) := by simp [ldV, MPath.cells]
theorem MPath.call (x : MPath) : ldV true 2 x.cells 0 = some (.agg x.cells) := by simp only [ldV, if_true, Nat.zero_add, MPath.len, Nat.le_refl, List.drop_zero]; rw [List.take_of_length_le (by rw [MPath.len]; exact Nat.le_refl _)]
theorem MPath.snapc (x : MPath) (H : Heap) (d : Nat) : x.cells.map (snap H (d + 1)) = x.cells := by simp [MPath.cells, snap, encL]
theorem MPath.sokc (x : MPath) (H : Heap) (d : Nat) : x.cells.all (sok H (d + 1)) = true := by simp [MPath.cells, sok, encL]
theorem MPath.onec (x : MPath) : x.cells.all V.one = true := by simp [MPath.cells, V.one, encL]
theorem MPath.imvc (x : MPath) (d : Nat) : x.cells.all (imV (d + 1)) = true := by simp [MPath.cells, imV, encL]
theorem MOper.c0 (x : MOper) : ldV false 1 x.cells 0 = some (.int .i64 x.kind) := by simp [ldV, MOper.cells]
theorem MOper.c1 (x : MOper) : ldV false 1 x.cells 1 = some (.int .i64 x.n) := by simp [ldV, MOper.cells]
theorem MOper.c2 (x : MOper) : ldV false 1 x.cells 2 = some (.int .i64 x.path.loc) := by simp [ldV, MOper.cells]
theorem MOper.c3 (x : MOper) : ldV false 1 x.cells 3 = some (encL cS x.path.steps) := by simp [ldV, MOper.cells]
theorem MOper.call (x : MOper) : ldV true 4 x.cells 0 = some (.agg x.cells) := by simp only [ldV, if_true, Nat.zero_add, MOper.len, Nat.le_refl, List.drop_zero]; rw [List.take_of_length_le (by rw [MOper.len]; exact Nat.le_refl _)]
theorem MOper.snapc (x : MOper) (H : Heap) (d : Nat) : x.cells.map (snap H (d + 1)) = x.cells := by simp [MOper.cells, snap, encL]
theorem MOper.sokc (x : MOper) (H : Heap) (d : Nat) : x.cells.all (sok H (d + 1)) = true := by simp [MOper.cells, sok, encL]
theorem MOper.onec (x : MOper) : x.cells.all V.one = true := by simp [MOper.cells, V.one, encL]
theorem MOper.imvc (x : MOper) (d : Nat) : x.cells.all (imV (d + 1)) = true := by simp [MOper.cells, imV, encL]
theorem MVal.c0 (x : MVal) : ldV false 1 x.cells 0 = some (.int .i64 x.kind) := by simp [ldV, MVal.cells]
theorem MVal.c1 (x : MVal) : ldV false 1 x.cells 1 = some (.int .i64 x.a.kind) := by simp [ldV, MVal.cells]
theorem MVal.c2 (x : MVal) : ldV false 1 x.cells 2 = some (.int .i64 x.a.n) := by simp [ldV, MVal.cells]
theorem MVal.c3 (x : MVal) : ldV false 1 x.cells 3 = some (.int .i64 x.a.path.loc) := by simp [ldV, MVal.cells]
theorem MVal.c4 (x : MVal) : ldV false 1 x.cells 4 = some (encL cS x.a.path.steps) := by simp [ldV, MVal.cells]
theorem MVal.c5 (x : MVal) : ldV false 1 x.cells 5 = some (.int .i64 x.b.kind) := by simp [ldV, MVal.cells]
theorem MVal.call (x : MVal) : ldV true 16 x.cells 0 = some (.agg x.cells) := by simp only [ldV, if_true, Nat.zero_add, MVal.len, Nat.le_refl, List.drop_zero]; rw [List.take_of_length_le (by rw [MVal.len]; exact Nat.le_refl _)]
theorem MVal.snapc (x : MVal) (H : Heap) (d : Nat) : x.cells.map (snap H (d + 1)) = x.cells := by simp [MVal.cells, snap, encL]
theorem MVal.sokc (x : MVal) (H : Heap) (d : Nat) : x.cells.all (sok H (d + 1)) = true := by simp [MVal.cells, sok, encL]
theorem MVal.onec (x : MVal) : x.cells.all V.one = true := by simp [MVal.cells, V.one, encL]
theorem MVal.imvc (x : MVal) (d : Nat) : x.cells.all (imV (d + 1)) = true := by simp [MVal.cells, imV, encL]
theorem MInst.c0 (x : MInst) : ldV false 1 x.cells 0 = some (.int .i64 x.kind) := by simp [ldV, MInst.cells]
theorem MInst.c1 (x : MInst) : ldV false 1 x.cells 1 = some (.int .i64 x.at') := by simp [ldV, MInst.cells]
theorem MInst.c2 (x : MInst) : ldV false 1 x.cells 2 = some (.bool x.has) := by simp [ldV, MInst.cells]
theorem MInst.c3 (x : MInst) : ldV false 1 x.cells 3 = some (.int .i64 x.to.loc) := by simp [ldV, MInst.cells]
theorem MInst.c4 (x : MInst) : ldV false 1 x.cells 4 = some (encL cS x.to.steps) := by simp [ldV, MInst.cells]
theorem MInst.c5 (x : MInst) : ldV false 1 x.cells 5 = some (.int .i64 x.val.kind) := by simp [ldV, MInst.cells]
theorem MInst.call (x : MInst) : ldV true 22 x.cells 0 = some (.agg x.cells) := by simp only [ldV, if_true, Nat.zero_add, MInst.len, Nat.le_refl, List.drop_zero]; rw [List.take_of_length_le (by rw [MInst.len]; exact Nat.le_refl _)]
theorem MInst.snapc (x : MInst) (H : Heap) (d : Nat) : x.cells.map (snap H (d + 1)) = x.cells := by simp [MInst.cells, snap, encL]
theorem MInst.sokc (x : MInst) (H : Heap) (d : Nat) : x.cells.all (sok H (d + 1)) = true := by simp [MInst.cells, sok, encL]
theorem MInst.onec (x : MInst) : x.cells.all V.one = true := by simp [MInst.cells, V.one, encL]
theorem MInst.imvc (x : MInst) (d : Nat) : x.cells.all (imV (d + 1)) = true := by simp [MInst.cells, imV, encL]
theorem RT.c0 (x : RT) : ldV false 1 x.cells 0 = some (.int .i64 x.kind) := by simp [ldV, RT.cells_eq]
theorem RT.c1 (x : RT) : ldV false 1 x.cells 1 = some (.str x.name) := by simp [ldV, RT.cells_eq]
theorem RT.c2 (x : RT) : ldV false 1 x.cells 2 = some (encL cI x.regions) := by simp [ldV, RT.cells_eq]
theorem RT.c3 (x : RT) : ldV false 1 x.cells 3 = some (encL RT.cells x.elem) := by simp [ldV, RT.cells_eq]
theorem RT.call (x : RT) : ldV true 4 x.cells 0 = some (.agg x.cells) := by simp only [ldV, if_true, Nat.zero_add, RT.len, Nat.le_refl, List.drop_zero]; rw [List.take_of_length_le (by rw [RT.len]; exact Nat.le_refl _)]
theorem RT.snapc (x : RT) (H : Heap) (d : Nat) : x.cells.map (snap H (d + 1)) = x.cells := by simp [RT.cells_eq, snap, encL]
theorem RT.sokc (x : RT) (H : Heap) (d : Nat) : x.cells.all (sok H (d + 1)) = true := by simp [RT.cells_eq, sok, encL]
theorem RT.onec (x : RT) : x.cells.all V.one = true := by simp [RT.cells_eq, V.one, encL]
theorem RT.imvc (x : RT) (d : Nat) : x.cells.all (imV (d + 1)) = true := by simp [RT.cells_eq, imV, encL]
theorem MLocal.c0 (x : MLocal) : ldV false 1 x.cells 0 = some (.str x.name) := by simp [ldV, MLocal.cells]
theorem MLocal.c1 (x : MLocal) : ldV false 1 x.cells 1 = some (.int .i64 x.type.kind) := by simp [ldV, MLocal.cells]
theorem MLocal.c2 (x : MLocal) : ldV false 1 x.cells 2 = some (.str x.type.name) := by simp [ldV, MLocal.cells]
theorem MLocal.c3 (x : MLocal) : ldV false 1 x.cells 3 = some (encL cI x.type.regions) := by simp [ldV, MLocal.cells]
theorem MLocal.c4 (x : MLocal) : ldV false 1 x.cells 4 = some (encL RT.cells x.type.elem) := by simp [ldV, MLocal.cells]
theorem MLocal.c5 (x : MLocal) : ldV false 1 x.cells 5 = some (.bool x.param) := by simp [ldV, MLocal.cells]
theorem MLocal.call (x : MLocal) : ldV true 6 x.cells 0 = some (.agg x.cells) := by simp only [ldV, if_true, Nat.zero_add, MLocal.len, Nat.le_refl, List.drop_zero]; rw [List.take_of_length_le (by rw [MLocal.len]; exact Nat.le_refl _)]
theorem MLocal.snapc (x : MLocal) (H : Heap) (d : Nat) : x.cells.map (snap H (d + 1)) = x.cells := by simp [MLocal.cells, snap, encL]
theorem MLocal.sokc (x : MLocal) (H : Heap) (d : Nat) : x.cells.all (sok H (d + 1)) = true := by simp [MLocal.cells, sok, encL]
theorem MLocal.onec (x : MLocal) : x.cells.all V.one = true := by simp [MLocal.cells, V.one, encL]
theorem MLocal.imvc (x : MLocal) (d : Nat) : x.cells.all (imV (d + 1)) = true := by simp [MLocal.cells, imV, encL]
theorem Mir.c0 (x : Mir) : ldV false 1 x.cells 0 = some (.int .i64 x.at') := by simp [ldV, Mir.cells]
theorem Mir.c1 (x : Mir) : ldV false 1 x.cells 1 = some (.int .i64 x.free) := by simp [ldV, Mir.cells]
theorem Mir.c2 (x : Mir) : ldV false 1 x.cells 2 = some (.int .i64 x.regions) := by simp [ldV, Mir.cells]
theorem Mir.c3 (x : Mir) : ldV false 1 x.cells 3 = some (encL (fun k : List Int => k.flatMap cI) x.known) := by simp [ldV, Mir.cells]
theorem Mir.c4 (x : Mir) : ldV false 1 x.cells 4 = some (encL MLocal.cells x.locals) := by simp [ldV, Mir.cells]
theorem Mir.c5 (x : Mir) : ldV false 1 x.cells 5 = some (encL MInst.cells x.code) := by simp [ldV, Mir.cells]
theorem Mir.call (x : Mir) : ldV true 6 x.cells 0 = some (.agg x.cells) := by simp only [ldV, if_true, Nat.zero_add, Mir.len, Nat.le_refl, List.drop_zero]; rw [List.take_of_length_le (by rw [Mir.len]; exact Nat.le_refl _)]
theorem Mir.snapc (x : Mir) (H : Heap) (d : Nat) : x.cells.map (snap H (d + 1)) = x.cells := by simp [Mir.cells, snap, encL]
theorem Mir.sokc (x : Mir) (H : Heap) (d : Nat) : x.cells.all (sok H (d + 1)) = true := by simp [Mir.cells, sok, encL]
theorem Mir.onec (x : Mir) : x.cells.all V.one = true := by simp [Mir.cells, V.one, encL]
theorem Mir.imvc (x : Mir) (d : Nat) : x.cells.all (imV (d + 1)) = true := by simp [Mir.cells, imV, encL]

theorem ld_flat {α : Type} {f : α → List V} {s : Nat} (hf : ∀ x, (f x).length = s) {l : List α} {i j n : Nat} {agg : Bool} (h : i < l.length) (hj : j + n ≤ s) (hn : 0 < n) : ldV agg n (l.flatMap f) (i * s + j) = ldV agg n (f l[i]) j := by
  unfold ldV
  cases agg with
  | false => simp only [Bool.false_eq_true, if_false]; exact flat_cell hf l i j h (by omega)
  | true =>
    have hm : i * s + s ≤ l.length * s := by
      have := Nat.mul_le_mul_right s (show i + 1 ≤ l.length by omega)
      rw [Nat.add_mul] at this; omega
    simp only [if_true]
    rw [if_pos (by rw [flat_len hf]; omega), if_pos (by rw [hf]; exact hj), ← flat_rec hf l i h, ← List.drop_drop, List.drop_take, List.take_take, Nat.min_eq_left (by omega)]

theorem ld_flat0 {α : Type} {f : α → List V} {s : Nat} (hf : ∀ x, (f x).length = s) {l : List α} {i n : Nat} {agg : Bool} (h : i < l.length) (hj : n ≤ s) (hn : 0 < n) : ldV agg n (l.flatMap f) (i * s) = ldV agg n (f l[i]) 0 :=
  ld_flat hf (j := 0) h (by omega) hn

end Go.Lg

set_option linter.unusedSimpArgs false
set_option linter.unusedVariables false
namespace Go.Lg
open Go Go.RowKit

theorem ls_len (l : List ByteArray) : (l.flatMap cS).length = l.length := by rw [flat_len cS_len, Nat.mul_one]
theorem ls_snap (H : Heap) (d : Nat) (l : List ByteArray) : (l.flatMap cS).map (snap H (d + 1)) = l.flatMap cS := by
  induction l with
  | nil => rfl
  | cons x r ih => rw [List.flatMap_cons, List.map_append, ih]; rfl
theorem ls_sok (H : Heap) (d : Nat) (l : List ByteArray) : (l.flatMap cS).all (sok H (d + 1)) = true := by
  induction l with
  | nil => rfl
  | cons x r ih => rw [List.flatMap_cons, List.all_append, ih]; rfl
theorem ls_one (l : List ByteArray) : (l.flatMap cS).all V.one = true := by
  induction l with
  | nil => rfl
  | cons x r ih => rw [List.flatMap_cons, List.all_append, ih]; rfl
theorem ls_imv (d : Nat) (l : List ByteArray) : (l.flatMap cS).all (imV d) = true := by
  induction l with
  | nil => rfl
  | cons x r ih => rw [List.flatMap_cons, List.all_append, ih]; cases d <;> rfl
theorem ls_take {l : List ByteArray} {n : Nat} (h : l.length ≤ n) : (l.flatMap cS).take n = l.flatMap cS := List.take_of_length_le (by rw [ls_len]; exact h)
theorem ls_app (l : List ByteArray) (x : ByteArray) : l.flatMap cS ++ [.str x] = (l ++ [x]).flatMap cS := by rw [List.flatMap_append]; rfl
end Go.Lg

set_option linter.unusedSimpArgs false
set_option linter.unusedVariables false
namespace Go.Lg
open Go Go.RowKit

section
variable {α : Type} (f : α → List V)

variable {f} {H : Heap} {U : Key → Prop} {K : (Key → Prop) → Prop} {esz : Nat}

end

end Go.Lg

set_option linter.unusedSimpArgs false
set_option linter.unusedVariables false
namespace Go.Lg
open Go Go.RowKit

end Go.Lg

set_option linter.unusedSimpArgs false
set_option linter.unusedVariables false
namespace Go.Lg
open Go Go.RowKit

section
variable {α : Type} {f : α → List V} {H : Heap} {U : Key → Prop} {K : (Key → Prop) → Prop} {esz : Nat}

end

section
variable {P : Program}
end
end Go.Lg

set_option linter.unusedSimpArgs false
set_option linter.unusedVariables false
namespace Go.Lg
open Go Go.RowKit

theorem mapV_at (d : Nat) : ∀ (es : List (V × Nat × List V)) (i j : Nat) (h : j < es.length), (mapV d i es)[j]? = some (es[j].1, .msl (4398046511104 + d, i + j) 0 0 es[j].2.1)
  | r :: rs, i, 0, _ => rfl
  | r :: rs, i, j + 1, h => by
    simp only [mapV, List.getElem?_cons_succ]
    rw [mapV_at d rs (i + 1) j (by simpa using h), show i + 1 + j = i + (j + 1) by omega]; rfl
/-- Where a key stands. -/
def ixK (k : V) : List (V × Nat × List V) → Option Nat
  | [] => none
  | e :: r => if eqK k e.1 then some 0 else (ixK k r).map (· + 1)
theorem ixK_lt {k : V} : ∀ {es : List (V × Nat × List V)} {j : Nat}, ixK k es = some j → ∃ h : j < es.length, eqK k es[j].1 = true
  | e :: r, j, h => by
    simp only [ixK] at h
    split at h
    · rename_i he; cases h; exact ⟨by simp, he⟩
    · rw [Option.map_eq_some_iff] at h
      obtain ⟨a, ha, rfl⟩ := h
      obtain ⟨h1, h2⟩ := ixK_lt ha
      exact ⟨by simpa using h1, by simpa using h2⟩
theorem find_mapV {d : Nat} {k : V} : ∀ (es : List (V × Nat × List V)) (i : Nat), findK k (mapV d i es) = (ixK k es).map fun j => (j, .msl (4398046511104 + d, i + j) 0 0 (es.getD j (k, 0, [])).2.1)
  | [], _ => rfl
  | e :: r, i => by
    simp only [mapV, findK, ixK]
    split
    · rfl
    · rw [find_mapV r (i + 1)]
      cases ixK k r with
      | none => rfl
      | some j => simp only [Option.map_some, List.getD_cons_succ, show i + 1 + j = i + (j + 1) by omega]
theorem findK_set {k v : V} (hk : eqK k k = true) : ∀ {es : List (V × V)} {j : Nat} {u : V}, findK k es = some (j, u) → findK k (es.set j (k, v)) = some (j, v)
  | e :: r, j, u, h => by
    simp only [findK] at h
    split at h
    · cases h; simp only [List.set_cons_zero, findK, hk, if_true]
    · rename_i he
      rw [Option.map_eq_some_iff] at h
      obtain ⟨⟨a, b⟩, ha, hb⟩ := h
      cases hb
      simp only [List.set_cons_succ, findK]
      rw [if_neg he, findK_set hk ha]; rfl
theorem findK_app {k v : V} (hk : eqK k k = true) : ∀ {es : List (V × V)}, findK k es = none → findK k (es ++ [(k, v)]) = some (es.length, v)
  | [], _ => by simp only [List.nil_append, findK, hk, if_true]; rfl
  | e :: r, h => by
    simp only [findK] at h
    split at h
    · cases h
    · rename_i he
      rw [Option.map_eq_none_iff] at h
      simp only [List.cons_append, findK]
      rw [if_neg he, findK_app hk h]; rfl
theorem setK_some {k v u : V} {es : List (V × V)} {j : Nat} (h : findK k es = some (j, u)) : setK es k v = es.set j (k, v) := by simp only [setK, h]
theorem setK_no {k v : V} {es : List (V × V)} (h : findK k es = none) : setK es k v = es ++ [(k, v)] := by simp only [setK, h]
theorem setK_set {k v v' u : V} (hk : eqK k k = true) {es : List (V × V)} {j : Nat} (h : findK k es = some (j, u)) : setK (es.set j (k, v)) k v' = es.set j (k, v') := by
  rw [setK_some (findK_set hk h), List.set_set]
theorem setK_app {k v v' : V} (hk : eqK k k = true) {es : List (V × V)} (h : findK k es = none) : setK (es ++ [(k, v)]) k v' = es ++ [(k, v')] := by
  rw [setK_some (findK_app hk h)]
  simp
theorem mapV_keys {d : Nat} {kt : KT} : ∀ {es : List (V × Nat × List V)} {i : Nat}, (mapV d i es).all (fun e => keyV kt e.1) = es.all fun e => keyV kt e.1
  | [], _ => rfl
  | e :: r, i => by simp only [mapV, List.all_cons, mapV_keys (es := r)]
theorem set_all {p : V × V → Bool} {es : List (V × V)} {j : Nat} {x : V × V} (h : es.all p = true) (hx : p x = true) : (es.set j x).all p = true := by
  rw [List.all_eq_true] at *
  intro y hy
  rcases List.mem_or_eq_of_mem_set hy with h1 | rfl
  · exact h y h1
  · exact hx

section
variable {H : Heap} {esz : Nat} {U : Key → Prop} {K : (Key → Prop) → Prop}
/-- The same map. -/
theorem mapR_of {d : Nat} {es : List (V × Nat × List V)} {M : List (V × V)} {k : Key} (κ : Nat → Option Key) (hk : H k = some (.map M)) (hl : M.length = es.length) (hP : k.1 < PK) (hU : ¬ U k) (him : ∀ e ∈ es, imV 8 e.1 = true ∧ e.2.2.all (imV 8) = true)
    (hM : ∀ (i : Nat) (h : i < es.length), ∃ k' g, M[i]? = some (es[i].1, .msl k' g 0 es[i].2.1) ∧ H k' = some (.row g esz es[i].2.2) ∧ k' ≠ k ∧ ¬ U k' ∧ k'.1 < PK ∧ κ i = some k')
    (hinj : ∀ i j k', κ i = some k' → κ j = some k' → i = j) (hout : ∀ i, es.length ≤ i → κ i = none) (hK : K fun k' => (k' = k ∨ ∃ i, κ i = some k') ∨ U k') : mapRAt H esz es U K (.mm k) := by
  simp only [mapRAt, hk]
  refine ⟨⟨hl, fun i p e h1 h2 => ?_, hU, hP⟩, κ, fun i e he => ?_, hinj, hout, hK⟩
  · obtain ⟨hi, rfl⟩ := List.getElem?_eq_some_iff.1 h2
    obtain ⟨k', g, a1, _⟩ := hM i hi
    rw [a1] at h1; cases h1
    exact ⟨rfl, (him _ (List.getElem_mem hi)).1⟩
  · obtain ⟨hi, rfl⟩ := List.getElem?_eq_some_iff.1 he
    obtain ⟨k', g, a1, a2, a3, a4, a5, a6⟩ := hM i hi
    rw [a1]
    exact ⟨_, a2, rfl, rfl, rfl, (him _ (List.getElem_mem hi)).2, fun h => h.elim a3 a4, a5, a6⟩
/-- One entry turned. -/
theorem mapR_set {d j g n' : Nat} {es : List (V × Nat × List V)} {cs' : List V} (hj : j < es.length) (hk : H (2199023255552 + d, 0) = some (.map ((mapV d 0 es).set j (es[j].1, .msl (4398046511104 + d, j) g 0 n'))))
    (hr : H (4398046511104 + d, j) = some (.row g esz cs')) (ho : ∀ (i : Nat) (h : i < es.length), i ≠ j → H (4398046511104 + d, i) = some (.row 0 esz es[i].2.2))
    (him : ∀ e ∈ es, imV 8 e.1 = true ∧ e.2.2.all (imV 8) = true) (hcs : cs'.all (imV 8) = true) (hd : d < 1000000) (hU : ¬ U (2199023255552 + d, 0)) (hUi : ∀ i, i < es.length → ¬ U (4398046511104 + d, i))
    (hK : K fun k' => (k' = (2199023255552 + d, 0) ∨ ∃ i, (if i < es.length then some ((4398046511104 + d, i) : Key) else none) = some k') ∨ U k') : mapRAt H esz (es.set j (es[j].1, n', cs')) U K (.mm (2199023255552 + d, 0)) := by
  refine mapR_of (d := d) (fun i => if i < es.length then some ((4398046511104 + d, i) : Key) else none) hk (by rw [List.length_set, List.length_set, mapV_len]) (by show _ < PK; unfold PK; omega) hU (fun e he => ?_) (fun i hi => ?_) ?_ ?_ hK
  · rcases List.mem_or_eq_of_mem_set he with h1 | rfl
    · exact him e h1
    · exact ⟨(him _ (List.getElem_mem hj)).1, hcs⟩
  · have hi' : i < es.length := by rwa [List.length_set] at hi
    by_cases e : i = j
    · subst e
      refine ⟨(4398046511104 + d, i), g, ?_, ?_, ?_, hUi i hi', by show _ < PK; unfold PK; omega, if_pos hi'⟩
      · rw [List.getElem?_set_self (by rw [mapV_len]; exact hi')]; simp
      · simpa using hr
      · intro e; injection e with e; omega
    · refine ⟨(4398046511104 + d, i), 0, ?_, ?_, ?_, hUi i hi', by show _ < PK; unfold PK; omega, if_pos hi'⟩
      · rw [List.getElem?_set_ne (Ne.symm e), mapV_at d es 0 i hi', Nat.zero_add, List.getElem_set_ne (Ne.symm e)]
      · rw [List.getElem_set_ne (Ne.symm e)]; exact ho i hi' e
      · intro e; injection e with e; omega
  · intro i j k' h1 h2
    split at h1
    · split at h2
      · cases h1; cases h2; rfl
      · cases h2
    · cases h1
  · intro i hi; rw [List.length_set] at hi; exact if_neg (by omega)
/-- One entry more. -/
theorem mapR_snoc {d g n' : Nat} {es : List (V × Nat × List V)} {key : V} {k2 : Key} {cs' : List V} (hk : H (2199023255552 + d, 0) = some (.map (mapV d 0 es ++ [(key, .msl k2 g 0 n')]))) (hr : H k2 = some (.row g esz cs')) (hk2 : k2.1 < 2199023255552)
    (ho : ∀ (i : Nat) (h : i < es.length), H (4398046511104 + d, i) = some (.row 0 esz es[i].2.2))
    (him : ∀ e ∈ es, imV 8 e.1 = true ∧ e.2.2.all (imV 8) = true) (hkey : imV 8 key = true) (hcs : cs'.all (imV 8) = true) (hd : d < 1000000) (hU : ¬ U (2199023255552 + d, 0)) (hUi : ∀ i, i < es.length → ¬ U (4398046511104 + d, i)) (hU2 : ¬ U k2)
    (hK : K fun k' => (k' = (2199023255552 + d, 0) ∨ ∃ i, (if i = es.length then some k2 else if i < es.length then some ((4398046511104 + d, i) : Key) else none) = some k') ∨ U k') : mapRAt H esz (es ++ [(key, n', cs')]) U K (.mm (2199023255552 + d, 0)) := by
  refine mapR_of (d := d) (fun i => if i = es.length then some k2 else if i < es.length then some ((4398046511104 + d, i) : Key) else none) hk (by simp [mapV_len]) (by show _ < PK; unfold PK; omega) hU (fun e he => ?_) (fun i hi => ?_) ?_ ?_ hK
  · rcases List.mem_append.1 he with h1 | h1
    · exact him e h1
    · rw [List.mem_singleton.1 h1]; exact ⟨hkey, hcs⟩
  · rw [List.length_append, List.length_singleton] at hi
    by_cases e : i = es.length
    · subst e
      refine ⟨k2, g, ?_, ?_, ?_, hU2, by unfold PK; omega, if_pos rfl⟩
      · rw [List.getElem?_append_right (by rw [mapV_len]; exact Nat.le_refl _), mapV_len]; simp
      · simpa using hr
      · rintro rfl; simp at hk2; omega
    · have hi' : i < es.length := by omega
      refine ⟨(4398046511104 + d, i), 0, ?_, ?_, ?_, hUi i hi', by show _ < PK; unfold PK; omega, by rw [if_neg e, if_pos hi']⟩
      · rw [List.getElem?_append_left (by rw [mapV_len]; exact hi'), mapV_at d es 0 i hi', Nat.zero_add, List.getElem_append_left hi']
      · rw [List.getElem_append_left hi']; exact ho i hi'
      · intro e; injection e with e; omega
  · intro i j k' h1 h2
    split at h1
    · cases h1
      split at h2
      · omega
      · split at h2
        · cases h2; simp at hk2; omega
        · cases h2
    · split at h1
      · cases h1
        split at h2
        · cases h2; simp at hk2; omega
        · split at h2
          · cases h2; rfl
          · cases h2
      · cases h1
  · intro i hi
    rw [List.length_append, List.length_singleton] at hi
    rw [if_neg (by omega), if_neg (by omega)]
end
end Go.Lg

set_option linter.unusedSimpArgs false
set_option linter.unusedVariables false
namespace Go.Lg
open Go Go.RowKit
abbrev Lif := ByteArray × List ByteArray
def edgeL (l : List Lif) (x y : ByteArray) : Prop := ∃ p ∈ l, p.1 = x ∧ y ∈ p.2
def hereL (l : List Lif) (x : ByteArray) : Prop := ∃ p ∈ l, p.1 = x
instance (l : List Lif) (x : ByteArray) : Decidable (hereL l x) := by unfold hereL; infer_instance
inductive RchL (l : List Lif) (a : ByteArray) : ByteArray → Prop
  | refl : RchL l a a
  | step {x y : ByteArray} : RchL l a x → edgeL l x y → RchL l a y
def OverL (l : List Lif) (a b : ByteArray) : Prop := hereL l a ∧ hereL l b ∧ RchL l a b
theorem RchL.trans {l : List Lif} {a b c : ByteArray} (h : RchL l a b) (h2 : RchL l b c) : RchL l a c := by
  induction h2 with
  | refl => exact h
  | step _ e ih => exact .step ih e
theorem OverL.refl {l : List Lif} {p : Lif} (h : p ∈ l) : OverL l p.1 p.1 := ⟨⟨p, h, rfl⟩, ⟨p, h, rfl⟩, .refl⟩
theorem OverL.trans {l : List Lif} {a b c : ByteArray} (h : OverL l a b) (h2 : OverL l b c) : OverL l a c := ⟨h.1, h2.2.1, h.2.2.trans h2.2.2⟩
open Classical in
noncomputable def overB (l : List Lif) (a b : ByteArray) : Bool := decide (OverL l a b)
theorem overB_true {l : List Lif} {a b : ByteArray} : overB l a b = true ↔ OverL l a b := by simp [overB]
theorem overB_eq {l : List Lif} {a b : ByteArray} {q : Bool} (h : q = true ↔ OverL l a b) : q = overB l a b := by
  rw [Bool.eq_iff_iff, h, overB_true]
theorem snoc_ind {α : Type} {P : List α → Prop} (h0 : P []) (h1 : ∀ l p, P l → P (l ++ [p])) : ∀ l, P l := by
  intro l
  have h : ∀ r : List α, P r.reverse := by
    intro r
    induction r with
    | nil => exact h0
    | cons x r ih => rw [List.reverse_cons]; exact h1 _ _ ih
  have := h l.reverse
  rwa [List.reverse_reverse] at this
/-! The lists of names. -/
def ixO (s : ByteArray) : List Lif → Option Nat
  | [] => none
  | p :: r => if s = p.1 then some 0 else (ixO s r).map (· + 1)
def lkO (es : List Lif) (s : ByteArray) : List ByteArray := match ixO s es with
  | some j => (es.getD j (s, [])).2
  | none => []
def addO (es : List Lif) (s : ByteArray) (l : List ByteArray) : List Lif := match ixO s es with
  | some j => es.set j (s, (es.getD j (s, [])).2 ++ l)
  | none => es ++ [(s, l)]
def ovS (l : List Lif) : List Lif := l.foldl (fun es p => addO es p.1 (p.2 ++ [p.1])) []
theorem lkO_cons (p : Lif) (r : List Lif) (s : ByteArray) : lkO (p :: r) s = if s = p.1 then p.2 else lkO r s := by
  simp only [lkO, ixO]
  split
  · rename_i j h
    split at h
    · rename_i e; cases h; rw [if_pos e]; rfl
    · rename_i e
      rw [Option.map_eq_some_iff] at h
      obtain ⟨i, hi, rfl⟩ := h
      rw [if_neg e, hi]; rfl
  · rename_i h
    split at h
    · cases h
    · rename_i e
      rw [Option.map_eq_none_iff] at h
      rw [if_neg e, h]
theorem addO_cons (p : Lif) (r : List Lif) (s : ByteArray) (l : List ByteArray) : addO (p :: r) s l = if s = p.1 then (s, p.2 ++ l) :: r else p :: addO r s l := by
  simp only [addO, ixO]
  by_cases e : s = p.1
  · rw [if_pos e, if_pos e]; rfl
  · rw [if_neg e, if_neg e]
    cases ixO s r with
    | none => rfl
    | some j => rfl
theorem lk_add (s x : ByteArray) (l : List ByteArray) : ∀ es : List Lif, lkO (addO es s l) x = if x = s then lkO es s ++ l else lkO es x
  | [] => by
    show lkO [(s, l)] x = _
    rw [lkO_cons]
    rfl
  | p :: r => by
    rw [addO_cons]
    by_cases e : s = p.1
    · rw [if_pos e, lkO_cons, lkO_cons, lkO_cons]
      by_cases ex : x = s
      · simp only [ex, if_true, if_pos e]
      · rw [if_neg ex, if_neg ex, if_neg (fun h => ex (h.trans e.symm))]
    · rw [if_neg e, lkO_cons, lkO_cons, lkO_cons, lk_add s x l r, if_neg e]
      by_cases ex : x = s
      · subst ex; simp only [if_true, if_neg e]
      · rw [if_neg ex, if_neg ex]
theorem len_addO (s : ByteArray) (l : List ByteArray) : ∀ es : List Lif, (addO es s l).length ≤ es.length + 1
  | [] => Nat.le_refl _
  | p :: r => by
    rw [addO_cons]
    split
    · simp
    · simp only [List.length_cons]; have := len_addO s l r; omega
theorem ov_snoc (l : List Lif) (p : Lif) : ovS (l ++ [p]) = addO (ovS l) p.1 (p.2 ++ [p.1]) := by rw [ovS, List.foldl_append]; rfl
theorem mem_lk : ∀ (l : List Lif) {x y : ByteArray}, y ∈ lkO (ovS l) x ↔ ∃ p ∈ l, p.1 = x ∧ (y ∈ p.2 ∨ y = x) := by
  refine snoc_ind ?_ ?_
  · intro x y; exact ⟨fun h => (by cases h), fun ⟨p, h, _⟩ => (by cases h)⟩
  · intro l p ih x y
    rw [ov_snoc, lk_add]
    constructor
    · intro h
      split at h
      · rename_i e; subst e
        rcases List.mem_append.1 h with h | h
        · obtain ⟨q, h1, h2⟩ := ih.1 h
          exact ⟨q, List.mem_append_left _ h1, h2⟩
        · refine ⟨p, by simp, rfl, ?_⟩
          rcases List.mem_append.1 h with h | h
          · exact .inl h
          · exact .inr (List.mem_singleton.1 h)
      · obtain ⟨q, h1, h2⟩ := ih.1 h
        exact ⟨q, List.mem_append_left _ h1, h2⟩
    · rintro ⟨q, hq, rfl, h⟩
      rcases List.mem_append.1 hq with hq | hq
      · have := ih.2 ⟨q, hq, rfl, h⟩
        split
        · rename_i e; rw [e] at this; exact List.mem_append_left _ this
        · exact this
      · rw [List.mem_singleton.1 hq] at h ⊢
        rw [if_pos rfl]
        refine List.mem_append_right _ ?_
        rcases h with h | h
        · exact List.mem_append_left _ h
        · rw [h]; simp
theorem here_lk {l : List Lif} {x : ByteArray} : hereL l x ↔ lkO (ovS l) x ≠ [] := by
  constructor
  · rintro ⟨p, hp, rfl⟩ e
    have : p.1 ∈ lkO (ovS l) p.1 := (mem_lk l).2 ⟨p, hp, rfl, .inr rfl⟩
    rw [e] at this; cases this
  · intro h
    obtain ⟨y, hy⟩ := List.exists_mem_of_ne_nil _ h
    obtain ⟨p, hp, e, _⟩ := (mem_lk l).1 hy
    exact ⟨p, hp, e⟩
theorem len_lk {m : Nat} : ∀ (l : List Lif), (∀ p ∈ l, p.2.length ≤ m) → ∀ x, (lkO (ovS l) x).length ≤ l.length * (m + 1) := by
  refine snoc_ind ?_ ?_
  · intro _ x; exact Nat.zero_le _
  · intro l p ih h x
    have h1 := ih (fun q hq => h q (List.mem_append_left _ hq))
    have h2 := h p (by simp)
    have e : (l ++ [p]).length * (m + 1) = l.length * (m + 1) + (m + 1) := by rw [List.length_append, List.length_singleton, Nat.add_mul, Nat.one_mul]
    rw [ov_snoc, lk_add, e]
    split
    · have := h1 p.1
      simp only [List.length_append, List.length_singleton]; omega
    · have := h1 x
      omega
theorem len_ov : ∀ l : List Lif, (ovS l).length ≤ l.length := by
  refine snoc_ind ?_ ?_
  · exact Nat.le_refl _
  · intro l p ih
    rw [ov_snoc, List.length_append, List.length_singleton]
    have := len_addO p.1 (p.2 ++ [p.1]) (ovS l)
    omega
/-! A list without doubles. -/
theorem nd_len {α : Type} [DecidableEq α] : ∀ {S T : List α}, S.Nodup → (∀ x ∈ S, x ∈ T) → S.length ≤ T.length
  | [], _, _, _ => Nat.zero_le _
  | x :: S, T, hn, hs => by
    obtain ⟨h1, h2⟩ := List.nodup_cons.1 hn
    have hx := hs x (List.mem_cons_self ..)
    have := nd_len (S := S) (T := T.erase x) h2 fun y hy => by
      refine (List.mem_erase_of_ne ?_).2 (hs y (List.mem_cons_of_mem _ hy))
      rintro rfl; exact h1 hy
    rw [List.length_erase_of_mem hx] at this
    have := List.length_pos_of_mem hx
    simp only [List.length_cons]; omega
def univL (l : List Lif) (a : ByteArray) : List ByteArray := a :: l.flatMap fun p => p.2 ++ [p.1]
theorem lk_univ {l : List Lif} {a x y : ByteArray} (h : y ∈ lkO (ovS l) x) : y ∈ univL l a := by
  obtain ⟨p, hp, e, h⟩ := (mem_lk l).1 h
  refine List.mem_cons_of_mem _ (List.mem_flatMap.2 ⟨p, hp, ?_⟩)
  rcases h with h | h
  · exact List.mem_append_left _ h
  · rw [h, ← e]; simp
/-- The first way: what is seen, what is left to do. -/
structure InvO (l : List Lif) (a : ByteArray) (S W : List ByteArray) : Prop where
  mem : a ∈ S
  nd : S.Nodup
  uni : ∀ x ∈ S, x ∈ univL l a
  sub : ∀ x ∈ W, x ∈ S
  rch : ∀ x ∈ S, RchL l a x
  shut : ∀ x ∈ S, x ∈ W ∨ ∀ y ∈ lkO (ovS l) x, y ∈ S
/-- The same, amid a name's. -/
structure InvI (l : List Lif) (a x : ByteArray) (k : Nat) (S W : List ByteArray) : Prop where
  mem : a ∈ S
  nd : S.Nodup
  uni : ∀ x ∈ S, x ∈ univL l a
  sub : ∀ x ∈ W, x ∈ S
  rch : ∀ x ∈ S, RchL l a x
  own : x ∈ S
  shut : ∀ z ∈ S, z = x ∨ z ∈ W ∨ ∀ y ∈ lkO (ovS l) z, y ∈ S
  done : ∀ y ∈ (lkO (ovS l) x).take k, y ∈ S
theorem InvO.start (l : List Lif) (a : ByteArray) : InvO l a [a] [a] :=
  ⟨by simp, by simp, fun x h => by rw [List.mem_singleton.1 h]; exact List.mem_cons_self .., fun x h => h, fun x h => by rw [List.mem_singleton.1 h]; exact .refl, fun x h => .inl h⟩
theorem InvO.len {l : List Lif} {a : ByteArray} {S W : List ByteArray} (h : InvO l a S W) : S.length ≤ (univL l a).length := nd_len h.nd h.uni
theorem InvI.len {l : List Lif} {a x : ByteArray} {k : Nat} {S W : List ByteArray} (h : InvI l a x k S W) : S.length ≤ (univL l a).length := nd_len h.nd h.uni
theorem InvO.pop {l : List Lif} {a x : ByteArray} {S W : List ByteArray} (h : InvO l a S (W ++ [x])) : InvI l a x 0 S W :=
  ⟨h.mem, h.nd, h.uni, fun y hy => h.sub y (List.mem_append_left _ hy), h.rch, h.sub x (by simp), fun z hz => by
    rcases h.shut z hz with h1 | h1
    · rcases List.mem_append.1 h1 with h1 | h1
      · exact .inr (.inl h1)
      · exact .inl (List.mem_singleton.1 h1)
    · exact .inr (.inr h1), fun y hy => by simp at hy⟩
theorem InvI.old {l : List Lif} {a x y : ByteArray} {k : Nat} {S W : List ByteArray} (h : InvI l a x k S W) (hk : (lkO (ovS l) x)[k]? = some y) (hy : y ∈ S) : InvI l a x (k + 1) S W :=
  { h with
    done := fun z hz => by
      rw [List.take_add_one, hk] at hz
      rcases List.mem_append.1 hz with hz | hz
      · exact h.done z hz
      · simp at hz; rw [hz]; exact hy }
theorem InvI.new {l : List Lif} {a x y : ByteArray} {k : Nat} {S W : List ByteArray} (h : InvI l a x k S W) (hk : (lkO (ovS l) x)[k]? = some y) (hy : y ∉ S) : InvI l a x (k + 1) (S ++ [y]) (W ++ [y]) := by
  have hm := List.mem_of_getElem? hk
  have hr : RchL l a y := by
    obtain ⟨p, hp, e, h1⟩ := (mem_lk l).1 hm
    rcases h1 with h1 | h1
    · exact .step (h.rch x h.own) ⟨p, hp, e, h1⟩
    · rw [h1] at hy; exact absurd h.own hy
  refine ⟨List.mem_append_left _ h.mem, ?_, fun z hz => ?_, fun z hz => ?_, fun z hz => ?_, List.mem_append_left _ h.own, fun z hz => ?_, fun z hz => ?_⟩
  · rw [List.nodup_append]
    exact ⟨h.nd, by simp, fun u hu v hv => by rw [List.mem_singleton.1 hv]; rintro rfl; exact hy hu⟩
  · rcases List.mem_append.1 hz with hz | hz
    · exact h.uni z hz
    · rw [List.mem_singleton.1 hz]; exact lk_univ hm
  · rcases List.mem_append.1 hz with hz | hz
    · exact List.mem_append_left _ (h.sub z hz)
    · exact List.mem_append_right _ hz
  · rcases List.mem_append.1 hz with hz | hz
    · exact h.rch z hz
    · rw [List.mem_singleton.1 hz]; exact hr
  · rcases List.mem_append.1 hz with hz | hz
    · rcases h.shut z hz with h1 | h1 | h1
      · exact .inl h1
      · exact .inr (.inl (List.mem_append_left _ h1))
      · exact .inr (.inr fun u hu => List.mem_append_left _ (h1 u hu))
    · exact .inr (.inl (List.mem_append_right _ hz))
  · rw [List.take_add_one, hk] at hz
    rcases List.mem_append.1 hz with hz | hz
    · exact List.mem_append_left _ (h.done z hz)
    · simp at hz; rw [hz]; simp
theorem InvI.end {l : List Lif} {a x : ByteArray} {k : Nat} {S W : List ByteArray} (h : InvI l a x k S W) (hk : (lkO (ovS l) x).length ≤ k) : InvO l a S W :=
  ⟨h.mem, h.nd, h.uni, h.sub, h.rch, fun z hz => by
    rcases h.shut z hz with h1 | h1
    · right
      subst h1
      intro y hy
      exact h.done y (by rw [List.take_of_length_le hk]; exact hy)
    · exact h1⟩
theorem InvO.end {l : List Lif} {a b : ByteArray} {S : List ByteArray} (h : InvO l a S []) : b ∈ S ↔ RchL l a b := by
  refine ⟨h.rch b, fun hb => ?_⟩
  induction hb with
  | refl => exact h.mem
  | step _ e ih =>
    rcases h.shut _ ih with h1 | h1
    · cases h1
    · obtain ⟨p, hp, e1, e2⟩ := e
      exact h1 _ ((mem_lk l).2 ⟨p, hp, e1, .inl e2⟩)
/-- The document's way. -/
structure InvR (l : List Lif) (a : ByteArray) (G : List ByteArray) (i k j : Nat) : Prop where
  mem : a ∈ G
  nd : G.Nodup
  here : ∀ x ∈ G, hereL l x
  rch : ∀ x ∈ G, RchL l a x
  done : ∀ u, u < i → ∀ x, G[u]? = some x → ∀ y, edgeL l x y → hereL l y → y ∈ G
  doneK : ∀ u, u < k → ∀ p, l[u]? = some p → ∀ x, G[i]? = some x → p.1 = x → ∀ y ∈ p.2, hereL l y → y ∈ G
  doneJ : ∀ p, l[k]? = some p → ∀ x, G[i]? = some x → p.1 = x → ∀ y ∈ p.2.take j, hereL l y → y ∈ G
theorem InvR.start {l : List Lif} {a : ByteArray} (h : hereL l a) : InvR l a [a] 0 0 0 :=
  ⟨by simp, by simp, fun x hx => by rw [List.mem_singleton.1 hx]; exact h, fun x hx => by rw [List.mem_singleton.1 hx]; exact .refl, fun u hu => by omega, fun u hu => by omega, fun p hp x hx e y hy => by simp at hy⟩
theorem InvR.len {l : List Lif} {a : ByteArray} {G : List ByteArray} {i k j : Nat} (h : InvR l a G i k j) : G.length ≤ l.length := by
  have := nd_len (T := l.map (·.1)) h.nd fun x hx => by
    obtain ⟨p, hp, e⟩ := h.here x hx
    exact List.mem_map.2 ⟨p, hp, e⟩
  rwa [List.length_map] at this
theorem InvR.nextJ {l : List Lif} {a y : ByteArray} {G : List ByteArray} {i k j : Nat} {p : Lif} (h : InvR l a G i k j) (hp : l[k]? = some p) (hy : p.2[j]? = some y) (hd : hereL l y → y ∈ G) : InvR l a G i k (j + 1) :=
  { h with
    doneJ := fun q hq x hx e z hz hz2 => by
      rw [hp] at hq; cases hq
      rw [List.take_add_one, hy] at hz
      rcases List.mem_append.1 hz with hz | hz
      · exact h.doneJ p hp x hx e z hz hz2
      · simp at hz; subst hz; exact hd hz2 }
theorem get_app {α : Type} {G : List α} {y x : α} {i : Nat} (hi : i < G.length) (h : (G ++ [y])[i]? = some x) : G[i]? = some x := by rwa [List.getElem?_append_left hi] at h
theorem InvR.add {l : List Lif} {a y x : ByteArray} {G : List ByteArray} {i k j : Nat} {p : Lif} (h : InvR l a G i k j) (hi : G[i]? = some x) (hp : l[k]? = some p) (e : p.1 = x) (hy : p.2[j]? = some y) (hh : hereL l y) (hn : y ∉ G) : InvR l a (G ++ [y]) i k (j + 1) := by
  have hl := (List.getElem?_eq_some_iff.1 hi).1
  have hr : RchL l a y := .step (h.rch x (List.mem_of_getElem? hi)) ⟨p, List.mem_of_getElem? hp, e, List.mem_of_getElem? hy⟩
  refine ⟨List.mem_append_left _ h.mem, ?_, fun z hz => ?_, fun z hz => ?_, fun u hu z hz w e1 e2 => ?_, fun u hu q hq z hz e1 w hw e2 => ?_, fun q hq z hz e1 w hw e2 => ?_⟩
  · rw [List.nodup_append]
    exact ⟨h.nd, by simp, fun u hu v hv => by rw [List.mem_singleton.1 hv]; rintro rfl; exact hn hu⟩
  · rcases List.mem_append.1 hz with hz | hz
    · exact h.here z hz
    · rw [List.mem_singleton.1 hz]; exact hh
  · rcases List.mem_append.1 hz with hz | hz
    · exact h.rch z hz
    · rw [List.mem_singleton.1 hz]; exact hr
  · exact List.mem_append_left _ (h.done u hu z (get_app (by omega) hz) w e1 e2)
  · exact List.mem_append_left _ (h.doneK u hu q hq z (get_app hl hz) e1 w hw e2)
  · rw [hp] at hq; cases hq
    rw [List.take_add_one, hy] at hw
    rcases List.mem_append.1 hw with hw | hw
    · exact List.mem_append_left _ (h.doneJ p hp z (get_app hl hz) e1 w hw e2)
    · simp at hw; rw [hw]; simp
theorem InvR.nextK {l : List Lif} {a : ByteArray} {G : List ByteArray} {i k j : Nat} {p : Lif} (h : InvR l a G i k j) (hp : l[k]? = some p) (hj : p.2.length ≤ j ∨ G[i]? ≠ some p.1) : InvR l a G i (k + 1) 0 :=
  { h with
    doneK := fun u hu q hq x hx e y hy hy2 => by
      rcases Nat.lt_or_ge u k with hu' | hu'
      · exact h.doneK u hu' q hq x hx e y hy hy2
      · obtain rfl : u = k := by omega
        rw [hp] at hq; cases hq
        rcases hj with hj | hj
        · exact h.doneJ p hp x hx e y (by rw [List.take_of_length_le hj]; exact hy) hy2
        · exact absurd (e ▸ hx) hj
    doneJ := fun q hq x hx e y hy => by simp at hy }
theorem InvR.nextI {l : List Lif} {a : ByteArray} {G : List ByteArray} {i k j : Nat} (h : InvR l a G i k j) (hk : l.length ≤ k) : InvR l a G (i + 1) 0 0 :=
  { h with
    done := fun u hu x hx y he hh => by
      rcases Nat.lt_or_ge u i with hu' | hu'
      · exact h.done u hu' x hx y he hh
      · obtain rfl : u = i := by omega
        obtain ⟨p, hp, e, hy⟩ := he
        obtain ⟨v, hv⟩ := List.getElem?_of_mem hp
        exact h.doneK v (by have := (List.getElem?_eq_some_iff.1 hv).1; omega) p hv x hx e y hy hh
    doneK := fun u hu => by omega
    doneJ := fun q hq x hx e y hy => by simp at hy }
theorem InvR.end {l : List Lif} {a b : ByteArray} {G : List ByteArray} {i k j : Nat} (h : InvR l a G i k j) (hi : G.length ≤ i) : b ∈ G ↔ hereL l b ∧ RchL l a b := by
  have key : ∀ b, RchL l a b → hereL l b → b ∈ G := by
    intro b hr
    induction hr with
    | refl => intro _; exact h.mem
    | step _ e ih =>
      intro hb
      obtain ⟨p, hp, e1, e2⟩ := e
      have hx := ih ⟨p, hp, e1⟩
      obtain ⟨u, hu⟩ := List.getElem?_of_mem hx
      exact h.done u (by have := (List.getElem?_eq_some_iff.1 hu).1; omega) _ hu _ ⟨p, hp, e1, e2⟩ hb
  exact ⟨fun hb => ⟨h.here b hb, h.rch b hb⟩, fun hb => key b hb.2 hb.1⟩
/-! As cells. -/
def enO (es : List Lif) : List (V × Nat × List V) := es.map fun p => (.str p.1, p.2.length, p.2.flatMap cS)
theorem eqK_str (s t : ByteArray) : eqK (.str s) (.str t) = decide (s = t) := by
  simp only [eqK]
  by_cases e : s = t
  · subst e; rw [bytes_refl, decide_eq_true rfl]
  · rw [decide_eq_false e]
    cases h : s == t with
    | false => rfl
    | true => exact absurd (bytes_eq h) e
theorem ix_en (s : ByteArray) : ∀ es : List Lif, ixK (.str s) (enO es) = ixO s es
  | [] => rfl
  | p :: r => by
    simp only [enO, List.map_cons, ixK, ixO, eqK_str]
    have := ix_en s r
    simp only [enO] at this
    rw [this]
    by_cases e : s = p.1 <;> simp [e]
def seE (S : List ByteArray) : List (V × V) := S.map fun s => (.str s, .int .i64 1)
theorem find_seE (y : ByteArray) : ∀ S : List ByteArray, (∃ j, findK (.str y) (seE S) = some (j, .int .i64 1) ∧ y ∈ S) ∨ (findK (.str y) (seE S) = none ∧ y ∉ S)
  | [] => .inr ⟨rfl, by simp⟩
  | s :: S => by
    simp only [seE, List.map_cons, findK, eqK_str]
    by_cases e : y = s
    · subst e; exact .inl ⟨0, by simp, by simp⟩
    · rcases find_seE y S with ⟨j, h1, h2⟩ | ⟨h1, h2⟩
      · refine .inl ⟨j + 1, ?_, List.mem_cons_of_mem _ h2⟩
        simp only [seE] at h1
        simp [e, h1]
      · refine .inr ⟨?_, by simp [e, h2]⟩
        simp only [seE] at h1
        simp [e, h1]
theorem seE_app (S : List ByteArray) (y : ByteArray) : seE S ++ [(.str y, .int .i64 1)] = seE (S ++ [y]) := by simp [seE]
end Go.Lg
