/-
  Slices of slices of numbers or bools of the call's own.
-/
import Derived.Test.YtobhpkagbmadlaaLgW
set_option linter.unusedSimpArgs false
set_option linter.unusedVariables false
namespace Go.Lg
open Go Go.RowKit

section
variable {α : Type} (f : α → List V)

def rsI (R : List (List α)) : List (Nat × List V) := R.map fun r => (r.length, r.flatMap f)
/-- Slices of slices that never turn. -/
def cL (r : List α) : List V := [encL f r]

theorem rsI_len (R : List (List α)) : (rsI f R).length = R.length := by simp [rsI]
theorem rsI_get {R : List (List α)} {t : Nat} (h : t < R.length) : (rsI f R)[t]? = some (R[t].length, R[t].flatMap f) := by simp [rsI, h]
theorem rsI_at {R : List (List α)} {t : Nat} (h : t < (rsI f R).length) : (rsI f R)[t] = ((R[t]'(by simpa [rsI] using h)).length, (R[t]'(by simpa [rsI] using h)).flatMap f) := by simp [rsI]
theorem cL_len (r : List α) : (cL f r).length = 1 := rfl

variable {f} {H : Heap} {U : Key → Prop} {K : (Key → Prop) → Prop} {esz : Nat}

theorem rowsAt_of {d : Nat} {R : List (List α)} {k : Key} {g : Nat} {cells : List V} (hk : H k = some (.row g 1 cells)) (hl : cells.length = R.length) (hU : ¬ U k) (hP : k.1 < PK)
    (κ : Nat → Option Key) (hrow : ∀ (i : Nat) (h : i < R.length), rowAt H esz (fun k' => k' = k ∨ U k') κ i (R[i].length, R[i].flatMap f) cells[i]?) (hinj : ∀ i j k, κ i = some k → κ j = some k → i = j)
    (hout : ∀ i, R.length ≤ i → κ i = none) (hK : K fun k' => (k' = k ∨ ∃ i, κ i = some k') ∨ U k') : rowsAt H esz (rsI f R) U K (.msl k g 0 R.length) := by
  simp only [rowsAt, hk]
  refine ⟨⟨by trivial, by trivial, (rsI_len f R).symm, by trivial, by rw [rsI_len]; exact hl, hU, hP⟩, κ, fun i r hr => ?_, hinj, fun i hi => hout i (by rw [rsI_len] at hi; exact hi), hK⟩
  have hi : i < R.length := by
    have := (List.getElem?_eq_some_iff.1 hr).1
    rwa [rsI_len] at this
  rw [rsI_get f hi] at hr
  cases hr
  exact hrow i hi

/-- All rows empty, just made. -/
theorem rowsAt_mk {n : Nat} {k : Key} {g : Nat} (hk : H k = some (.row g 1 (List.replicate n [V.e0]).flatten)) (hU : ¬ U k) (hP : k.1 < PK) (hK : K fun k' => (k' = k ∨ ∃ i : Nat, (none : Option Key) = some k') ∨ U k') :
    rowsAt H esz (rsI f (List.replicate n [])) U K (.msl k g 0 n) := by
  have hfl : (List.replicate n [V.e0]).flatten = List.replicate n V.e0 := by
    rw [List.flatten_replicate_singleton]
  rw [hfl] at hk
  have := rowsAt_of (d := 0) (f := f) (esz := esz) (K := K) (R := List.replicate n []) hk (by simp) hU hP (fun _ => none) (fun i h => by
    have h' : i < n := by simpa using h
    simp [List.getElem?_replicate, h', rowAt]) (fun i j k h => by cases h) (fun _ _ => rfl) hK
  simpa using this

/-- One row turned. -/
theorem rowsAt_set {n : Nat} {d t g : Nat} {R : List (List α)} {r : List α} (ht : t < R.length) (hk : H (2199023255552 + d, 0) = some (.row 0 1 (setCells (rowV d 0 (rsI f R)) t [.msl (4398046511104 + d, t) g 0 r.length])))
    (hr : H (4398046511104 + d, t) = some (.row g esz (r.flatMap f))) (ho : ∀ (i : Nat) (h : i < R.length), i ≠ t → H (4398046511104 + d, i) = some (.row 0 esz (R[i].flatMap f)))
    (him : ∀ r : List α, (r.flatMap f).all (imV 8) = true) (hd : d < 1000000) (hn : n = R.length) (hU : ¬ U (2199023255552 + d, 0)) (hUi : ∀ i, i < R.length → ¬ U (4398046511104 + d, i))
    (hK : K fun k' => (k' = (2199023255552 + d, 0) ∨ ∃ i, (if i < R.length then some ((4398046511104 + d, i) : Key) else none) = some k') ∨ U k') : rowsAt H esz (rsI f (R.set t r)) U K (.msl (2199023255552 + d, 0) 0 0 n) := by
  subst hn
  have hlen : (R.set t r).length = R.length := by simp
  have hrl : (rowV d 0 (rsI f R)).length = R.length := by rw [rowV_len, rsI_len]
  have hsl : (setCells (rowV d 0 (rsI f R)) t [V.msl (4398046511104 + d, t) g 0 r.length]).length = R.length := by rw [setCells_length (by rw [hrl]; simp; omega), hrl]
  have := rowsAt_of (d := d) (f := f) (esz := esz) (K := K) (U := U) (R := R.set t r) hk (by rw [hlen]; exact hsl) hU (by show _ < PK; unfold PK; omega) (fun i => if i < R.length then some ((4398046511104 + d, i) : Key) else none) ?_ ?_ ?_ ?_
  · rw [hlen] at this; exact this
  · intro i hi
    have hi' : i < R.length := by rw [hlen] at hi; exact hi
    have hnU : ¬ (((4398046511104 + d, i) : Key) = (2199023255552 + d, 0) ∨ U (4398046511104 + d, i)) := by
      rintro (e | e)
      · injection e with e; omega
      · exact hUi i hi' e
    have hP : ((4398046511104 + d, i) : Key).1 < PK := by show _ < PK; unfold PK; omega
    by_cases e : i = t
    · subst e
      have hc : (setCells (rowV d 0 (rsI f R)) i [V.msl (4398046511104 + d, i) g 0 r.length])[i]? = some (.msl (4398046511104 + d, i) g 0 r.length) := by
        rw [setCells, List.getElem?_append_right (by rw [List.length_take]; omega), List.length_take, Nat.min_eq_left (by omega), Nat.sub_self]; rfl
      rw [hc]
      have e2 : (R.set i r)[i] = r := by simp
      rw [e2]
      exact ⟨_, hr, rfl, rfl, rfl, him r, hnU, hP, by simp [hi']⟩
    · have hc : (setCells (rowV d 0 (rsI f R)) t [V.msl (4398046511104 + d, t) g 0 r.length])[i]? = some (.msl (4398046511104 + d, i) 0 0 (R[i]).length) := by
        have h0 := rowV_at d (rsI f R) 0 i (by rw [rsI_len]; exact hi')
        rw [Nat.zero_add, rsI_at] at h0
        rw [← h0, setCells]
        rcases Nat.lt_or_ge i t with h | h
        · rw [List.getElem?_append_left (by rw [List.length_take]; omega), List.getElem?_take, if_pos h]
        · rw [List.getElem?_append_right (by rw [List.length_take]; omega), List.length_take, Nat.min_eq_left (by omega), List.getElem?_append_right (by simp; omega), List.getElem?_drop]
          congr 1
          simp
          omega
      rw [hc]
      have e2 : (R.set t r)[i] = R[i] := by simp [Ne.symm e]
      rw [e2]
      exact ⟨_, ho i hi' e, rfl, rfl, rfl, him _, hnU, hP, by simp [hi']⟩
  · intro i j k h1 h2
    by_cases a : i < R.length
    · by_cases b : j < R.length
      · simp only [a, b, if_true, Option.some.injEq] at h1 h2
        rw [← h2] at h1
        injection h1
      · simp [b] at h2
    · simp [a] at h1
  · intro i hi
    rw [hlen] at hi
    rw [if_neg (by omega)]
  · exact hK

/-- As they were. -/
theorem rowsAt_same {n : Nat} {d : Nat} {R : List (List α)} (hk : H (2199023255552 + d, 0) = some (.row 0 1 (rowV d 0 (rsI f R)))) (ho : ∀ (i : Nat) (h : i < R.length), H (4398046511104 + d, i) = some (.row 0 esz (R[i].flatMap f)))
    (him : ∀ r : List α, (r.flatMap f).all (imV 8) = true) (hd : d < 1000000) (hn : n = R.length) (hU : ¬ U (2199023255552 + d, 0)) (hUi : ∀ i, i < R.length → ¬ U (4398046511104 + d, i))
    (hK : K fun k' => (k' = (2199023255552 + d, 0) ∨ ∃ i, (if i < R.length then some ((4398046511104 + d, i) : Key) else none) = some k') ∨ U k') : rowsAt H esz (rsI f R) U K (.msl (2199023255552 + d, 0) 0 0 n) := by
  subst hn
  refine rowsAt_of (d := d) hk (by rw [rowV_len, rsI_len]) hU (by show _ < PK; unfold PK; omega) (fun i => if i < R.length then some ((4398046511104 + d, i) : Key) else none) ?_ ?_ ?_ hK
  · intro i hi
    have h0 := rowV_at d (rsI f R) 0 i (by rw [rsI_len]; exact hi)
    rw [Nat.zero_add, rsI_at] at h0
    rw [h0]
    refine ⟨_, ho i hi, rfl, rfl, rfl, him _, ?_, (by show _ < PK; unfold PK; omega), by simp [hi]⟩
    rintro (e | e)
    · injection e with e; omega
    · exact hUi i hi e
  · intro i j k h1 h2
    by_cases a : i < R.length
    · by_cases b : j < R.length
      · simp only [a, b, if_true, Option.some.injEq] at h1 h2
        rw [← h2] at h1
        injection h1
      · simp [b] at h2
    · simp [a] at h1
  · intro i hi
    rw [if_neg (by omega)]

/-- The rows of a state told slot by slot. -/
theorem rowV_snap {d j : Nat} {R : List (List α)} (ho : ∀ (i : Nat) (h : i < R.length), H (4398046511104 + d, i) = some (.row 0 1 (R[i].flatMap f))) (hf : ∀ x, (f x).length = 1) (hs : ∀ r : List α, (r.flatMap f).map (snap H j) = r.flatMap f) :
    (rowV d 0 (rsI f R)).map (snap H (j + 1)) = R.flatMap (cL f) := by
  apply List.ext_getElem?
  intro i
  rcases Nat.lt_or_ge i R.length with h | h
  · have h0 := rowV_at d (rsI f R) 0 i (by rw [rsI_len]; exact h)
    rw [Nat.zero_add, rsI_at] at h0
    rw [List.getElem?_map, h0, Option.map_some]
    have hl : (R[i].flatMap f).length = R[i].length := by rw [flat_len hf, Nat.mul_one]
    simp only [snap, ho i h]
    rw [if_pos ⟨trivial, by omega⟩, List.drop_zero, List.take_of_length_le (by omega), hs]
    have := flat_cell (cL_len f) R i 0 h (by decide)
    rw [Nat.mul_one, Nat.add_zero] at this
    rw [this]; rfl
  · rw [List.getElem?_eq_none (by rw [List.length_map, rowV_len, rsI_len]; exact h), List.getElem?_eq_none (by rw [flat_len (cL_len f)]; omega)]
end

end Go.Lg
