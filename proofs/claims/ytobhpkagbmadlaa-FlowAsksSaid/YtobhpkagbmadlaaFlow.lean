/-
  Ways in a graph: by how few steps; plain laws (no program in sight).
-/
import Derived.Test.YtobhpkagbmadlaaMirA
set_option linter.unusedSimpArgs false
set_option linter.unusedVariables false
namespace Go.Lg

/-- A way of so many steps. -/
def pth (g : Nat → List Nat) : Nat → Nat → Nat → Prop
  | 0, s, t => s = t
  | d + 1, s, t => ∃ u, pth g d s u ∧ t ∈ g u

/-- The least number with a property, or -1. -/
def isLst (P : Nat → Prop) (v : Int) : Prop := (∃ d : Nat, P d ∧ (∀ e, P e → d ≤ e) ∧ v = d) ∨ ((∀ d, ¬ P d) ∧ v = -1)

theorem isLst_exists (P : Nat → Prop) : ∃ v, isLst P v := by
  by_cases h : ∃ d, P d
  · obtain ⟨d, hd⟩ := h
    have key : ∀ n, ∀ d, d ≤ n → P d → ∃ d : Nat, P d ∧ ∀ e, P e → d ≤ e := by
      intro n
      induction n with
      | zero =>
        intro d hd hp
        exact ⟨d, hp, fun e _ => by omega⟩
      | succ n ih =>
        intro d hd hp
        by_cases h2 : ∃ e, P e ∧ e < d
        · obtain ⟨e, he, hlt⟩ := h2
          exact ih e (by omega) he
        · exact ⟨d, hp, fun e he => by
            rcases Nat.lt_or_ge e d with h | h
            · exact absurd ⟨e, he, h⟩ h2
            · exact h⟩
    obtain ⟨d, h1, h2⟩ := key d d (Nat.le_refl _) hd
    exact ⟨d, .inl ⟨d, h1, h2, rfl⟩⟩
  · exact ⟨-1, .inr ⟨fun d hd => h ⟨d, hd⟩, rfl⟩⟩

theorem isLst_unique {P : Nat → Prop} {v w : Int} (h : isLst P v) (k : isLst P w) : v = w := by
  rcases h with ⟨d, h1, h2, rfl⟩ | ⟨h1, rfl⟩ <;> rcases k with ⟨e, k1, k2, rfl⟩ | ⟨k1, rfl⟩
  · have := h2 e k1
    have := k2 d h1
    omega
  · exact absurd h1 (k1 d)
  · exact absurd k1 (h1 e)
  · rfl

noncomputable def least (P : Nat → Prop) : Int := Classical.choose (isLst_exists P)
theorem least_isLst (P : Nat → Prop) : isLst P (least P) := Classical.choose_spec (isLst_exists P)
theorem least_eq {P : Nat → Prop} {v : Int} (h : isLst P v) : least P = v := isLst_unique (least_isLst P) h
theorem least_nonneg {P : Nat → Prop} : 0 ≤ least P ↔ ∃ d, P d := by
  rcases least_isLst P with ⟨d, h1, _, h3⟩ | ⟨h1, h3⟩
  · exact ⟨fun _ => ⟨d, h1⟩, fun _ => by omega⟩
  · exact ⟨fun h => by omega, fun ⟨d, hd⟩ => absurd hd (h1 d)⟩
theorem least_ge {P : Nat → Prop} : -1 ≤ least P := by
  rcases least_isLst P with ⟨d, _, _, h3⟩ | ⟨_, h3⟩ <;> omega

section
variable (g : Nat → List Nat)
noncomputable def dist0 (s t : Nat) : Int := least fun d => pth g d s t
noncomputable def dist1 (s t : Nat) : Int := least fun d => 1 ≤ d ∧ pth g d s t
end

section
variable {g : Nat → List Nat}

theorem dist1_spec (s t : Nat) : isLst (fun d => 1 ≤ d ∧ pth g d s t) (dist1 g s t) := least_isLst _
theorem dist0_spec (s t : Nat) : isLst (fun d => pth g d s t) (dist0 g s t) := least_isLst _

/-- What is come to by one step more. -/
theorem dist1_step {s t : Nat} {n : Nat} (hn : 1 ≤ n) : dist1 g s t = n ↔ (∃ u, (if n = 1 then u = s else dist1 g s u = ((n - 1 : Nat) : Int)) ∧ t ∈ g u) ∧ ¬ (1 ≤ dist1 g s t ∧ dist1 g s t < n) := by
  constructor
  · intro h
    refine ⟨?_, by omega⟩
    rcases dist1_spec (g := g) s t with ⟨d, ⟨h1, h2⟩, h3, h4⟩ | ⟨_, h4⟩
    · obtain rfl : d = n := by omega
      obtain ⟨d, rfl⟩ : ∃ e, d = e + 1 := ⟨d - 1, by omega⟩
      obtain ⟨u, hu, ht⟩ := h2
      refine ⟨u, ?_, ht⟩
      by_cases hd : d = 0
      · subst hd
        rw [if_pos rfl]; exact (show s = u from hu).symm
      · rw [if_neg (by omega), Nat.add_sub_cancel]
        refine isLst_unique (dist1_spec s u) (.inl ⟨d, ⟨by omega, hu⟩, fun e he => ?_, rfl⟩)
        have := h3 (e + 1) ⟨by omega, u, he.2, ht⟩
        omega
    · omega
  · rintro ⟨⟨u, hu, ht⟩, hlt⟩
    have hp : pth g n s t := by
      obtain ⟨d, rfl⟩ : ∃ e, n = e + 1 := ⟨n - 1, by omega⟩
      refine ⟨u, ?_, ht⟩
      by_cases hd : d = 0
      · subst hd
        rw [if_pos rfl] at hu; subst hu; rfl
      · rw [if_neg (by omega), Nat.add_sub_cancel] at hu
        rcases dist1_spec (g := g) s u with ⟨e, ⟨_, h2⟩, _, h4⟩ | ⟨_, h4⟩
        · obtain rfl : e = d := by omega
          exact h2
        · omega
    rcases dist1_spec (g := g) s t with ⟨e, ⟨h1, h2⟩, h3, h4⟩ | ⟨h3, h4⟩
    · have := h3 n ⟨hn, hp⟩
      omega
    · exact absurd ⟨hn, hp⟩ (h3 n)

theorem dist1_pos {s t : Nat} : 1 ≤ dist1 g s t ∨ dist1 g s t = -1 := by
  rcases dist1_spec (g := g) s t with ⟨d, ⟨h1, _⟩, _, h4⟩ | ⟨_, h4⟩
  · left; omega
  · exact .inr h4

/-- By levels: where no level is reached, none behind is. -/
theorem dist1_gap {s : Nat} {n : Nat} (hn : 1 ≤ n) (h : ∀ t, dist1 g s t ≠ n) : ∀ (k : Nat) (t : Nat), dist1 g s t ≠ (n + k : Nat) := by
  intro k
  induction k with
  | zero => exact h
  | succ k ih =>
    intro t ht
    have := (dist1_step (g := g) (s := s) (t := t) (n := n + (k + 1)) (by omega)).1 ht
    obtain ⟨⟨u, hu, _⟩, _⟩ := this
    rw [if_neg (by omega)] at hu
    exact ih u (by rw [hu]; congr 1)

theorem dist0_of_dist1 {s t : Nat} (h : t ≠ s) : dist0 g s t = dist1 g s t := by
  refine least_eq ?_
  rcases dist1_spec (g := g) s t with ⟨d, ⟨h1, h2⟩, h3, h4⟩ | ⟨h3, h4⟩
  · refine .inl ⟨d, h2, fun e he => ?_, h4⟩
    cases e with
    | zero => exact absurd (show s = t from he).symm h
    | succ e => exact h3 _ ⟨by omega, he⟩
  · refine .inr ⟨fun d hd => ?_, h4⟩
    cases d with
    | zero => exact absurd (show s = t from hd).symm h
    | succ d => exact h3 _ ⟨by omega, hd⟩
theorem dist0_self (s : Nat) : dist0 g s s = 0 := least_eq (.inl ⟨0, rfl, fun _ _ => Nat.zero_le _, rfl⟩)

/-- What a search that is at its end has found. -/
theorem bfs_end {s : Nat} {out : Nat → Int} (h0 : out s = 0) (hp : ∀ t, 0 ≤ out t → pth g (out t).toNat s t) (hm : ∀ t, out t < 0 → out t = -1) (hc : ∀ u, 0 ≤ out u → ∀ t ∈ g u, 0 ≤ out t ∧ out t ≤ out u + 1) (t : Nat) : out t = dist0 g s t := by
  have key : ∀ (d t : Nat), pth g d s t → 0 ≤ out t ∧ out t ≤ d := by
    intro d
    induction d with
    | zero => intro t h; obtain rfl : s = t := h; omega
    | succ d ih =>
      rintro t ⟨u, hu, ht⟩
      have h1 := ih u hu
      have h2 := hc u h1.1 t ht
      omega
  refine (least_eq ?_).symm
  rcases Int.lt_or_le (out t) 0 with h | h
  · exact .inr ⟨fun d hd => by have := key d t hd; omega, hm t h⟩
  · exact .inl ⟨(out t).toNat, hp t h, fun e he => by have := key e t he; omega, by omega⟩

/-- What a search for all that is come to has found. -/
theorem seen_end {s : Nat} {seen : Nat → Prop} (hp : ∀ t, seen t → ∃ d, 1 ≤ d ∧ pth g d s t) (h0 : ∀ t ∈ g s, seen t) (hc : ∀ u, seen u → ∀ t ∈ g u, seen t) (t : Nat) : seen t ↔ ∃ d, 1 ≤ d ∧ pth g d s t := by
  refine ⟨hp t, ?_⟩
  rintro ⟨d, hd, h⟩
  obtain ⟨d, rfl⟩ : ∃ e, d = e + 1 := ⟨d - 1, by omega⟩
  clear hd
  induction d generalizing t with
  | zero =>
    obtain ⟨u, hu, ht⟩ := h
    obtain rfl : s = u := hu
    exact h0 t ht
  | succ d ih =>
    obtain ⟨u, hu, ht⟩ := h
    exact hc u (ih u hu) t ht

theorem pth_front {d s t u : Nat} (h : t ∈ g s) (k : pth g d t u) : pth g (d + 1) s u := by
  induction d generalizing u with
  | zero => obtain rfl : t = u := k; exact ⟨s, rfl, h⟩
  | succ d ih =>
    obtain ⟨v, hv, hu⟩ := k
    exact ⟨v, ih hv, hu⟩
end

/-- The points behind a point. -/
def nx (m : Mir) (i : Nat) : List Nat := match m.code[i]? with
  | some x => x.next.map Int.toNat
  | none => []

/-- The points ahead of a point, rising. -/
def prevs (m : Mir) (t : Nat) : List Int := ((List.range m.code.length).filter fun i => (nx m i).contains t).map fun (i : Nat) => (i : Int)

end Go.Lg
