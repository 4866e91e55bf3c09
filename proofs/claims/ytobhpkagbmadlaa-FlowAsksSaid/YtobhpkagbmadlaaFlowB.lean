/-
  Ways in a graph: how long they may be; what stands ahead of a point.
-/
import Derived.Test.YtobhpkagbmadlaaFlow
set_option linter.unusedSimpArgs false
set_option linter.unusedVariables false
namespace Go.Lg

theorem pigeon : ∀ (N : Nat) (f : Nat → Nat) (k : Nat), (∀ i, i < k → f i < N) → (∀ i j, i < k → j < k → f i = f j → i = j) → k ≤ N
  | 0, f, k, h, _ => by
    rcases Nat.eq_zero_or_pos k with h0 | h0
    · omega
    · have := h 0 h0; omega
  | N + 1, f, k, h, hi => by
    by_cases he : ∃ i, i < k ∧ f i = N
    · obtain ⟨i0, h0, e0⟩ := he
      have := pigeon N (fun i => if i < i0 then f i else f (i + 1)) (k - 1) (fun i hik => ?_) (fun i j hik hjk e => ?_)
      · omega
      · split
        · have h1 := h i (by omega)
          have : f i ≠ N := fun e => by have := hi i i0 (by omega) h0 (by omega); omega
          omega
        · have h1 := h (i + 1) (by omega)
          have : f (i + 1) ≠ N := fun e => by have := hi (i + 1) i0 (by omega) h0 (by omega); omega
          omega
      · split at e <;> split at e
        · exact hi i j (by omega) (by omega) e
        · have := hi i (j + 1) (by omega) (by omega) e; omega
        · have := hi (i + 1) j (by omega) (by omega) e; omega
        · have := hi (i + 1) (j + 1) (by omega) (by omega) e; omega
    · have := pigeon N f k (fun i hik => by
        have h1 := h i hik
        have : f i ≠ N := fun e => he ⟨i, hik, e⟩
        omega) hi
      omega

section
variable {g : Nat → List Nat}
theorem pth_split {s t : Nat} : ∀ {b a : Nat}, pth g (a + b) s t → ∃ u, pth g a s u ∧ pth g b u t
  | 0, a, h => ⟨t, h, rfl⟩
  | b + 1, a, ⟨v, hv, ht⟩ => by
    obtain ⟨u, h1, h2⟩ := pth_split (b := b) (a := a) hv
    exact ⟨u, h1, v, h2, ht⟩
theorem pth_join {s u t : Nat} : ∀ {b a : Nat}, pth g a s u → pth g b u t → pth g (a + b) s t
  | 0, a, h, k => by obtain rfl : u = t := k; exact h
  | b + 1, a, h, ⟨v, hv, ht⟩ => ⟨v, pth_join h hv, ht⟩
theorem pth_lt {N : Nat} (hg : ∀ u, ∀ v ∈ g u, v < N) {s : Nat} (hs : s < N) : ∀ {d t : Nat}, pth g d s t → t < N
  | 0, t, h => by obtain rfl : s = t := h; exact hs
  | _ + 1, t, ⟨u, _, ht⟩ => hg u t ht

theorem dist0_le {N : Nat} (hg : ∀ u, ∀ v ∈ g u, v < N) {s : Nat} (hs : s < N) (t : Nat) : dist0 g s t < N := by
  rcases dist0_spec (g := g) s t with ⟨d, h1, h2, h3⟩ | ⟨_, h3⟩
  · have hex : ∀ e, ∃ u, e ≤ d → u < N ∧ dist0 g s u = e := by
      intro e
      by_cases he : e ≤ d
      · obtain ⟨u, h4, h5⟩ := pth_split (g := g) (s := s) (t := t) (a := e) (b := d - e) (by rw [show e + (d - e) = d by omega]; exact h1)
        refine ⟨u, fun _ => ⟨pth_lt hg hs h4, isLst_unique (dist0_spec s u) (.inl ⟨e, h4, fun e' he' => ?_, rfl⟩)⟩⟩
        have := h2 _ (pth_join he' h5)
        omega
      · exact ⟨0, fun h => absurd h he⟩
    have := pigeon N (fun e => Classical.choose (hex e)) (d + 1) (fun i hi => (Classical.choose_spec (hex i) (by omega)).1) (fun i j hi hj e => by
      have a := (Classical.choose_spec (hex i) (by omega)).2
      have b := (Classical.choose_spec (hex j) (by omega)).2
      rw [e] at a
      omega)
    omega
  · omega

/-- One more than the nearest of some; -1 if none of them is come to. -/
def bestI (D : Int → Int) (l : List Int) (b : Int) : Prop := ((b = -1 ∧ ∀ x ∈ l, D x < 0) ∨ ∃ x ∈ l, 0 ≤ D x ∧ b = D x + 1) ∧ ∀ x ∈ l, 0 ≤ D x → b ≤ D x + 1

theorem bestI_nil (D : Int → Int) : bestI D [] (-1) := ⟨.inl ⟨rfl, fun _ h => by cases h⟩, fun _ h => by cases h⟩
theorem bestI_skip {D : Int → Int} {l : List Int} {b x : Int} (h : bestI D l b) (hx : D x < 0 ∨ (0 ≤ b ∧ b ≤ D x + 1)) : bestI D (l ++ [x]) b := by
  obtain ⟨h1, h2⟩ := h
  refine ⟨?_, fun y hy h0 => ?_⟩
  · rcases h1 with ⟨h1, h3⟩ | ⟨y, hy, h3⟩
    · refine .inl ⟨h1, fun y hy => ?_⟩
      rcases List.mem_append.1 hy with hy | hy
      · exact h3 y hy
      · obtain rfl := List.mem_singleton.1 hy
        omega
    · exact .inr ⟨y, List.mem_append_left _ hy, h3⟩
  · rcases List.mem_append.1 hy with hy | hy
    · exact h2 y hy h0
    · obtain rfl := List.mem_singleton.1 hy
      omega
theorem bestI_take {D : Int → Int} {l : List Int} {b x : Int} (h : bestI D l b) (h0 : 0 ≤ D x) (hx : b < 0 ∨ D x + 1 < b) : bestI D (l ++ [x]) (D x + 1) := by
  obtain ⟨h1, h2⟩ := h
  refine ⟨.inr ⟨x, by simp, h0, rfl⟩, fun y hy hy0 => ?_⟩
  rcases List.mem_append.1 hy with hy | hy
  · have := h2 y hy hy0
    rcases hx with hx | hx
    · rcases h1 with ⟨_, h3⟩ | ⟨z, hz, h3, h4⟩
      · have := h3 y hy; omega
      · omega
    · omega
  · obtain rfl := List.mem_singleton.1 hy
    omega
theorem bestI_dist {m : Mir} {i : Nat} {b : Int} {s : Nat} (hs : i ≠ s) (hi : ∀ j, i ∈ nx m j → j < m.code.length) (hp : ∀ y, y ∈ prevs m i ↔ ∃ j : Nat, j < m.code.length ∧ y = j ∧ i ∈ nx m j)
    (h : bestI (fun x => dist0 (nx m) s x.toNat) (prevs m i) b) : dist0 (nx m) s i = b := by
  obtain ⟨h1, h2⟩ := h
  rcases dist0_spec (g := nx m) s i with ⟨d, a1, a2, a3⟩ | ⟨a1, a3⟩
  · cases d with
    | zero => exact absurd (show s = i from a1).symm hs
    | succ d =>
      obtain ⟨u, hu, hiu⟩ := a1
      have hul := hi u hiu
      have hmem : (u : Int) ∈ prevs m i := (hp _).2 ⟨u, hul, rfl, hiu⟩
      have hDu : 0 ≤ dist0 (nx m) s u ∧ dist0 (nx m) s u ≤ d := by
        rcases dist0_spec (g := nx m) s u with ⟨e, c1, c2, c3⟩ | ⟨c1, _⟩
        · have := c2 d hu; omega
        · exact absurd hu (c1 d)
      have hb := h2 _ hmem (by simpa using hDu.1)
      simp only [Int.toNat_natCast] at hb
      rcases h1 with ⟨_, h3⟩ | ⟨x, hx, h3, h4⟩
      · have := h3 _ hmem
        simp only [Int.toNat_natCast] at this
        omega
      · obtain ⟨j, hj, rfl, hij⟩ := (hp x).1 hx
        simp only [Int.toNat_natCast] at h3 h4
        rcases dist0_spec (g := nx m) s j with ⟨e, c1, c2, c3⟩ | ⟨_, c3⟩
        · have := a2 (e + 1) ⟨j, c1, hij⟩
          omega
        · omega
  · rcases h1 with ⟨h3, _⟩ | ⟨x, hx, h3, h4⟩
    · omega
    · obtain ⟨j, hj, rfl, hij⟩ := (hp x).1 hx
      simp only [Int.toNat_natCast] at h3
      rcases dist0_spec (g := nx m) s j with ⟨e, c1, _, _⟩ | ⟨_, c3⟩
      · exact absurd ⟨j, c1, hij⟩ (a1 (e + 1))
      · omega

/-- A ring's point has one of its ring ahead of it. -/
theorem ring_pred {i : Nat} (h : 0 ≤ dist1 g i i) : ∃ u, i ∈ g u ∧ 0 ≤ dist1 g u u := by
  obtain ⟨d, hd, hp⟩ := least_nonneg.1 h
  obtain ⟨d, rfl⟩ : ∃ e, d = e + 1 := ⟨d - 1, by omega⟩
  obtain ⟨u, hu, hi⟩ := hp
  exact ⟨u, hi, least_nonneg.2 ⟨d + 1, by omega, pth_front hi hu⟩⟩
end
end Go.Lg
