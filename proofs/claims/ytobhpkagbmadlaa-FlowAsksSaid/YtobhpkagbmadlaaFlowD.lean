/-
  A search for all that is come to by one step or more. Plain laws.
-/
import Derived.Test.YtobhpkagbmadlaaFlowC
set_option linter.unusedSimpArgs false
set_option linter.unusedVariables false
namespace Go.Lg

def unB (l : List Bool) : Nat := l.countP fun x => !x
theorem unB_set {l : List Bool} {k : Nat} (h : k < l.length) (h1 : l[k] = false) : unB (l.set k true) + 1 = unB l := by
  induction l generalizing k with
  | nil => cases h
  | cons x r ih =>
    cases k with
    | zero =>
      have h1' : x = false := h1
      subst h1'
      simp [unB]
    | succ k =>
      have := ih (k := k) (by simpa using h) h1
      simp only [unB, List.set_cons_succ, List.countP_cons] at this ⊢
      omega
theorem unB_le (l : List Bool) : unB l ≤ l.length := List.countP_le_length
theorem getB_set {o : List Bool} {t : Nat} (h : t < o.length) (u : Nat) : (o.set t true).getD u false = if u = t then true else o.getD u false := by
  simp only [List.getD_eq_getElem?_getD, List.getElem?_set]
  by_cases e : u = t
  · subst e; simp [h]
  · rw [if_neg e, if_neg (Ne.symm e)]

structure Sn (g : Nat → List Nat) (N s k : Nat) (T : List Nat) (S : Nat → Bool) : Prop where
  t : ∀ x ∈ T, x < N ∧ ∃ d, 1 ≤ d ∧ pth g d s x
  f : ∀ x ∈ g s, x ∈ T
  c : ∀ u, S u = true → ∀ x ∈ g u, x ∈ T
  i : ∀ u, S u = true → u ∈ T
  d : ∀ (j : Nat) (h : j < T.length), j < k → S T[j] = true

section
variable {g : Nat → List Nat} {N s k : Nat} {T : List Nat} {S S' : Nat → Bool}

theorem Sn.start (hN : ∀ x ∈ g s, x < N) : Sn g N s 0 (g s) fun _ => false :=
  ⟨fun x hx => ⟨hN x hx, 1, Nat.le_refl _, s, rfl, hx⟩, fun _ h => h, fun _ h => (by cases h), fun _ h => (by cases h), fun _ _ h => (by omega)⟩
theorem Sn.skip (B : Sn g N s k T S) (hk : k < T.length) (h : S T[k] = true) : Sn g N s (k + 1) T S :=
  ⟨B.t, B.f, B.c, B.i, fun j hj hjk => by
    by_cases e : j = k
    · subst e; exact h
    · exact B.d j hj (by omega)⟩
theorem Sn.take (B : Sn g N s k T S) (hk : k < T.length) (hN : ∀ x ∈ g T[k], x < N) (hS : ∀ u, S' u = if u = T[k] then true else S u) : Sn g N s (k + 1) (T ++ g T[k]) S' := by
  obtain ⟨hkN, d, hd, hp⟩ := B.t _ (List.getElem_mem hk)
  have up : ∀ u, S u = true → S' u = true := fun u h => by rw [hS]; split <;> simp_all
  have dn : ∀ u, S' u = true → u = T[k] ∨ S u = true := fun u h => by rw [hS] at h; split at h <;> simp_all
  refine ⟨fun x hx => ?_, fun x hx => List.mem_append_left _ (B.f x hx), fun u hu x hx => ?_, fun u hu => ?_, fun j hj hjk => ?_⟩
  · rcases List.mem_append.1 hx with hx | hx
    · exact B.t x hx
    · exact ⟨hN x hx, d + 1, by omega, _, hp, hx⟩
  · rcases dn u hu with rfl | hu
    · exact List.mem_append_right _ hx
    · exact List.mem_append_left _ (B.c u hu x hx)
  · rcases dn u hu with rfl | hu
    · exact List.mem_append_left _ (List.getElem_mem hk)
    · exact List.mem_append_left _ (B.i u hu)
  · by_cases e : j = k
    · subst e
      rw [List.getElem_append_left hk, hS, if_pos rfl]
    · have hj' : j < T.length := by omega
      rw [List.getElem_append_left hj']
      exact up _ (B.d j hj' (by omega))
theorem Sn.fin (B : Sn g N s k T S) (hk : T.length ≤ k) (t : Nat) : S t = true ↔ ∃ d, 1 ≤ d ∧ pth g d s t := by
  have all : ∀ x ∈ T, S x = true := fun x hx => by
    obtain ⟨j, hj, rfl⟩ := List.mem_iff_getElem.1 hx
    exact B.d j hj (by omega)
  exact seen_end (seen := fun t => S t = true) (fun t h => (B.t t (B.i t h)).2) (fun t h => all t (B.f t h)) (fun u hu t ht => all t (B.c u hu t ht)) t
end
end Go.Lg
