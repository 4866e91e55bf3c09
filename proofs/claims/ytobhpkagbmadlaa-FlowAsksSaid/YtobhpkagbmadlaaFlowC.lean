/-
  A search by a row of what is to do: what holds on its way, and what it has found at its end. Plain laws.
-/
import Derived.Test.YtobhpkagbmadlaaFlowB
set_option linter.unusedSimpArgs false
set_option linter.unusedVariables false
namespace Go.Lg

structure Bfs (g : Nat → List Nat) (N i b : Nat) (W : List Nat) (F : Nat → Int) : Prop where
  z : F 0 = 0
  p : ∀ t, 0 ≤ F t → pth g (F t).toNat 0 t
  m : ∀ t, F t < 0 → F t = -1
  w : ∀ w ∈ W, w < N ∧ 0 ≤ F w
  a : ∀ t, 0 ≤ F t → t ∈ W
  s : W.Pairwise fun x y => F x ≤ F y
  e : ∀ h : i < W.length, ∀ w ∈ W, F w ≤ F W[i] + 1
  c : ∀ (j : Nat) (h : j < W.length), ∀ t, (j < i ∧ t ∈ g W[j]) ∨ (j = i ∧ t ∈ (g W[j]).take b) → 0 ≤ F t ∧ F t ≤ F W[j] + 1

section
variable {g : Nat → List Nat} {N i b : Nat} {W : List Nat} {F : Nat → Int}

theorem Bfs.skip (B : Bfs g N i b W F) (hi : i < W.length) (hb : b < (g W[i]).length) (h : 0 ≤ F (g W[i])[b]) : Bfs g N i (b + 1) W F := by
  refine ⟨B.z, B.p, B.m, B.w, B.a, B.s, B.e, ?_⟩
  rintro j hj t (⟨h1, h2⟩ | ⟨rfl, h2⟩)
  · exact B.c j hj t (.inl ⟨h1, h2⟩)
  · rw [List.take_succ_eq_append_getElem hb, List.mem_append, List.mem_singleton] at h2
    rcases h2 with h2 | rfl
    · exact B.c j hj t (.inr ⟨rfl, h2⟩)
    · exact ⟨h, B.e hi _ (B.a _ h)⟩

theorem Bfs.take (B : Bfs g N i b W F) (hi : i < W.length) (hb : b < (g W[i]).length) {t : Nat} (ht : (g W[i])[b] = t) (hN : t < N) (h : F t < 0) {F' : Nat → Int} (hF : ∀ u, F' u = if u = t then F W[i] + 1 else F u) :
    Bfs g N i (b + 1) (W ++ [t]) F' := by
  have hW := (B.w W[i] (List.getElem_mem hi)).2
  have ne : ∀ w ∈ W, w ≠ t := fun w hw e => by subst e; have := (B.w w hw).2; omega
  have eqW : ∀ w ∈ W, F' w = F w := fun w hw => by rw [hF, if_neg (ne w hw)]
  have eqt : F' t = F W[i] + 1 := by rw [hF, if_pos rfl]
  have get : ∀ j (hj : j < W.length) (hj' : j < (W ++ [t]).length), (W ++ [t])[j] = W[j] := fun j hj hj' => List.getElem_append_left hj
  refine ⟨?_, ?_, ?_, ?_, ?_, ?_, ?_, ?_⟩
  · rw [hF, if_neg]
    · exact B.z
    · rintro rfl; have := B.z; omega
  · intro u hu
    rw [hF] at hu ⊢
    split at hu
    · rename_i e; subst e
      rw [if_pos rfl, show (F W[i] + 1).toNat = (F W[i]).toNat + 1 by omega]
      exact ⟨W[i], B.p _ hW, by rw [← ht]; exact List.getElem_mem hb⟩
    · rename_i e; rw [if_neg e]; exact B.p u hu
  · intro u hu
    rw [hF] at hu ⊢
    split at hu
    · omega
    · rename_i e; rw [if_neg e]; exact B.m u hu
  · intro w hw
    rw [List.mem_append, List.mem_singleton] at hw
    rcases hw with hw | rfl
    · rw [eqW w hw]; exact B.w w hw
    · exact ⟨hN, by omega⟩
  · intro u hu
    rw [List.mem_append, List.mem_singleton]
    rw [hF] at hu
    split at hu
    · rename_i e; exact .inr e
    · exact .inl (B.a u hu)
  · rw [List.pairwise_append]
    refine ⟨List.Pairwise.imp_of_mem (fun ha hb h => by rw [eqW _ ha, eqW _ hb]; exact h) B.s, by simp, fun x hx y hy => ?_⟩
    rw [List.mem_singleton] at hy
    subst hy
    rw [eqW x hx, eqt]; exact B.e hi x hx
  · intro h' w hw
    rw [get i hi h', eqW _ (List.getElem_mem hi)]
    rw [List.mem_append, List.mem_singleton] at hw
    rcases hw with hw | rfl
    · rw [eqW w hw]; exact B.e hi w hw
    · omega
  · intro j hj u hu
    have old : ∀ (hj' : j < W.length) (v : Nat), 0 ≤ F v ∧ F v ≤ F W[j] + 1 → 0 ≤ F' v ∧ F' v ≤ F W[j] + 1 := fun hj' v hv => by
      rw [hF]
      split
      · rename_i e; subst e; omega
      · exact hv
    have hjW : j < W.length := by rcases hu with ⟨h1, _⟩ | ⟨h1, _⟩ <;> omega
    rw [get j hjW hj, eqW _ (List.getElem_mem hjW)]
    rw [get j hjW hj] at hu
    rcases hu with ⟨h1, h2⟩ | ⟨rfl, h2⟩
    · exact old hjW u (B.c j hjW u (.inl ⟨h1, h2⟩))
    · rw [List.take_succ_eq_append_getElem hb, List.mem_append, List.mem_singleton, ht] at h2
      rcases h2 with h2 | rfl
      · exact old hjW u (B.c j hjW u (.inr ⟨rfl, h2⟩))
      · omega

theorem Bfs.next (B : Bfs g N i b W F) (hi : i < W.length) (hb : (g W[i]).length ≤ b) : Bfs g N (i + 1) 0 W F := by
  refine ⟨B.z, B.p, B.m, B.w, B.a, B.s, ?_, ?_⟩
  · intro h w hw
    have := B.e hi w hw
    have := List.pairwise_iff_getElem.1 B.s i (i + 1) hi h (by omega)
    omega
  · rintro j hj t (⟨h1, h2⟩ | ⟨_, h2⟩)
    · by_cases e : j = i
      · subst e
        exact B.c j hj t (.inr ⟨rfl, by rw [List.take_of_length_le hb]; exact h2⟩)
      · exact B.c j hj t (.inl ⟨by omega, h2⟩)
    · simp at h2

theorem Bfs.fin (B : Bfs g N i 0 W F) (hi : W.length ≤ i) (t : Nat) : F t = dist0 g 0 t := by
  refine bfs_end B.z B.p B.m (fun u hu v hv => ?_) t
  obtain ⟨j, hj, rfl⟩ := List.mem_iff_getElem.1 (B.a u hu)
  exact B.c j hj v (.inl ⟨by omega, hv⟩)

theorem Bfs.start (hN : 0 < N) (hF : ∀ u, F u = if u = 0 then 0 else -1) : Bfs g N 0 0 [0] F := by
  have h0 : F 0 = 0 := by rw [hF]; rfl
  have only : ∀ t, 0 ≤ F t → t = 0 := fun t ht => by
    rw [hF] at ht
    split at ht
    · assumption
    · omega
  refine ⟨h0, ?_, ?_, ?_, ?_, by simp, ?_, ?_⟩
  · intro t ht
    have := only t ht; subst this
    rw [h0]; rfl
  · intro t ht
    rw [hF] at ht ⊢
    split at ht
    · omega
    · rename_i e; rw [if_neg e]
  · intro w hw
    rw [List.mem_singleton] at hw
    subst hw
    exact ⟨hN, by omega⟩
  · intro t ht
    rw [only t ht]; simp
  · intro h w hw
    rw [List.mem_singleton] at hw
    subst hw
    show F 0 ≤ F 0 + 1
    omega
  · rintro j hj t (⟨h1, _⟩ | ⟨_, h2⟩)
    · omega
    · simp at h2
end

/-- What is behind a list is as nothing. -/
theorem getD_set {o : List Int} {t : Nat} {v : Int} (h : t < o.length) (u : Nat) : (o.set t v).getD u (-1) = if u = t then v else o.getD u (-1) := by
  simp only [List.getD_eq_getElem?_getD, List.getElem?_set]
  by_cases e : u = t
  · subst e; simp [h]
  · rw [if_neg e, if_neg (Ne.symm e)]

end Go.Lg
