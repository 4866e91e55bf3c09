/-
  Texts Flow, FlowB, FlowC, FlowD, Live, LiveB, LiveC of this claim, put together.
-/
import Derived.Test.YtobhpkagbmadlaaGE
import Derived.Lib.SlicesCompact
/-
  Ways in a graph: by how few steps; plain laws (no program in sight).
-/
set_option linter.unusedSimpArgs false
set_option linter.unusedVariables false
namespace Go.Lg

/-- A way of so many steps. -/
def pth (g : Nat → List Nat) : Nat → Nat → Nat → Prop
  | 0, s, t => s = t
  | d + 1, s, t => ∃ u, pth g d s u ∧ t ∈ g u

/-- The least number with a property, or -1. -/
def isLst (P : Nat → Prop) (v : Int) : Prop := (∃ d : Nat, P d ∧ (∀ e, P e → d ≤ e) ∧ v = d) ∨ ((∀ d, ¬ P d) ∧ v = -1)

theorem isLst_exists (P : Nat → Prop) : ∃ v, isLst P v := by
  by_cases h : ∃ d, P d
  · obtain ⟨d, hd⟩ := h
    have key : ∀ n, ∀ d, d ≤ n → P d → ∃ d : Nat, P d ∧ ∀ e, P e → d ≤ e := by
      intro n
      induction n with
      | zero =>
        intro d hd hp
        exact ⟨d, hp, fun e _ => by omega⟩
      | succ n ih =>
        intro d hd hp
        by_cases h2 : ∃ e, P e ∧ e < d
        · obtain ⟨e, he, hlt⟩ := h2
          exact ih e (by omega) he
        · exact ⟨d, hp, fun e he => by
            rcases Nat.lt_or_ge e d with h | h
            · exact absurd ⟨e, he, h⟩ h2
            · exact h⟩
    obtain ⟨d, h1, h2⟩ := key d d (Nat.le_refl _) hd
    exact ⟨d, .inl ⟨d, h1, h2, rfl⟩⟩
  · exact ⟨-1, .inr ⟨fun d hd => h ⟨d, hd⟩, rfl⟩⟩

theorem isLst_unique {P : Nat → Prop} {v w : Int} (h : isLst P v) (k : isLst P w) : v = w := by
  rcases h with ⟨d, h1, h2, rfl⟩ | ⟨h1, rfl⟩ <;> rcases k with ⟨e, k1, k2, rfl⟩ | ⟨k1, rfl⟩
  · have := h2 e k1
    have := k2 d h1
    omega
  · exact absurd h1 (k1 d)
  · exact absurd k1 (h1 e)
  · rfl

noncomputable def least (P : Nat → Prop) : Int := Classical.choose (isLst_exists P)
theorem least_isLst (P : Nat → Prop) : isLst P (least P) := Classical.choose_spec (isLst_exists P)
theorem least_eq {P : Nat → Prop} {v : Int} (h : isLst P v) : least P = v := isLst_unique (least_isLst P) h
theorem least_nonneg {P : Nat → Prop} : 0 ≤ least P ↔ ∃ d, P d := by
  rcases least_isLst P with ⟨d, h1, _, h3⟩ | ⟨h1, h3⟩
  · exact ⟨fun _ => ⟨d, h1⟩, fun _ => by omega⟩
  · exact ⟨fun h => by omega, fun ⟨d, hd⟩ => absurd hd (h1 d)⟩
section
variable (g : Nat → List Nat)
noncomputable def dist0 (s t : Nat) : Int := least fun d => pth g d s t
noncomputable def dist1 (s t : Nat) : Int := least fun d => 1 ≤ d ∧ pth g d s t
end

section
variable {g : Nat → List Nat}

theorem dist1_spec (s t : Nat) : isLst (fun d => 1 ≤ d ∧ pth g d s t) (dist1 g s t) := least_isLst _
/-- What is come to by one step more. -/
theorem dist1_step {s t : Nat} {n : Nat} (hn : 1 ≤ n) : dist1 g s t = n ↔ (∃ u, (if n = 1 then u = s else dist1 g s u = ((n - 1 : Nat) : Int)) ∧ t ∈ g u) ∧ ¬ (1 ≤ dist1 g s t ∧ dist1 g s t < n) := by
  constructor
  · intro h
    refine ⟨?_, by omega⟩
    rcases dist1_spec (g := g) s t with ⟨d, ⟨h1, h2⟩, h3, h4⟩ | ⟨_, h4⟩
    · obtain rfl : d = n := by omega
      obtain ⟨d, rfl⟩ : ∃ e, d = e + 1 := ⟨d - 1, by omega⟩
      obtain ⟨u, hu, ht⟩ := h2
      refine ⟨u, ?_, ht⟩
      by_cases hd : d = 0
      · subst hd
        rw [if_pos rfl]; exact (show s = u from hu).symm
      · rw [if_neg (by omega), Nat.add_sub_cancel]
        refine isLst_unique (dist1_spec s u) (.inl ⟨d, ⟨by omega, hu⟩, fun e he => ?_, rfl⟩)
        have := h3 (e + 1) ⟨by omega, u, he.2, ht⟩
        omega
    · omega
  · rintro ⟨⟨u, hu, ht⟩, hlt⟩
    have hp : pth g n s t := by
      obtain ⟨d, rfl⟩ : ∃ e, n = e + 1 := ⟨n - 1, by omega⟩
      refine ⟨u, ?_, ht⟩
      by_cases hd : d = 0
      · subst hd
        rw [if_pos rfl] at hu; subst hu; rfl
      · rw [if_neg (by omega), Nat.add_sub_cancel] at hu
        rcases dist1_spec (g := g) s u with ⟨e, ⟨_, h2⟩, _, h4⟩ | ⟨_, h4⟩
        · obtain rfl : e = d := by omega
          exact h2
        · omega
    rcases dist1_spec (g := g) s t with ⟨e, ⟨h1, h2⟩, h3, h4⟩ | ⟨h3, h4⟩
    · have := h3 n ⟨hn, hp⟩
      omega
    · exact absurd ⟨hn, hp⟩ (h3 n)

theorem dist1_pos {s t : Nat} : 1 ≤ dist1 g s t ∨ dist1 g s t = -1 := by
  rcases dist1_spec (g := g) s t with ⟨d, ⟨h1, _⟩, _, h4⟩ | ⟨_, h4⟩
  · left; omega
  · exact .inr h4

/-- By levels: where no level is reached, none behind is. -/
theorem dist1_gap {s : Nat} {n : Nat} (hn : 1 ≤ n) (h : ∀ t, dist1 g s t ≠ n) : ∀ (k : Nat) (t : Nat), dist1 g s t ≠ (n + k : Nat) := by
  intro k
  induction k with
  | zero => exact h
  | succ k ih =>
    intro t ht
    have := (dist1_step (g := g) (s := s) (t := t) (n := n + (k + 1)) (by omega)).1 ht
    obtain ⟨⟨u, hu, _⟩, _⟩ := this
    rw [if_neg (by omega)] at hu
    exact ih u (by rw [hu]; congr 1)

theorem dist0_of_dist1 {s t : Nat} (h : t ≠ s) : dist0 g s t = dist1 g s t := by
  refine least_eq ?_
  rcases dist1_spec (g := g) s t with ⟨d, ⟨h1, h2⟩, h3, h4⟩ | ⟨h3, h4⟩
  · refine .inl ⟨d, h2, fun e he => ?_, h4⟩
    cases e with
    | zero => exact absurd (show s = t from he).symm h
    | succ e => exact h3 _ ⟨by omega, he⟩
  · refine .inr ⟨fun d hd => ?_, h4⟩
    cases d with
    | zero => exact absurd (show s = t from hd).symm h
    | succ d => exact h3 _ ⟨by omega, hd⟩
theorem dist0_self (s : Nat) : dist0 g s s = 0 := least_eq (.inl ⟨0, rfl, fun _ _ => Nat.zero_le _, rfl⟩)

/-- What a search that is at its end has found. -/
theorem bfs_end {s : Nat} {out : Nat → Int} (h0 : out s = 0) (hp : ∀ t, 0 ≤ out t → pth g (out t).toNat s t) (hm : ∀ t, out t < 0 → out t = -1) (hc : ∀ u, 0 ≤ out u → ∀ t ∈ g u, 0 ≤ out t ∧ out t ≤ out u + 1) (t : Nat) : out t = dist0 g s t := by
  have key : ∀ (d t : Nat), pth g d s t → 0 ≤ out t ∧ out t ≤ d := by
    intro d
    induction d with
    | zero => intro t h; obtain rfl : s = t := h; omega
    | succ d ih =>
      rintro t ⟨u, hu, ht⟩
      have h1 := ih u hu
      have h2 := hc u h1.1 t ht
      omega
  refine (least_eq ?_).symm
  rcases Int.lt_or_le (out t) 0 with h | h
  · exact .inr ⟨fun d hd => by have := key d t hd; omega, hm t h⟩
  · exact .inl ⟨(out t).toNat, hp t h, fun e he => by have := key e t he; omega, by omega⟩

/-- What a search for all that is come to has found. -/
theorem seen_end {s : Nat} {seen : Nat → Prop} (hp : ∀ t, seen t → ∃ d, 1 ≤ d ∧ pth g d s t) (h0 : ∀ t ∈ g s, seen t) (hc : ∀ u, seen u → ∀ t ∈ g u, seen t) (t : Nat) : seen t ↔ ∃ d, 1 ≤ d ∧ pth g d s t := by
  refine ⟨hp t, ?_⟩
  rintro ⟨d, hd, h⟩
  obtain ⟨d, rfl⟩ : ∃ e, d = e + 1 := ⟨d - 1, by omega⟩
  clear hd
  induction d generalizing t with
  | zero =>
    obtain ⟨u, hu, ht⟩ := h
    obtain rfl : s = u := hu
    exact h0 t ht
  | succ d ih =>
    obtain ⟨u, hu, ht⟩ := h
    exact hc u (ih u hu) t ht

end

/-- The points behind a point. -/
def nx (m : Mir) (i : Nat) : List Nat := match m.code[i]? with
  | some x => x.next.map Int.toNat
  | none => []

/-- The points ahead of a point, rising. -/
def prevs (m : Mir) (t : Nat) : List Int := ((List.range m.code.length).filter fun i => (nx m i).contains t).map fun (i : Nat) => (i : Int)

end Go.Lg

/-
  Ways in a graph: how long they may be; what stands ahead of a point.
-/
set_option linter.unusedSimpArgs false
set_option linter.unusedVariables false
namespace Go.Lg

section
variable {g : Nat → List Nat}
end
end Go.Lg

/-
  A search by a row of what is to do: what holds on its way, and what it has found at its end. Plain laws.
-/
set_option linter.unusedSimpArgs false
set_option linter.unusedVariables false
namespace Go.Lg

structure Bfs (g : Nat → List Nat) (N i b : Nat) (W : List Nat) (F : Nat → Int) : Prop where
  z : F 0 = 0
  p : ∀ t, 0 ≤ F t → pth g (F t).toNat 0 t
  m : ∀ t, F t < 0 → F t = -1
  w : ∀ w ∈ W, w < N ∧ 0 ≤ F w
  a : ∀ t, 0 ≤ F t → t ∈ W
  s : W.Pairwise fun x y => F x ≤ F y
  e : ∀ h : i < W.length, ∀ w ∈ W, F w ≤ F W[i] + 1
  c : ∀ (j : Nat) (h : j < W.length), ∀ t, (j < i ∧ t ∈ g W[j]) ∨ (j = i ∧ t ∈ (g W[j]).take b) → 0 ≤ F t ∧ F t ≤ F W[j] + 1

section
variable {g : Nat → List Nat} {N i b : Nat} {W : List Nat} {F : Nat → Int}

theorem Bfs.skip (B : Bfs g N i b W F) (hi : i < W.length) (hb : b < (g W[i]).length) (h : 0 ≤ F (g W[i])[b]) : Bfs g N i (b + 1) W F := by
  refine ⟨B.z, B.p, B.m, B.w, B.a, B.s, B.e, ?_⟩
  rintro j hj t (⟨h1, h2⟩ | ⟨rfl, h2⟩)
  · exact B.c j hj t (.inl ⟨h1, h2⟩)
  · rw [List.take_succ_eq_append_getElem hb, List.mem_append, List.mem_singleton] at h2
    rcases h2 with h2 | rfl
    · exact B.c j hj t (.inr ⟨rfl, h2⟩)
    · exact ⟨h, B.e hi _ (B.a _ h)⟩

theorem Bfs.take (B : Bfs g N i b W F) (hi : i < W.length) (hb : b < (g W[i]).length) {t : Nat} (ht : (g W[i])[b] = t) (hN : t < N) (h : F t < 0) {F' : Nat → Int} (hF : ∀ u, F' u = if u = t then F W[i] + 1 else F u) :
    Bfs g N i (b + 1) (W ++ [t]) F' := by
  have hW := (B.w W[i] (List.getElem_mem hi)).2
  have ne : ∀ w ∈ W, w ≠ t := fun w hw e => by subst e; have := (B.w w hw).2; omega
  have eqW : ∀ w ∈ W, F' w = F w := fun w hw => by rw [hF, if_neg (ne w hw)]
  have eqt : F' t = F W[i] + 1 := by rw [hF, if_pos rfl]
  have get : ∀ j (hj : j < W.length) (hj' : j < (W ++ [t]).length), (W ++ [t])[j] = W[j] := fun j hj hj' => List.getElem_append_left hj
  refine ⟨?_, ?_, ?_, ?_, ?_, ?_, ?_, ?_⟩
  · rw [hF, if_neg]
    · exact B.z
    · rintro rfl; have := B.z; omega
  · intro u hu
    rw [hF] at hu ⊢
    split at hu
    · rename_i e; subst e
      rw [if_pos rfl, show (F W[i] + 1).toNat = (F W[i]).toNat + 1 by omega]
      exact ⟨W[i], B.p _ hW, by rw [← ht]; exact List.getElem_mem hb⟩
    · rename_i e; rw [if_neg e]; exact B.p u hu
  · intro u hu
    rw [hF] at hu ⊢
    split at hu
    · omega
    · rename_i e; rw [if_neg e]; exact B.m u hu
  · intro w hw
    rw [List.mem_append, List.mem_singleton] at hw
    rcases hw with hw | rfl
    · rw [eqW w hw]; exact B.w w hw
    · exact ⟨hN, by omega⟩
  · intro u hu
    rw [List.mem_append, List.mem_singleton]
    rw [hF] at hu
    split at hu
    · rename_i e; exact .inr e
    · exact .inl (B.a u hu)
  · rw [List.pairwise_append]
    refine ⟨List.Pairwise.imp_of_mem (fun ha hb h => by rw [eqW _ ha, eqW _ hb]; exact h) B.s, by simp, fun x hx y hy => ?_⟩
    rw [List.mem_singleton] at hy
    subst hy
    rw [eqW x hx, eqt]; exact B.e hi x hx
  · intro h' w hw
    rw [get i hi h', eqW _ (List.getElem_mem hi)]
    rw [List.mem_append, List.mem_singleton] at hw
    rcases hw with hw | rfl
    · rw [eqW w hw]; exact B.e hi w hw
    · omega
  · intro j hj u hu
    have old : ∀ (hj' : j < W.length) (v : Nat), 0 ≤ F v ∧ F v ≤ F W[j] + 1 → 0 ≤ F' v ∧ F' v ≤ F W[j] + 1 := fun hj' v hv => by
      rw [hF]
      split
      · rename_i e; subst e; omega
      · exact hv
    have hjW : j < W.length := by rcases hu with ⟨h1, _⟩ | ⟨h1, _⟩ <;> omega
    rw [get j hjW hj, eqW _ (List.getElem_mem hjW)]
    rw [get j hjW hj] at hu
    rcases hu with ⟨h1, h2⟩ | ⟨rfl, h2⟩
    · exact old hjW u (B.c j hjW u (.inl ⟨h1, h2⟩))
    · rw [List.take_succ_eq_append_getElem hb, List.mem_append, List.mem_singleton, ht] at h2
      rcases h2 with h2 | rfl
      · exact old hjW u (B.c j hjW u (.inr ⟨rfl, h2⟩))
      · omega

theorem Bfs.next (B : Bfs g N i b W F) (hi : i < W.length) (hb : (g W[i]).length ≤ b) : Bfs g N (i + 1) 0 W F := by
  refine ⟨B.z, B.p, B.m, B.w, B.a, B.s, ?_, ?_⟩
  · intro h w hw
    have := B.e hi w hw
    have := List.pairwise_iff_getElem.1 B.s i (i + 1) hi h (by omega)
    omega
  · rintro j hj t (⟨h1, h2⟩ | ⟨_, h2⟩)
    · by_cases e : j = i
      · subst e
        exact B.c j hj t (.inr ⟨rfl, by rw [List.take_of_length_le hb]; exact h2⟩)
      · exact B.c j hj t (.inl ⟨by omega, h2⟩)
    · simp at h2

theorem Bfs.fin (B : Bfs g N i 0 W F) (hi : W.length ≤ i) (t : Nat) : F t = dist0 g 0 t := by
  refine bfs_end B.z B.p B.m (fun u hu v hv => ?_) t
  obtain ⟨j, hj, rfl⟩ := List.mem_iff_getElem.1 (B.a u hu)
  exact B.c j hj v (.inl ⟨by omega, hv⟩)

theorem Bfs.start (hN : 0 < N) (hF : ∀ u, F u = if u = 0 then 0 else -1) : Bfs g N 0 0 [0] F := by
  have h0 : F 0 = 0 := by rw [hF]; rfl
  have only : ∀ t, 0 ≤ F t → t = 0 := fun t ht => by
    rw [hF] at ht
    split at ht
    · assumption
    · omega
  refine ⟨h0, ?_, ?_, ?_, ?_, by simp, ?_, ?_⟩
  · intro t ht
    have := only t ht; subst this
    rw [h0]; rfl
  · intro t ht
    rw [hF] at ht ⊢
    split at ht
    · omega
    · rename_i e; rw [if_neg e]
  · intro w hw
    rw [List.mem_singleton] at hw
    subst hw
    exact ⟨hN, by omega⟩
  · intro t ht
    rw [only t ht]; simp
  · intro h w hw
    rw [List.mem_singleton] at hw
    subst hw
    show F 0 ≤ F 0 + 1
    omega
  · rintro j hj t (⟨h1, _⟩ | ⟨_, h2⟩)
    · omega
    · simp at h2
end

/-- What is behind a list is as nothing. -/
theorem getD_set {o : List Int} {t : Nat} {v : Int} (h : t < o.length) (u : Nat) : (o.set t v).getD u (-1) = if u = t then v else o.getD u (-1) := by
  simp only [List.getD_eq_getElem?_getD, List.getElem?_set]
  by_cases e : u = t
  · subst e; simp [h]
  · rw [if_neg e, if_neg (Ne.symm e)]

end Go.Lg

/-
  A search for all that is come to by one step or more. Plain laws.
-/
set_option linter.unusedSimpArgs false
set_option linter.unusedVariables false
namespace Go.Lg

structure Sn (g : Nat → List Nat) (N s k : Nat) (T : List Nat) (S : Nat → Bool) : Prop where
  t : ∀ x ∈ T, x < N ∧ ∃ d, 1 ≤ d ∧ pth g d s x
  f : ∀ x ∈ g s, x ∈ T
  c : ∀ u, S u = true → ∀ x ∈ g u, x ∈ T
  i : ∀ u, S u = true → u ∈ T
  d : ∀ (j : Nat) (h : j < T.length), j < k → S T[j] = true

section
variable {g : Nat → List Nat} {N s k : Nat} {T : List Nat} {S S' : Nat → Bool}

theorem Sn.start (hN : ∀ x ∈ g s, x < N) : Sn g N s 0 (g s) fun _ => false :=
  ⟨fun x hx => ⟨hN x hx, 1, Nat.le_refl _, s, rfl, hx⟩, fun _ h => h, fun _ h => (by cases h), fun _ h => (by cases h), fun _ _ h => (by omega)⟩
theorem Sn.skip (B : Sn g N s k T S) (hk : k < T.length) (h : S T[k] = true) : Sn g N s (k + 1) T S :=
  ⟨B.t, B.f, B.c, B.i, fun j hj hjk => by
    by_cases e : j = k
    · subst e; exact h
    · exact B.d j hj (by omega)⟩
theorem Sn.take (B : Sn g N s k T S) (hk : k < T.length) (hN : ∀ x ∈ g T[k], x < N) (hS : ∀ u, S' u = if u = T[k] then true else S u) : Sn g N s (k + 1) (T ++ g T[k]) S' := by
  obtain ⟨hkN, d, hd, hp⟩ := B.t _ (List.getElem_mem hk)
  have up : ∀ u, S u = true → S' u = true := fun u h => by rw [hS]; split <;> simp_all
  have dn : ∀ u, S' u = true → u = T[k] ∨ S u = true := fun u h => by rw [hS] at h; split at h <;> simp_all
  refine ⟨fun x hx => ?_, fun x hx => List.mem_append_left _ (B.f x hx), fun u hu x hx => ?_, fun u hu => ?_, fun j hj hjk => ?_⟩
  · rcases List.mem_append.1 hx with hx | hx
    · exact B.t x hx
    · exact ⟨hN x hx, d + 1, by omega, _, hp, hx⟩
  · rcases dn u hu with rfl | hu
    · exact List.mem_append_right _ hx
    · exact List.mem_append_left _ (B.c u hu x hx)
  · rcases dn u hu with rfl | hu
    · exact List.mem_append_left _ (List.getElem_mem hk)
    · exact List.mem_append_left _ (B.i u hu)
  · by_cases e : j = k
    · subst e
      rw [List.getElem_append_left hk, hS, if_pos rfl]
    · have hj' : j < T.length := by omega
      rw [List.getElem_append_left hj']
      exact up _ (B.d j hj' (by omega))
theorem Sn.fin (B : Sn g N s k T S) (hk : T.length ≤ k) (t : Nat) : S t = true ↔ ∃ d, 1 ≤ d ∧ pth g d s t := by
  have all : ∀ x ∈ T, S x = true := fun x hx => by
    obtain ⟨j, hj, rfl⟩ := List.mem_iff_getElem.1 hx
    exact B.d j hj (by omega)
  exact seen_end (seen := fun t => S t = true) (fun t h => (B.t t (B.i t h)).2) (fun t h => all t (B.f t h)) (fun u hu t ht => all t (B.c u hu t ht)) t
end
end Go.Lg

/-
  Which locals points use and set; where locals are live. Plain laws.
-/
set_option linter.unusedSimpArgs false
set_option linter.unusedVariables false
namespace Go.Lg
open Go

def operL (o : MOper) : List Int := if o.kind = 3 ∨ o.kind = 4 then [o.path.loc] else []
def valL (v : MVal) : List Int :=
  if v.kind = 2 ∨ v.kind = 3 then [v.path.loc] else if v.kind = 5 then operL v.b ++ operL v.a else if v.kind = 1 ∨ v.kind = 4 then operL v.a else if v.kind = 6 ∨ v.kind = 7 then v.args.flatMap operL else []
def rawL (x : MInst) : List Int :=
  if x.kind = 1 then valL x.val ++ (if x.has = true ∧ 0 < x.to.steps.length then [x.to.loc] else []) else if x.kind = 3 then [x.to.loc] else if x.kind = 4 then operL x.val.a else []
def sortI (l : List Int) : List Int := l.mergeSort fun x y => decide (x ≤ y)
def usesL (x : MInst) : List Int := Lib.compact (sortI (rawL x))
def setsL (x : MInst) : Int × Bool := if x.kind = 2 ∨ (x.kind = 1 ∧ x.has = true ∧ x.to.steps.length = 0) then (x.to.loc, true) else (0, false)

theorem sortI_len (l : List Int) : (sortI l).length = l.length := List.length_mergeSort _
theorem mem_sortI (l : List Int) (x : Int) : x ∈ sortI l ↔ x ∈ l := List.mem_mergeSort
/-- Where locals are live. -/
inductive Liv (m : Mir) : Nat → Int → Prop
  | use {i : Nat} {v : Int} (h : i < m.code.length) : v ∈ usesL m.code[i] → Liv m i v
  | step {i k : Nat} {v : Int} (h : i < m.code.length) : k ∈ nx m i → setsL m.code[i] ≠ (v, true) → Liv m k v → Liv m i v

end Go.Lg

/-
  How a search backward finds where locals are live: what holds on its way. Plain laws.
-/
set_option linter.unusedSimpArgs false
set_option linter.unusedVariables false
namespace Go.Lg
open Go

def tget (R : List (List Bool)) (i v : Nat) : Bool := (R.getD i []).getD v false
theorem tget_set {R : List (List Bool)} {i v : Nat} (hi : i < R.length) (hv : v < R[i].length) (j u : Nat) : tget (R.set i (R[i].set v true)) j u = if j = i ∧ u = v then true else tget R j u := by
  simp only [tget, List.getD_eq_getElem?_getD, List.getElem?_set]
  by_cases e : i = j
  · subst e
    simp only [if_true, hi, Option.getD_some, List.getElem?_set, List.getElem?_eq_getElem hi, true_and]
    by_cases e2 : v = u
    · subst e2; simp [hv]
    · simp [e2, Ne.symm e2]
  · simp [e, Ne.symm e]
def nf (r : List Bool) : Nat := r.countP fun x => !x
def fl (R : List (List Bool)) : Nat := (R.map nf).sum
theorem nf_set {l : List Bool} {k : Nat} (h : k < l.length) (h1 : l[k] = false) : nf (l.set k true) + 1 = nf l := by
  induction l generalizing k with
  | nil => cases h
  | cons x r ih =>
    cases k with
    | zero =>
      have h1' : x = false := h1
      subst h1'
      simp [nf]
    | succ k =>
      have := ih (k := k) (by simpa using h) h1
      simp only [nf, List.set_cons_succ, List.countP_cons] at this ⊢
      omega
theorem fl_set {R : List (List Bool)} {i v : Nat} (hi : i < R.length) (hv : v < R[i].length) (h1 : R[i][v] = false) : fl (R.set i (R[i].set v true)) + 1 = fl R := by
  induction R generalizing i with
  | nil => cases hi
  | cons x r ih =>
    cases i with
    | zero =>
      have := nf_set (l := x) (k := v) hv h1
      simp only [fl, List.getElem_cons_zero, List.set_cons_zero, List.map_cons, List.sum_cons] at this ⊢
      omega
    | succ i =>
      have := ih (i := i) (by simpa using hi) hv h1
      simp only [fl, List.getElem_cons_succ, List.set_cons_succ, List.map_cons, List.sum_cons] at this ⊢
      omega
/-- While the uses are put in: ahead of instruction i's k-th. -/
structure L0 (m : Mir) (i k : Nat) (W : List (Nat × Nat)) (T : Nat → Nat → Bool) : Prop where
  t : ∀ j v, T j v = true → ∃ h : j < m.code.length, (v : Int) ∈ usesL m.code[j]
  u : ∀ (j : Nat) (h : j < m.code.length), j < i → ∀ v ∈ usesL m.code[j], T j v.toNat = true
  uk : ∀ (h : i < m.code.length), ∀ v ∈ (usesL m.code[i]).take k, T i v.toNat = true
  w : ∀ p ∈ W, p.1 < m.code.length ∧ p.2 < m.locals.length ∧ T p.1 p.2 = true
  c : ∀ j v, T j v = true → (j, v) ∈ W

theorem L0.start (m : Mir) {T : Nat → Nat → Bool} (hT : ∀ j u, T j u = false) : L0 m 0 0 [] T :=
  ⟨fun j v h => (by rw [hT] at h; cases h), fun _ _ h => (by omega), fun _ v h => (by simp at h), fun p h => (by simp at h), fun j v h => (by rw [hT] at h; cases h)⟩
theorem L0.congr {m : Mir} {i k : Nat} {W : List (Nat × Nat)} {T T' : Nat → Nat → Bool} (h : L0 m i k W T) (e : ∀ j u, T' j u = T j u) : L0 m i k W T' := by
  have : T' = T := by funext j u; exact e j u
  rw [this]; exact h
theorem L0.put {m : Mir} {i k : Nat} {W : List (Nat × Nat)} {T T' : Nat → Nat → Bool} (h : L0 m i k W T) (hi : i < m.code.length) (hk : k < (usesL m.code[i]).length) {v : Nat} (hv : (usesL m.code[i])[k] = (v : Int)) (hL : v < m.locals.length)
    (e : ∀ j u, T' j u = if j = i ∧ u = v then true else T j u) : L0 m i (k + 1) (W ++ [(i, v)]) T' := by
  have up : ∀ j u, T j u = true → T' j u = true := fun j u h => by rw [e]; split <;> simp_all
  have dn : ∀ j u, T' j u = true → (j = i ∧ u = v) ∨ T j u = true := fun j u h => by rw [e] at h; split at h <;> simp_all
  refine ⟨fun j u hu => ?_, fun j hj hji w hw => up _ _ (h.u j hj hji w hw), fun _ w hw => ?_, fun p hp => ?_, fun j u hu => ?_⟩
  · rcases dn j u hu with ⟨rfl, rfl⟩ | hu
    · exact ⟨hi, by rw [← hv]; exact List.getElem_mem hk⟩
    · exact h.t j u hu
  · rw [List.take_succ_eq_append_getElem hk, List.mem_append, List.mem_singleton, hv] at hw
    rcases hw with hw | rfl
    · exact up _ _ (h.uk hi w hw)
    · rw [e, Int.toNat_natCast, if_pos ⟨rfl, rfl⟩]
  · rw [List.mem_append, List.mem_singleton] at hp
    rcases hp with hp | rfl
    · obtain ⟨a, b, c⟩ := h.w p hp
      exact ⟨a, b, up _ _ c⟩
    · exact ⟨hi, hL, by rw [e, if_pos ⟨rfl, rfl⟩]⟩
  · rw [List.mem_append, List.mem_singleton]
    rcases dn j u hu with ⟨rfl, rfl⟩ | hu
    · exact .inr rfl
    · exact .inl (h.c j u hu)
theorem L0.next {m : Mir} {i k : Nat} {W : List (Nat × Nat)} {T : Nat → Nat → Bool} (h : L0 m i k W T) (hi : i < m.code.length) (hk : (usesL m.code[i]).length ≤ k) : L0 m (i + 1) 0 W T :=
  ⟨h.t, fun j hj hji v hv => (by
    by_cases e : j = i
    · subst e; exact h.uk hj v (by rw [List.take_of_length_le hk]; exact hv)
    · exact h.u j hj (by omega) v hv), fun _ v hv => (by simp at hv), h.w, h.c⟩

/-- What a point sets, if it is there. -/
def sc (m : Mir) (j : Nat) : Int × Bool := match m.code[j]? with
  | some x => setsL x
  | none => (0, false)
theorem sc_at {m : Mir} {j : Nat} (h : j < m.code.length) : sc m j = setsL m.code[j] := by simp [sc, h]

def dnW (m : Mir) (T : Nat → Nat → Bool) (v : Nat) (y : Int) : Prop := T y.toNat v = true ∨ sc m y.toNat = ((v : Int), true)

/-- While the search goes on; 'cur': the pair in hand, the first b points ahead of it are done. -/
structure LI (m : Mir) (cur : Option (Nat × Nat × Nat)) (W : List (Nat × Nat)) (T : Nat → Nat → Bool) : Prop where
  s : ∀ i v, T i v = true → Liv m i (v : Int)
  u : ∀ (j : Nat) (h : j < m.code.length), ∀ v ∈ usesL m.code[j], T j v.toNat = true
  w : ∀ p ∈ W, p.1 < m.code.length ∧ p.2 < m.locals.length ∧ T p.1 p.2 = true
  c : ∀ i v, T i v = true → (i, v) ∈ W ∨ (∃ b, cur = some (i, v, b) ∧ ∀ y ∈ (prevs m i).take b, dnW m T v y) ∨ ∀ y ∈ prevs m i, dnW m T v y

theorem LI.start {m : Mir} {W : List (Nat × Nat)} {T : Nat → Nat → Bool} {i : Nat} (h : L0 m i 0 W T) (hi : m.code.length ≤ i) : LI m none W T :=
  ⟨fun i v hv => (by obtain ⟨a, b⟩ := h.t i v hv; exact .use a b), fun j hj => h.u j hj (by omega), h.w, fun i v hv => .inl (h.c i v hv)⟩
theorem LI.pop {m : Mir} {W : List (Nat × Nat)} {i v : Nat} {T : Nat → Nat → Bool} (h : LI m none (W ++ [(i, v)]) T) : LI m (some (i, v, 0)) W T :=
  ⟨h.s, h.u, fun p hp => h.w p (List.mem_append_left _ hp), fun j u hu => by
    rcases h.c j u hu with hc | ⟨b, hb, _⟩ | hc
    · rw [List.mem_append, List.mem_singleton] at hc
      rcases hc with hc | hc
      · exact .inl hc
      · cases hc; exact .inr (.inl ⟨0, rfl, fun y hy => by simp at hy⟩)
    · cases hb
    · exact .inr (.inr hc)⟩
theorem LI.skip {m : Mir} {W : List (Nat × Nat)} {i v b : Nat} {T : Nat → Nat → Bool} (h : LI m (some (i, v, b)) W T) (hb : b < (prevs m i).length) (hd : dnW m T v (prevs m i)[b]) : LI m (some (i, v, b + 1)) W T :=
  ⟨h.s, h.u, h.w, fun j u hu => by
    rcases h.c j u hu with hc | ⟨b', hb', hc⟩ | hc
    · exact .inl hc
    · cases hb'
      refine .inr (.inl ⟨b + 1, rfl, fun y hy => ?_⟩)
      rw [List.take_succ_eq_append_getElem hb, List.mem_append, List.mem_singleton] at hy
      rcases hy with hy | rfl
      · exact hc y hy
      · exact hd
    · exact .inr (.inr hc)⟩
theorem LI.put {m : Mir} {W : List (Nat × Nat)} {i v b k : Nat} {T T' : Nat → Nat → Bool} (h : LI m (some (i, v, b)) W T) (hb : b < (prevs m i).length) (hy : (prevs m i)[b] = (k : Int)) (hk : k < m.code.length) (hi : i ∈ nx m k) (hv : v < m.locals.length) (hT : T i v = true)
    (hs : sc m k ≠ ((v : Int), true)) (e : ∀ j u, T' j u = if j = k ∧ u = v then true else T j u) : LI m (some (i, v, b + 1)) (W ++ [(k, v)]) T' := by
  have up : ∀ j u, T j u = true → T' j u = true := fun j u h => by rw [e]; split <;> simp_all
  have dn : ∀ j u, T' j u = true → (j = k ∧ u = v) ∨ T j u = true := fun j u h => by rw [e] at h; split at h <;> simp_all
  have upd : ∀ u y, dnW m T u y → dnW m T' u y := fun u y h => h.imp (up _ _) id
  refine ⟨fun j u hu => ?_, fun j hj u hu => up _ _ (h.u j hj u hu), fun p hp => ?_, fun j u hu => ?_⟩
  · rcases dn j u hu with ⟨rfl, rfl⟩ | hu
    · exact .step hk hi (by rw [← sc_at hk]; exact hs) (h.s i u hT)
    · exact h.s j u hu
  · rw [List.mem_append, List.mem_singleton] at hp
    rcases hp with hp | rfl
    · obtain ⟨a, b, c⟩ := h.w p hp
      exact ⟨a, b, up _ _ c⟩
    · exact ⟨hk, hv, by rw [e, if_pos ⟨rfl, rfl⟩]⟩
  · rcases dn j u hu with ⟨rfl, rfl⟩ | hu
    · exact .inl (List.mem_append_right _ (List.mem_singleton.2 rfl))
    · rcases h.c j u hu with hc | ⟨b', hb', hc⟩ | hc
      · exact .inl (List.mem_append_left _ hc)
      · cases hb'
        refine .inr (.inl ⟨b + 1, rfl, fun y hy' => ?_⟩)
        rw [List.take_succ_eq_append_getElem hb, List.mem_append, List.mem_singleton] at hy'
        rcases hy' with hy' | rfl
        · exact upd _ _ (hc y hy')
        · left
          rw [hy, Int.toNat_natCast, e, if_pos ⟨rfl, rfl⟩]
      · exact .inr (.inr fun y hy' => upd _ _ (hc y hy'))
theorem LI.next {m : Mir} {W : List (Nat × Nat)} {i v b : Nat} {T : Nat → Nat → Bool} (h : LI m (some (i, v, b)) W T) (hb : (prevs m i).length ≤ b) : LI m none W T :=
  ⟨h.s, h.u, h.w, fun j u hu => by
    rcases h.c j u hu with hc | ⟨b', hb', hc⟩ | hc
    · exact .inl hc
    · cases hb'
      exact .inr (.inr fun y hy => hc y (by rw [List.take_of_length_le hb]; exact hy))
    · exact .inr (.inr hc)⟩
theorem LI.fin {m : Mir} {T : Nat → Nat → Bool} (h : LI m none [] T) (hp : ∀ {t : Nat} {y : Int}, y ∈ prevs m t ↔ ∃ j : Nat, j < m.code.length ∧ y = j ∧ t ∈ nx m j) (i : Nat) (v : Nat) : T i v = true ↔ Liv m i (v : Int) := by
  refine ⟨h.s i v, fun hl => ?_⟩
  generalize hv : (v : Int) = z at hl
  induction hl with
  | use hi hu => subst hv; have := h.u _ hi _ hu; rwa [Int.toNat_natCast] at this
  | step hi hk hs _ ih =>
    have ih := ih hv
    rcases h.c _ _ ih with hc | ⟨b, hb, _⟩ | hc
    · cases hc
    · cases hb
    · rcases hc _ (hp.2 ⟨_, hi, rfl, hk⟩) with hd | hd
      · rwa [Int.toNat_natCast] at hd
      · rw [Int.toNat_natCast, sc_at hi, hv] at hd
        exact absurd hd hs
end Go.Lg

/-
  A search forward for a use that no set stands ahead of. Plain laws.
-/
set_option linter.unusedSimpArgs false
set_option linter.unusedVariables false
namespace Go.Lg
open Go

def us (m : Mir) (j : Nat) : List Int := match m.code[j]? with
  | some x => usesL x
  | none => []
theorem us_at {m : Mir} {j : Nat} (h : j < m.code.length) : us m j = usesL m.code[j] := by simp [us, h]

structure LW (m : Mir) (v : Int) (p i : Nat) (W : List Nat) (S : Nat → Bool) (want : Bool) : Prop where
  p0 : p ∈ W
  w : ∀ w ∈ W, w < m.code.length ∧ (Liv m w v → Liv m p v)
  s : ∀ w, S w = true → w ∈ W
  t : want = true → Liv m p v
  d : want = false → ∀ (j : Nat) (h : j < W.length), j < i → v ∉ us m W[j] ∧ (sc m W[j] = (v, true) ∨ ∀ k ∈ nx m W[j], k ∈ W)

section
variable {m : Mir} {v : Int} {p i : Nat} {W : List Nat} {S S' : Nat → Bool} {want : Bool}

theorem LW.start (hp : p < m.code.length) (hS : ∀ u, S u = true → u = p) : LW m v p 0 [p] S false :=
  ⟨by simp, fun w hw => (by rw [List.mem_singleton] at hw; subst hw; exact ⟨hp, id⟩), fun w hw => (by rw [hS w hw]; simp), fun h => (by cases h), fun _ _ _ h => (by omega)⟩
theorem LW.set (B : LW m v p i W S want) (hi : i < W.length) (hw : want = decide (v ∈ us m W[i])) (hs : sc m W[i] = (v, true)) : LW m v p (i + 1) W S want :=
  ⟨B.p0, B.w, B.s, B.t, fun h j hj hji => by
    by_cases e : j = i
    · subst e
      exact ⟨by rw [h] at hw; exact of_decide_eq_false hw.symm, .inl hs⟩
    · exact B.d h j hj (by omega)⟩
theorem LW.push (B : LW m v p i W S want) (hi : i < W.length) {k : Nat} (hk : k ∈ nx m W[i]) (hkN : k < m.code.length) (hs : sc m W[i] ≠ (v, true)) (hS : ∀ u, S' u = if u = k then true else S u) : LW m v p i (W ++ [k]) S' want := by
  obtain ⟨hN, hL⟩ := B.w _ (List.getElem_mem hi)
  refine ⟨List.mem_append_left _ B.p0, fun w hw => ?_, fun w hw => ?_, B.t, fun h j hj hji => ?_⟩
  · rw [List.mem_append, List.mem_singleton] at hw
    rcases hw with hw | rfl
    · exact B.w w hw
    · exact ⟨hkN, fun hl => hL (.step hN hk (by rw [← sc_at hN]; exact hs) hl)⟩
  · rw [hS] at hw
    rw [List.mem_append, List.mem_singleton]
    split at hw
    · rename_i e; exact .inr e
    · exact .inl (B.s w hw)
  · have hj' : j < W.length := by omega
    rw [List.getElem_append_left hj']
    obtain ⟨h1, h2⟩ := B.d h j hj' hji
    exact ⟨h1, h2.imp id fun h2 k hk => List.mem_append_left _ (h2 k hk)⟩
theorem LW.next (B : LW m v p i W S want) (hi : i < W.length) (hw : want = decide (v ∈ us m W[i])) (hn : ∀ k ∈ nx m W[i], k ∈ W) : LW m v p (i + 1) W S want :=
  ⟨B.p0, B.w, B.s, B.t, fun h j hj hji => by
    by_cases e : j = i
    · subst e
      exact ⟨by rw [h] at hw; exact of_decide_eq_false hw.symm, .inr hn⟩
    · exact B.d h j hj (by omega)⟩
theorem LW.fin (B : LW m v p i W S want) (h : want = true ∨ W.length ≤ i) : want = true ↔ Liv m p v := by
  refine ⟨B.t, fun hl => ?_⟩
  cases hw : want with
  | true => rfl
  | false =>
    exfalso
    have hle : W.length ≤ i := by
      rcases h with h | h
      · rw [hw] at h; cases h
      · exact h
    have key : ∀ (u : Nat) (z : Int), Liv m u z → z = v → u ∈ W → False := by
      intro u z hu
      induction hu with
      | use hi hu =>
        rintro rfl hm
        obtain ⟨j, hj, rfl⟩ := List.mem_iff_getElem.1 hm
        exact (B.d hw j hj (by omega)).1 (by rw [us_at hi]; exact hu)
      | step hi hk hs _ ih =>
        rintro rfl hm
        obtain ⟨j, hj, rfl⟩ := List.mem_iff_getElem.1 hm
        rcases (B.d hw j hj (by omega)).2 with h2 | h2
        · rw [sc_at hi] at h2; exact hs h2
        · exact ih rfl (h2 _ hk)
    exact key p v hl rfl B.p0
end
end Go.Lg
