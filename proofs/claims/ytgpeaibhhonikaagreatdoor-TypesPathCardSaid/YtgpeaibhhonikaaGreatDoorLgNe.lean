/-
  A region whose last operation waits for all the others: those run in whatever order, the last one is walked into.
-/
import Derived.Test.YtgpeaibhhonikaaGreatDoorLgNd
set_option linter.unusedSimpArgs false
set_option linter.unusedVariables false
namespace Go.Lg
open Go Go.RowKit

section
variable {P : Program} {E : Env} {σe : St} {rid : Nat} {lo : Nat → LOp} {ops : Array Oper} {Q : Exit → Act → World → Prop}
theorem chk_of {bs : List Nat} (hchk : depsChk ops bs = true) : ∀ (i : Nat) (o : Oper), ops[i]? = some o → (∀ k ∈ depsOf o, k < i) ∧ ∀ j, j < i → (bs.getD i 0).testBit j = true → ∃ k ∈ depsOf o, k = j ∨ j < k ∧ (bs.getD k 0).testBit j = true := by
  intro i o ho
  have hlt : i < ops.size := by
    rcases Nat.lt_or_ge i ops.size with h | h
    · exact h
    · rw [Array.getElem?_eq_none h] at ho; cases ho
  have := List.all_eq_true.1 hchk i (List.mem_range.2 hlt)
  simp only [ho, Bool.and_eq_true] at this
  obtain ⟨c1, c2⟩ := this
  refine ⟨fun k hk => by simpa using List.all_eq_true.1 c1 k hk, fun j hj hb => ?_⟩
  have c3 := List.all_eq_true.1 c2 j (List.mem_range.2 hj)
  rw [if_pos hb] at c3
  obtain ⟨k, hk, hk2⟩ := List.any_eq_true.1 c3
  refine ⟨k, hk, ?_⟩
  simpa using hk2
theorem hbit_of {bs : List Nat} (hchk : depsChk ops bs = true) {listed : Array Bool} {rem : List Nat} (hinv : Inv ops bs listed rem) {i : Nat} {o : Oper} (ho : ops[i]? = some o) (h1 : i < ops.size) (hdeps : ∀ k ∈ depsOf o, listed.getD k false = true) :
    ∀ j, j < i → listed.getD j true = false → (bs.getD i 0).testBit j = false := by
  intro j hj hl
  by_cases hb : (bs.getD i 0).testBit j = true
  · obtain ⟨k, hk, hk2⟩ := (chk_of hchk i o ho).2 j hj hb
    have hki := (chk_of hchk i o ho).1 k hk
    have hkl := hdeps k hk
    have hks : k < listed.size := by rw [hinv.size]; omega
    have hkl' : listed.getD k true = true := by
      simp only [Array.getD_eq_getD_getElem?, Array.getElem?_eq_getElem hks, Option.getD_some] at hkl ⊢
      exact hkl
    rcases hk2 with rfl | hk2
    · rw [hkl'] at hl; cases hl
    · have := hinv.down k (by omega) hkl' j hk2.1 hk2.2
      rw [this] at hl; cases hl
  · simpa using hb
theorem inv_step {bs : List Nat} {listed : Array Bool} {pre post : List Nat} {i : Nat} (hinv : Inv ops bs listed (pre ++ i :: post)) (h1 : i < ops.size) (hbit : ∀ j, j < i → listed.getD j true = false → (bs.getD i 0).testBit j = false) :
    Inv ops bs (listed.setIfInBounds i true) (pre ++ post) := by
  have hsorted := hinv.sorted
  rw [List.pairwise_append] at hsorted
  obtain ⟨s1, s2, s3⟩ := hsorted
  obtain ⟨s4, s5⟩ := List.pairwise_cons.1 s2
  have hget : ∀ k, (listed.setIfInBounds i true).getD k true = if k = i then true else listed.getD k true := by
    intro k
    simp only [Array.getD_eq_getD_getElem?]
    by_cases e : k = i
    · subst e
      have : k < listed.size := by rw [hinv.size]; exact h1
      simp [this]
    · rw [if_neg e, Array.getElem?_setIfInBounds_ne (Ne.symm e)]
  refine ⟨by simpa using hinv.size, ?_, fun k => ?_, fun k hk hl j hj hb => ?_⟩
  · rw [List.pairwise_append]
    exact ⟨s1, s5, fun x hx y hy => s3 x hx y (List.mem_cons_of_mem _ hy)⟩
  · rw [hget]
    have hm := hinv.mem k
    simp only [List.mem_append, List.mem_cons] at hm ⊢
    by_cases e : k = i
    · subst e
      rw [if_pos rfl]
      constructor
      · rintro (h | h)
        · have := s3 k h k (List.mem_cons_self ..); omega
        · have := s4 k h; omega
      · rintro ⟨_, h⟩; cases h
    · rw [if_neg e, ← hm]
      constructor
      · rintro (h | h)
        · exact .inl h
        · exact .inr (.inr h)
      · rintro (h | h | h)
        · exact .inl h
        · exact absurd h e
        · exact .inr h
  · rw [hget] at hl ⊢
    by_cases e : k = i
    · subst e
      split
      · rfl
      · by_cases hjl : listed.getD j true = true
        · exact hjl
        · have := hbit j hj (by simpa using hjl)
          rw [this] at hb; cases hb
    · rw [if_neg e] at hl
      split
      · rfl
      · exact hinv.down k hk hl j hj hb
theorem ready_nil {bs : List Nat} (hchk : depsChk ops bs = true) {listed : Array Bool} {rem : List Nat} (hinv : Inv ops bs listed rem) (hr : Region.ready .any ops listed = []) : rem = [] := by
  cases rem with
  | nil => rfl
  | cons i r =>
    exfalso
    obtain ⟨h1, h2⟩ := (hinv.mem i).1 (List.mem_cons_self ..)
    have hmin : ∀ b ∈ r, i < b := fun b hb => List.rel_of_pairwise_cons hinv.sorted hb
    have : i ∈ Region.ready .any ops listed := ready_iff.2 ⟨h1, h2, ops[i], Array.getElem?_eq_getElem h1, fun k hk => by
      have hki := (chk_of hchk i _ (Array.getElem?_eq_getElem h1)).1 k hk
      have hnm : k ∉ i :: r := by
        intro hm
        rcases List.mem_cons.1 hm with rfl | hm
        · omega
        · have := hmin k hm; omega
      have hk' : ¬ (listed.getD k true = false) := fun h => hnm ((hinv.mem k).2 ⟨by omega, h⟩)
      have hks : k < listed.size := by rw [hinv.size]; omega
      simp only [Array.getD_eq_getD_getElem?, Array.getElem?_eq_getElem hks, Option.getD_some] at hk' ⊢
      simpa using hk'⟩
    rw [hr] at this; cases this

theorem any_soundL [EOk P E] {ev : Nat → Ev} {bs : List Nat} {n : Nat} {K : St → Prop} (hlo : ∀ i o, ops[i]? = some o → lo i = trO P ops o) (hall : ops.toList.all (opOk E.N ops) = true) (hchk : depsChk ops bs = true)
    (hsz : ops.size = n + 1) (hlast : ∀ j, j < n → (bs.getD n 0).testBit j = true)
    (hev : ∀ i, i < n → EvOk P (siteOf rid i) (lo i) (ev i)) (hcmp : ∀ i j, j < i → i < n → (bs.getD i 0).testBit j = false → cmpE (lo j) (ev j) (lo i) (ev i))
    (hst : vstepC P (siteOf rid n) (lo n) K σe) (hQ : ∀ σ' a' w', K σ' → Sim E σ' a' w' → Q .normal a' w') :
    ∀ (fuel : Nat) (listed : Array Bool) (rem : List Nat) (σ : St) (a : Act) (w : World), rem.length = fuel → Inv ops bs listed (rem ++ [n]) → RunE rid lo ev rem σ σe → Sim E σ a w → wpAny P .any ops Q (fuel + 1) listed a w := by
  have opk : ∀ i o, ops[i]? = some o → opOk E.N ops o = true := fun i o ho => List.all_eq_true.1 hall o (by
    rw [List.mem_iff_getElem?]
    exact ⟨i, by rw [Array.getElem?_toList]; exact ho⟩)
  intro fuel
  induction fuel with
  | zero =>
    intro listed rem σ a w hlen hinv hrun hs
    have hrem : rem = [] := List.eq_nil_of_length_eq_zero hlen
    subst hrem
    refine ⟨fun hr => ?_, fun i hi => ?_⟩
    · have := ready_nil hchk hinv hr
      cases this
    · obtain ⟨h1, h2, o, ho, hdeps⟩ := ready_iff.1 hi
      have him := (hinv.mem i).2 ⟨h1, h2⟩
      obtain rfl : i = n := by simpa using him
      cases hrun
      have hst' := hst
      rw [hlo i o ho] at hst'
      refine wpOp_of_vstepC ho (opk i o ho) hs hst' fun σ' a' w' hσ hs' => ⟨?_, hQ σ' a' w' hσ hs'⟩
      have hinv' := inv_step (pre := []) (post := []) hinv h1 (hbit_of hchk hinv ho h1 hdeps)
      rw [List.eq_nil_iff_forall_not_mem]
      intro j hj
      obtain ⟨j1, j2, _⟩ := ready_iff.1 hj
      have := (hinv'.mem j).2 ⟨j1, j2⟩
      cases this
  | succ fuel ih =>
    intro listed rem σ a w hlen hinv hrun hs
    refine ⟨fun hr => ?_, fun i hi => ?_⟩
    · have := ready_nil hchk hinv hr
      simp at this
    · obtain ⟨h1, h2, o, ho, hdeps⟩ := ready_iff.1 hi
      have him := (hinv.mem i).2 ⟨h1, h2⟩
      have hbit := hbit_of hchk hinv ho h1 hdeps
      have hrn : ∀ j ∈ rem, j < n := by
        have := hinv.sorted
        rw [List.pairwise_append] at this
        exact fun j hj => this.2.2 j hj n (List.mem_singleton.2 rfl)
      rcases List.mem_append.1 him with him | him
      · have hin := hrn i him
        obtain ⟨pre, post, rfl⟩ := List.append_of_mem him
        have hinv2 : Inv ops bs listed (pre ++ i :: (post ++ [n])) := by simpa [List.append_assoc] using hinv
        have hsorted := hinv2.sorted
        rw [List.pairwise_append] at hsorted
        obtain ⟨s1, s2, s3⟩ := hsorted
        obtain ⟨hrdy, hrest⟩ := bubbleE hrun (fun j hj => by
          have hji : j < i := s3 j hj i (List.mem_cons_self ..)
          have hjl := ((hinv2.mem j).1 (List.mem_append_left _ hj)).2
          exact ⟨by omega, hcmp i j hji hin (hbit j hji hjl)⟩)
        have hst' := hev i hin σ hrdy (fun σ' => σ' = apE (siteOf rid i) (lo i).dst (ev i) σ) rfl
        rw [hlo i o ho] at hst' hrest
        refine wpOp_of_vstepC ho (opk i o ho) hs hst' fun σ' a' w' hσ hs' => ih _ (pre ++ post) _ a' w' ?_ ?_ hrest (hσ ▸ hs')
        · simp at hlen ⊢; omega
        · have := inv_step hinv2 h1 hbit
          simpa [List.append_assoc] using this
      · exfalso
        obtain rfl : i = n := List.mem_singleton.1 him
        cases rem with
        | nil => cases hlen
        | cons j r =>
          have hj := hrn j (List.mem_cons_self ..)
          have hjl := ((hinv.mem j).1 (List.mem_append_left _ (List.mem_cons_self ..))).2
          have := hbit j hj hjl
          rw [hlast j hj] at this; cases this

/-- The same where the order of the others does not matter by the closed check. -/
theorem any_soundS [EOk P E] {los : List LOp} {bs : List Nat} {n : Nat} {K : St → Prop} (hlos : los = ops.toList.map (trO P ops)) (hlo : ∀ i x, los[i]? = some x → lo i = x) (hall : ops.toList.all (opOk E.N ops) = true) (hdr : drawOk ops los bs = true) (hchk : depsChk ops bs = true)
    (hsz : ops.size = n + 1) (hlast : ∀ j, j < n → (bs.getD n 0).testBit j = true)
    (hst : vstepM P (siteOf rid n) (lo n) K σe) (hQ : ∀ σ' a' w', K σ' → Sim E σ' a' w' → Q .normal a' w') :
    ∀ (fuel : Nat) (listed : Array Bool) (rem : List Nat) (σ : St) (a : Act) (w : World), rem.length = fuel → Inv ops bs listed (rem ++ [n]) → Run P rid lo rem σ σe → Sim E σ a w → wpAny P .any ops Q (fuel + 1) listed a w := by
  have los_get : ∀ (i : Nat) (o : Oper), ops[i]? = some o → los[i]? = some (trO P ops o) := by
    intro i o ho
    rw [hlos, List.getElem?_map, Array.getElem?_toList, ho]; rfl
  have chk : ∀ (i : Nat) (o : Oper), ops[i]? = some o → conOk (trO P ops o).op = true ∧ ∀ j, j < i → ∃ x, los[j]? = some x ∧ ((bs.getD i 0).testBit j = false → indep x (trO P ops o) = true) := by
    intro i o ho
    have hlt : i < ops.size := by
      rcases Nat.lt_or_ge i ops.size with h | h
      · exact h
      · rw [Array.getElem?_eq_none h] at ho; cases ho
    have := List.all_eq_true.1 hdr i (List.mem_range.2 hlt)
    simp only [ho, los_get i o ho, Bool.and_eq_true] at this
    obtain ⟨⟨c1, c0⟩, c2⟩ := this
    refine ⟨c0, fun j hj => ?_⟩
    have c3 := List.all_eq_true.1 c2 j (List.mem_range.2 hj)
    cases hx : los[j]? with
    | none => simp [hx] at c3
    | some x =>
      simp only [hx] at c3
      refine ⟨x, rfl, fun hb => ?_⟩
      rw [hb] at c3
      exact c3
  have opk : ∀ i o, ops[i]? = some o → opOk E.N ops o = true := fun i o ho => List.all_eq_true.1 hall o (by
    rw [List.mem_iff_getElem?]
    exact ⟨i, by rw [Array.getElem?_toList]; exact ho⟩)
  intro fuel
  induction fuel with
  | zero =>
    intro listed rem σ a w hlen hinv hrun hs
    have hrem : rem = [] := List.eq_nil_of_length_eq_zero hlen
    subst hrem
    refine ⟨fun hr => ?_, fun i hi => ?_⟩
    · have := ready_nil hchk hinv hr
      cases this
    · obtain ⟨h1, h2, o, ho, hdeps⟩ := ready_iff.1 hi
      have him := (hinv.mem i).2 ⟨h1, h2⟩
      obtain rfl : i = n := by simpa using him
      cases hrun
      have hst' := hst
      rw [hlo i _ (los_get i o ho)] at hst'
      refine wpOp_of_vstepM ho (opk i o ho) hs hst' fun σ' a' w' hσ hs' => ⟨?_, hQ σ' a' w' hσ hs'⟩
      have hinv' := inv_step (pre := []) (post := []) hinv h1 (hbit_of hchk hinv ho h1 hdeps)
      rw [List.eq_nil_iff_forall_not_mem]
      intro j hj
      obtain ⟨j1, j2, _⟩ := ready_iff.1 hj
      have := (hinv'.mem j).2 ⟨j1, j2⟩
      cases this
  | succ fuel ih =>
    intro listed rem σ a w hlen hinv hrun hs
    refine ⟨fun hr => ?_, fun i hi => ?_⟩
    · have := ready_nil hchk hinv hr
      simp at this
    · obtain ⟨h1, h2, o, ho, hdeps⟩ := ready_iff.1 hi
      have him := (hinv.mem i).2 ⟨h1, h2⟩
      have hbit := hbit_of hchk hinv ho h1 hdeps
      have hrn : ∀ j ∈ rem, j < n := by
        have := hinv.sorted
        rw [List.pairwise_append] at this
        exact fun j hj => this.2.2 j hj n (List.mem_singleton.2 rfl)
      rcases List.mem_append.1 him with him | him
      · obtain ⟨pre, post, rfl⟩ := List.append_of_mem him
        have hinv2 : Inv ops bs listed (pre ++ i :: (post ++ [n])) := by simpa [List.append_assoc] using hinv
        have hsorted := hinv2.sorted
        rw [List.pairwise_append] at hsorted
        obtain ⟨s1, s2, s3⟩ := hsorted
        obtain ⟨σ1, hstp, hrest⟩ := bubble hs.wf (hs.md (by rw [hlo i _ (los_get i o ho)]; exact (chk i o ho).1)) hrun (fun j hj => by
          have hji : j < i := s3 j hj i (List.mem_cons_self ..)
          have hjl := ((hinv2.mem j).1 (List.mem_append_left _ hj)).2
          obtain ⟨x, hx, hind⟩ := (chk i o ho).2 j hji
          refine ⟨by omega, ?_⟩
          rw [hlo j x hx, hlo i _ (los_get i o ho)]
          exact hind (hbit j hji hjl))
        rw [hlo i _ (los_get i o ho)] at hstp
        refine wpOp_of_step ho (opk i o ho) hs hstp fun a' w' hs' => ih _ (pre ++ post) σ1 a' w' ?_ ?_ hrest hs'
        · simp at hlen ⊢; omega
        · have := inv_step hinv2 h1 hbit
          simpa [List.append_assoc] using this
      · exfalso
        obtain rfl : i = n := List.mem_singleton.1 him
        cases rem with
        | nil => cases hlen
        | cons j r =>
          have hj := hrn j (List.mem_cons_self ..)
          have hjl := ((hinv.mem j).1 (List.mem_append_left _ (List.mem_cons_self ..))).2
          have := hbit j hj hjl
          rw [hlast j hj] at this; cases this
end
end Go.Lg
