/-
  What comes in as a value of the program's plain types is one of the Lean values.
-/
import Derived.Test.YtobhpkagbmadlaaMirA
import Derived.Test.YtobhpkagbmadlaaProg
set_option linter.unusedSimpArgs false
set_option linter.unusedVariables false
namespace Go.Proofs.Ytobhpkagbmadlaa
open Go Go.Lg Go.RowKit


theorem tyInt : IsT Try.prog 3 (fun n : Int => cI n) InI64 := isInt (by kernel_rfl)
theorem tyBool : IsT Try.prog 4 (fun n : Bool => cB n) (fun _ => True) := isBool (by kernel_rfl)
theorem tyStr : IsT Try.prog 9 (fun n : ByteArray => cS n) (fun s => s.size ≤ maxLen) := isStr (by kernel_rfl)
theorem tyInts : IsT Try.prog 33 (fun l : List Int => [encL cI l]) (fun l => l.length ≤ maxLen ∧ ∀ x ∈ l, InI64 x) := isSl (e := 3) (s := 1) (by kernel_rfl) (by decide) cI_len tyInt
theorem tyStrs : IsT Try.prog 37 (fun l : List ByteArray => [encL cS l]) (fun l => l.length ≤ maxLen ∧ ∀ x ∈ l, x.size ≤ maxLen) := isSl (e := 9) (s := 1) (by kernel_rfl) (by decide) cS_len tyStr

theorem tyPath : IsT Try.prog 39 MPath.cells MPath.ok := by
  intro xs hx
  have hp := hx.st (ts := [3, 37]) (by kernel_rfl)
  obtain ⟨_, _, rfl, h0, _, _, rfl, h1, rfl⟩ := hp
  obtain ⟨l, rfl, o0⟩ := tyInt _ h0
  obtain ⟨s, rfl, o1⟩ := tyStrs _ h1
  exact ⟨⟨l, s⟩, by simp [MPath.cells, cI], o0, o1.1, o1.2⟩

theorem tyOper : IsT Try.prog 41 MOper.cells MOper.ok := by
  intro xs hx
  have hp := hx.st (ts := [3, 3, 39]) (by kernel_rfl)
  obtain ⟨_, _, rfl, h0, _, _, rfl, h1, _, _, rfl, h2, rfl⟩ := hp
  obtain ⟨k, rfl, o0⟩ := tyInt _ h0
  obtain ⟨n, rfl, o1⟩ := tyInt _ h1
  obtain ⟨p, rfl, o2⟩ := tyPath _ h2
  exact ⟨⟨k, n, p⟩, by rw [MOper.cells_split], o0, o1, o2⟩
theorem tyOpers : IsT Try.prog 42 (fun l : List MOper => [encL MOper.cells l]) (fun l => l.length ≤ maxLen ∧ ∀ x ∈ l, x.ok) := isSl (e := 41) (s := 4) (by kernel_rfl) (by decide) MOper.len tyOper

theorem tyVal : IsT Try.prog 44 MVal.cells MVal.ok := by
  intro xs hx
  have hp := hx.st (ts := [3, 41, 41, 3, 39, 3, 9, 33, 42]) (by kernel_rfl)
  obtain ⟨_, _, rfl, h0, _, _, rfl, h1, _, _, rfl, h2, _, _, rfl, h3, _, _, rfl, h4, _, _, rfl, h5, _, _, rfl, h6, _, _, rfl, h7, _, _, rfl, h8, rfl⟩ := hp
  obtain ⟨x0, rfl, o0⟩ := tyInt _ h0
  obtain ⟨x1, rfl, o1⟩ := tyOper _ h1
  obtain ⟨x2, rfl, o2⟩ := tyOper _ h2
  obtain ⟨x3, rfl, o3⟩ := tyInt _ h3
  obtain ⟨x4, rfl, o4⟩ := tyPath _ h4
  obtain ⟨x5, rfl, o5⟩ := tyInt _ h5
  obtain ⟨x6, rfl, o6⟩ := tyStr _ h6
  obtain ⟨x7, rfl, o7⟩ := tyInts _ h7
  obtain ⟨x8, rfl, o8⟩ := tyOpers _ h8
  exact ⟨⟨x0, x1, x2, x3, x4, x5, x6, x7, x8⟩, by rw [MVal.cells_split], o0, o1, o2, o3, o4, o5, o6, o7, o8⟩

theorem tyInst : IsT Try.prog 46 MInst.cells MInst.ok := by
  intro xs hx
  have hp := hx.st (ts := [3, 3, 4, 39, 44, 33]) (by kernel_rfl)
  obtain ⟨_, _, rfl, h0, _, _, rfl, h1, _, _, rfl, h2, _, _, rfl, h3, _, _, rfl, h4, _, _, rfl, h5, rfl⟩ := hp
  obtain ⟨x0, rfl, o0⟩ := tyInt _ h0
  obtain ⟨x1, rfl, o1⟩ := tyInt _ h1
  obtain ⟨x2, rfl, o2⟩ := tyBool _ h2
  obtain ⟨x3, rfl, o3⟩ := tyPath _ h3
  obtain ⟨x4, rfl, o4⟩ := tyVal _ h4
  obtain ⟨x5, rfl, o5⟩ := tyInts _ h5
  exact ⟨⟨x0, x1, x2, x3, x4, x5⟩, by rw [MInst.cells_split], o0, o1, o3, o4, o5⟩
theorem tyInsts : IsT Try.prog 24 (fun l : List MInst => [encL MInst.cells l]) (fun l => l.length ≤ maxLen ∧ ∀ x ∈ l, x.ok) := isSl (e := 46) (s := 22) (by kernel_rfl) (by decide) MInst.len tyInst

theorem tyRT0 : ∀ (t : TypeId) (xs : List V), Ty Try.prog t xs → (t = 67 → ∃ x : RT, xs = x.cells ∧ x.ok) ∧ (t = 65 → ∃ l : List RT, xs = [encL RT.cells l] ∧ l.length ≤ maxLen ∧ ∀ x ∈ l, x.ok) := by
  intro t xs h
  induction h with
  | struct t fs cs hu hl hf ih =>
    refine ⟨fun e => ?_, fun e => ?_⟩
    · subst e
      have hs : stF Try.prog 67 = some [3, 9, 33, 65] := by kernel_rfl
      unfold stF at hs
      simp only [hu] at hs
      split at hs
      case isFalse => cases hs
      rename_i ht
      simp only [Option.some.injEq] at hs
      simp only [tileOk, hu, beq_iff_eq] at ht
      have hp := pcs_of (Q := fun t xs => Ty Try.prog t xs ∧ ((t = 67 → ∃ x : RT, xs = x.cells ∧ x.ok) ∧ (t = 65 → ∃ l : List RT, xs = [encL RT.cells l] ∧ l.length ≤ maxLen ∧ ∀ x ∈ l, x.ok))) (xs := cs) fs.toList 0 _ ht hl (fun f hm => ⟨hf f hm, ih f hm⟩)
      rw [hs, List.drop_zero] at hp
      obtain ⟨_, _, rfl, h0, _, _, rfl, h1, _, _, rfl, h2, _, _, rfl, h3, rfl⟩ := hp
      obtain ⟨x0, rfl, o0⟩ := tyInt _ h0.1
      obtain ⟨x1, rfl, o1⟩ := tyStr _ h1.1
      obtain ⟨x2, rfl, o2⟩ := tyInts _ h2.1
      obtain ⟨x3, rfl, o3⟩ := h3.2.2 rfl
      exact ⟨.mk x0 x1 x2 x3, by rw [RT.cells_eq]; rfl, (RT.ok_iff _).2 ⟨o0, o1, o2, o3⟩⟩
    · subst e
      have hs : slF Try.prog 65 = some (67, 4) := by kernel_rfl
      simp [slF, hu] at hs
  | slice t e n cs hu hl hn hi ih =>
    refine ⟨fun e => ?_, fun e => ?_⟩
    · subst e
      have hs : stF Try.prog 67 = some [3, 9, 33, 65] := by kernel_rfl
      simp [stF, hu] at hs
    · subst e
      have hs : slF Try.prog 65 = some (67, 4) := by kernel_rfl
      simp only [slF, hu, Option.some.injEq, Prod.mk.injEq] at hs
      obtain ⟨rfl, hs⟩ := hs
      rw [hs] at hl ih
      obtain ⟨l, h1, h2, h3⟩ := list_of_pcs (f := RT.cells) (ok := RT.ok) RT.len n cs hl fun i h => (ih i h).1 rfl
      exact ⟨l, by simp only [encL]; rw [← h2, h1], by omega, h3⟩
  | bool t b hu => exact ⟨fun e => by subst e; have hs : stF Try.prog 67 = some [3, 9, 33, 65] := by kernel_rfl
                                      simp [stF, hu] at hs, fun e => by subst e; have hs : slF Try.prog 65 = some (67, 4) := by kernel_rfl
                                                                        simp [slF, hu] at hs⟩
  | int t k n hu => exact ⟨fun e => by subst e; have hs : stF Try.prog 67 = some [3, 9, 33, 65] := by kernel_rfl
                                       simp [stF, hu] at hs, fun e => by subst e; have hs : slF Try.prog 65 = some (67, 4) := by kernel_rfl
                                                                         simp [slF, hu] at hs⟩
  | str t s hu => exact ⟨fun e => by subst e; have hs : stF Try.prog 67 = some [3, 9, 33, 65] := by kernel_rfl
                                     simp [stF, hu] at hs, fun e => by subst e; have hs : slF Try.prog 65 = some (67, 4) := by kernel_rfl
                                                                       simp [slF, hu] at hs⟩
  | array t n e cs hu => exact ⟨fun e => by subst e; have hs : stF Try.prog 67 = some [3, 9, 33, 65] := by kernel_rfl
                                            simp [stF, hu] at hs, fun e => by subst e; have hs : slF Try.prog 65 = some (67, 4) := by kernel_rfl
                                                                              simp [slF, hu] at hs⟩
  | other t d hu ho => exact ⟨fun e => by subst e; have hs : stF Try.prog 67 = some [3, 9, 33, 65] := by kernel_rfl
                                          simp only [stF, hu] at hs; cases d <;> simp_all [otherOk], fun e => by subst e; have hs : slF Try.prog 65 = some (67, 4) := by kernel_rfl
                                                                                                                 simp only [slF, hu] at hs; cases d <;> simp_all [otherOk]⟩
theorem tyRT : IsT Try.prog 67 RT.cells RT.ok := fun xs h => (tyRT0 _ xs h).1 rfl

theorem tyLocal : IsT Try.prog 69 MLocal.cells MLocal.ok := by
  intro xs hx
  have hp := hx.st (ts := [9, 67, 4]) (by kernel_rfl)
  obtain ⟨_, _, rfl, h0, _, _, rfl, h1, _, _, rfl, h2, rfl⟩ := hp
  obtain ⟨x0, rfl, o0⟩ := tyStr _ h0
  obtain ⟨x1, rfl, o1⟩ := tyRT _ h1
  obtain ⟨x2, rfl, o2⟩ := tyBool _ h2
  exact ⟨⟨x0, x1, x2⟩, by rw [MLocal.cells_split], o0, o1⟩
theorem tyLocals : IsT Try.prog 23 (fun l : List MLocal => [encL MLocal.cells l]) (fun l => l.length ≤ maxLen ∧ ∀ x ∈ l, x.ok) := isSl (e := 69) (s := 6) (by kernel_rfl) (by decide) MLocal.len tyLocal

theorem tyPair : IsT Try.prog 70 (fun l : List Int => l.flatMap cI) (fun l => l.length = 2 ∧ ∀ x ∈ l, InI64 x) := isAr (e := 3) (s := 1) (by kernel_rfl) (by kernel_rfl) cI_len tyInt

theorem tyKnown : IsT Try.prog 22 (fun l : List (List Int) => [encL (fun k : List Int => k.flatMap cI) l]) (fun l => l.length ≤ maxLen ∧ ∀ k ∈ l, k.length = 2 ∧ ∀ x ∈ k, InI64 x) := by
  intro xs hx
  obtain ⟨n, cs, rfl, hl, hn, hi⟩ := hx.sl (e := 70) (s := 2) (by kernel_rfl) (by decide)
  have key : ∀ (n : Nat) (cs : List V), cs.length = n * 2 → (∀ i, i < n → Ty Try.prog 70 ((cs.drop (i * 2)).take 2)) → ∃ l : List (List Int), l.length = n ∧ cs = l.flatMap (fun k : List Int => k.flatMap cI) ∧ ∀ k ∈ l, k.length = 2 ∧ ∀ x ∈ k, InI64 x := by
    intro n
    induction n with
    | zero => intro cs hl _; exact ⟨[], rfl, List.eq_nil_of_length_eq_zero (by omega), fun x h => by cases h⟩
    | succ n ih =>
      intro cs hl h
      obtain ⟨x, hx, hox⟩ := tyPair _ (h 0 (by omega))
      obtain ⟨l, h1, h2, h3⟩ := ih (cs.drop 2) (by rw [List.length_drop, hl]; omega) fun i hi => by
        have := h (i + 1) (by omega)
        rw [List.drop_drop, show 2 + i * 2 = (i + 1) * 2 by omega]
        exact this
      refine ⟨x :: l, by simp [h1], ?_, fun y hy => ?_⟩
      · simp only [Nat.zero_mul, List.drop_zero] at hx
        rw [List.flatMap_cons, ← h2, ← hx, List.take_append_drop]
      · rcases List.mem_cons.1 hy with rfl | hy
        · exact hox
        · exact h3 y hy
  obtain ⟨l, h1, h2, h3⟩ := key n cs hl hi
  exact ⟨l, by simp only [encL]; rw [← h2, h1], by omega, h3⟩

theorem tyMir : IsT Try.prog 26 Mir.cells Mir.ok := by
  intro xs hx
  have hp := hx.st (ts := [3, 3, 3, 22, 23, 24]) (by kernel_rfl)
  obtain ⟨_, _, rfl, h0, _, _, rfl, h1, _, _, rfl, h2, _, _, rfl, h3, _, _, rfl, h4, _, _, rfl, h5, rfl⟩ := hp
  obtain ⟨x0, rfl, o0⟩ := tyInt _ h0
  obtain ⟨x1, rfl, o1⟩ := tyInt _ h1
  obtain ⟨x2, rfl, o2⟩ := tyInt _ h2
  obtain ⟨x3, rfl, o3⟩ := tyKnown _ h3
  obtain ⟨x4, rfl, o4⟩ := tyLocals _ h4
  obtain ⟨x5, rfl, o5⟩ := tyInsts _ h5
  exact ⟨⟨x0, x1, x2, x3, x4, x5⟩, by simp [Mir.cells, cI], o0, o1, o2, o3, o4, o5⟩

end Go.Proofs.Ytobhpkagbmadlaa
