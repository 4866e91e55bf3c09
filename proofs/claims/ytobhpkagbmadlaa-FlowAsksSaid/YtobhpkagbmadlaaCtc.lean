import Derived.Test.YtobhpkagbmadlaaCta
import Derived.Test.YtobhpkagbmadlaaFlowB
set_option linter.unusedSimpArgs false
set_option linter.unusedVariables false
namespace Go.Proofs.Ytobhpkagbmadlaa
open Go Go.Lg Go.RowKit
set_option maxRecDepth 20000

theorem rreach_ret (m : Mir) (hg : okG m) (hs : PRet Try.prog 23 [.agg m.cells] (encL cI ((List.range m.code.length).map (dist0 (nx m) 0)))) : PRet Try.prog 22 [.agg m.cells] (encL cB ((List.range m.code.length).map fun t => decide (0 ≤ dist0 (nx m) 0 t))) := by
  have hN := hg.le
  have hSl : ((List.range m.code.length).map (dist0 (nx m) 0)).length = m.code.length := by simp
  have hSg : ∀ (i : Nat) (hi : i < ((List.range m.code.length).map (dist0 (nx m) 0)).length), ((List.range m.code.length).map (dist0 (nx m) 0))[i] = dist0 (nx m) 0 i := by intro i hi; simp
  generalize (List.range m.code.length).map (dist0 (nx m) 0) = S at hs hSl hSg
  refine pret_intro_l fd22 (by simp) ?_
  simp only [lc22, VC0, VC1, VC2, VC3, VC4, VC5, VC6, reduceIte, reduceCtorEq, Nat.reduceEqDiff, Nat.reduceAdd, Nat.reduceMul, Nat.reduceBEq, Nat.reduceLT, Nat.reduceLeDiff, Int.reduceEq, Int.reduceLT, Int.reduceLE, Int.reduceNeg, Int.reduceToNat, Int.reduceAdd, Nat.reduceDiv, encL, MC0, MC1, MC2]
  refine callX_of hs (.inl rfl) ?_
  simp only [VC0, VC1, VC2, VC3, VC4, VC5, VC6, reduceIte, reduceCtorEq, Nat.reduceEqDiff, Nat.reduceAdd, Nat.reduceMul, Nat.reduceBEq, Nat.reduceLT, Nat.reduceLeDiff, Int.reduceEq, Int.reduceLT, Int.reduceLE, Int.reduceNeg, Int.reduceToNat, Int.reduceAdd, Nat.reduceDiv, encL, MC0, MC1, MC2, hSl]
  refine And.intro (by omega) ?_
  refine loop_vcg (ι := Nat × List Bool × (Nat → Nat)) (fun (k, o, c) => stO [(3, .val (encL cI S)), (4, .own 1 m.code.length (o.flatMap cB)), (5, .val (.int .i64 k))] c)
    (fun (k, o, _) => k ≤ m.code.length ∧ o.length = m.code.length ∧ (∀ t, t < m.code.length → o[t]? = some (if t < k then decide (0 ≤ dist0 (nx m) 0 t) else false))) (fun (k, _, _) => m.code.length - k) (0, List.replicate m.code.length false, _)
    ⟨Nat.zero_le _, by simp, fun t ht => by simp [ht]⟩ (ent_of _ [] rfl rfl (by simp only [VC0, VC1, VC2, VC3, VC4, VC5, VC6, reduceIte, reduceCtorEq, Nat.reduceEqDiff, Nat.reduceAdd, Nat.reduceMul, Nat.reduceBEq, Nat.reduceLT, Nat.reduceLeDiff, Int.reduceEq, Int.reduceLT, Int.reduceLE, Int.reduceNeg, Int.reduceToNat, Int.reduceAdd, Nat.reduceDiv, encL, MC0, MC1, MC2, hSl])) ?_
  rintro ⟨k, o, c⟩ ⟨hk, hol, hov⟩
  simp only [VC0, VC1, VC2, VC3, VC4, VC5, VC6, reduceIte, reduceCtorEq, Nat.reduceEqDiff, Nat.reduceAdd, Nat.reduceMul, Nat.reduceBEq, Nat.reduceLT, Nat.reduceLeDiff, Int.reduceEq, Int.reduceLT, Int.reduceLE, Int.reduceNeg, Int.reduceToNat, Int.reduceAdd, Nat.reduceDiv, encL, MC0, MC1, MC2, hSl]
  refine condD_of (fun h => ?_) (fun h => ?_)
  · have hk' : k < m.code.length := by omega
    have hin : 0 ≤ (k : Int) ∧ (k : Int) < m.code.length := by omega
    have hko : k < o.length := by omega
    have hkS : k < S.length := by omega
    have hle : k + 1 ≤ m.code.length := hk'
    have hSk := hSg k hkS
    have step : ∀ t, t < m.code.length → (o.set k (decide (0 ≤ dist0 (nx m) 0 k)))[t]? = some (if t < k + 1 then decide (0 ≤ dist0 (nx m) 0 t) else false) := by
      intro t ht
      rw [List.getElem?_set]
      split
      · rename_i e; subst e; simp [hko]
      · rename_i e
        rw [hov t ht]
        by_cases h : t < k
        · rw [if_pos h, if_pos (by omega)]
        · rw [if_neg h, if_neg (by omega)]
    simp only [VC0, VC1, VC2, VC3, VC4, VC5, VC6, reduceIte, reduceCtorEq, Nat.reduceEqDiff, Nat.reduceAdd, Nat.reduceMul, Nat.reduceBEq, Nat.reduceLT, Nat.reduceLeDiff, Int.reduceEq, Int.reduceLT, Int.reduceLE, Int.reduceNeg, Int.reduceToNat, Int.reduceAdd, Nat.reduceDiv, encL, MC0, MC1, MC2, hSl, hk', hin, hle, hol, ld_cI hkS, hSk, lb_set hko]
    refine And.intro (by unfold InI64; omega) (backTo_of (k + 1, o.set k (decide (0 ≤ dist0 (nx m) 0 k)), _) ⟨hk', by simp [hol], step⟩ (by simp only []; omega) (ent_of _ [] rfl rfl (by simp only [VC0, VC1, VC2, VC3, VC4, VC5, VC6, reduceIte, reduceCtorEq, Nat.reduceEqDiff, Nat.reduceAdd, Nat.reduceMul, Nat.reduceBEq, Nat.reduceLT, Nat.reduceLeDiff, Int.reduceEq, Int.reduceLT, Int.reduceLE, Int.reduceNeg, Int.reduceToNat, Int.reduceAdd, Nat.reduceDiv, encL, MC0, MC1, MC2, hSl])))
  · have hk' : k = m.code.length := by omega
    subst hk'
    have : o = (List.range m.code.length).map fun t => decide (0 ≤ dist0 (nx m) 0 t) := by
      apply List.ext_getElem?
      intro t
      rcases Nat.lt_or_ge t m.code.length with h | h
      · rw [hov t h, List.getElem?_map, List.getElem?_range h, if_pos h]; rfl
      · rw [List.getElem?_eq_none (by omega), List.getElem?_eq_none (by simpa using h)]
    subst this
    simp only [VC0, VC1, VC2, VC3, VC4, VC5, VC6, reduceIte, reduceCtorEq, Nat.reduceEqDiff, Nat.reduceAdd, Nat.reduceMul, Nat.reduceBEq, Nat.reduceLT, Nat.reduceLeDiff, Int.reduceEq, Int.reduceLT, Int.reduceLE, Int.reduceNeg, Int.reduceToNat, Int.reduceAdd, Nat.reduceDiv, encL, MC0, MC1, MC2, hol]

/-- The last one of a point's row is the instruction itself just if it stood there already. -/
theorem prevRow_last (m : Mir) (i b t : Nat) : (prevRow m i b t = [] ∧ t ∉ (nx m i).take b) ∨ ∃ (A : List Int) (j : Nat), prevRow m i b t = A ++ [(j : Int)] ∧ (j = i ↔ t ∈ (nx m i).take b) ∧ j ≤ i := by
  unfold prevRow
  by_cases h : t ∈ (nx m i).take b
  · right
    refine ⟨((List.range i).filter fun j => (nx m j).contains t).map fun (j : Nat) => (j : Int), i, ?_, by simp [h], Nat.le_refl _⟩
    rw [if_pos (by simpa using h), List.map_append]; rfl
  · rw [if_neg (by simpa using h), List.append_nil]
    rcases List.eq_nil_or_concat ((List.range i).filter fun j => (nx m j).contains t) with e | ⟨A, j, e⟩
    · left; rw [e]; exact ⟨rfl, h⟩
    · right
      have hj : j ∈ (List.range i).filter fun j => (nx m j).contains t := by rw [e]; simp
      have hji : j < i := List.mem_range.1 (List.mem_filter.1 hj).1
      refine ⟨A.map fun (j : Nat) => (j : Int), j, by rw [e]; simp, ?_, by omega⟩
      constructor
      · intro e; omega
      · intro e; exact absurd e h

end Go.Proofs.Ytobhpkagbmadlaa
