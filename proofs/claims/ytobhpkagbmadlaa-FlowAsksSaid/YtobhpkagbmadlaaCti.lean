import Derived.Test.YtobhpkagbmadlaaCtg
set_option linter.unusedSimpArgs false
set_option linter.unusedVariables false
namespace Go.Proofs.Ytobhpkagbmadlaa
open Go Go.Lg Go.RowKit
set_option maxRecDepth 20000

set_option maxHeartbeats 2000000 in
theorem flowAsks_ret (m : Mir) (hm : m.ok) : PRet Try.prog 3 [.agg m.cells] (.bool true) := by
  refine pret_intro fd3 (by simp) ?_
  simp only [lc3, VC0, VC1, VC2, VC3, VC4, VC5, VC6, reduceIte, reduceCtorEq, Nat.reduceEqDiff, Nat.reduceAdd, Nat.reduceMul, Nat.reduceBEq, Nat.reduceLT, Nat.reduceLeDiff, Int.reduceEq, Int.reduceLT, Int.reduceLE, Int.reduceNeg, Int.reduceToNat, Int.reduceAdd, Nat.reduceDiv, encL, MC0, MC1, MC2]
  refine callX_of (great_ret m hm) (.inr rfl) ?_
  simp only [VC0, VC1, VC2, VC3, VC4, VC5, VC6, reduceIte, reduceCtorEq, Nat.reduceEqDiff, Nat.reduceAdd, Nat.reduceMul, Nat.reduceBEq, Nat.reduceLT, Nat.reduceLeDiff, Int.reduceEq, Int.reduceLT, Int.reduceLE, Int.reduceNeg, Int.reduceToNat, Int.reduceAdd, Nat.reduceDiv, encL, MC0, MC1, MC2]
  refine condV_of (fun hgr => ?_) (fun hgr => ?_)
  · simp only [VC0, VC1, VC2, VC3, VC4, VC5, VC6, reduceIte, reduceCtorEq, Nat.reduceEqDiff, Nat.reduceAdd, Nat.reduceMul, Nat.reduceBEq, Nat.reduceLT, Nat.reduceLeDiff, Int.reduceEq, Int.reduceLT, Int.reduceLE, Int.reduceNeg, Int.reduceToNat, Int.reduceAdd, Nat.reduceDiv, encL, MC0, MC1, MC2]
    refine callX_of told18_ret (.inr rfl) ?_
    simp only [VC0, VC1, VC2, VC3, VC4, VC5, VC6, reduceIte, reduceCtorEq, Nat.reduceEqDiff, Nat.reduceAdd, Nat.reduceMul, Nat.reduceBEq, Nat.reduceLT, Nat.reduceLeDiff, Int.reduceEq, Int.reduceLT, Int.reduceLE, Int.reduceNeg, Int.reduceToNat, Int.reduceAdd, Nat.reduceDiv, encL, MC0, MC1, MC2]
  simp only [VC0, VC1, VC2, VC3, VC4, VC5, VC6, reduceIte, reduceCtorEq, Nat.reduceEqDiff, Nat.reduceAdd, Nat.reduceMul, Nat.reduceBEq, Nat.reduceLT, Nat.reduceLeDiff, Int.reduceEq, Int.reduceLT, Int.reduceLE, Int.reduceNeg, Int.reduceToNat, Int.reduceAdd, Nat.reduceDiv, encL, MC0, MC1, MC2]
  refine callX_of (prev_ret m hm) (.inl rfl) ?_
  simp only [VC0, VC1, VC2, VC3, VC4, VC5, VC6, reduceIte, reduceCtorEq, Nat.reduceEqDiff, Nat.reduceAdd, Nat.reduceMul, Nat.reduceBEq, Nat.reduceLT, Nat.reduceLeDiff, Int.reduceEq, Int.reduceLT, Int.reduceLE, Int.reduceNeg, Int.reduceToNat, Int.reduceAdd, Nat.reduceDiv, encL, MC0, MC1, MC2]
  refine callX_of (may16_ret m hm) (.inr rfl) ?_
  simp only [VC0, VC1, VC2, VC3, VC4, VC5, VC6, reduceIte, reduceCtorEq, Nat.reduceEqDiff, Nat.reduceAdd, Nat.reduceMul, Nat.reduceBEq, Nat.reduceLT, Nat.reduceLeDiff, Int.reduceEq, Int.reduceLT, Int.reduceLE, Int.reduceNeg, Int.reduceToNat, Int.reduceAdd, Nat.reduceDiv, encL, MC0, MC1, MC2]
  refine condVn_of (fun h => ?_) (fun h => ?_)
  · have h1 := reach_ret m hm
    have h2 := steps_ret m hm
    have h3 := flowRings_ret m hm
    rw [if_neg (by rw [h]; decide)] at h1 h2 h3
    simp only [VC0, VC1, VC2, VC3, VC4, VC5, VC6, reduceIte, reduceCtorEq, Nat.reduceEqDiff, Nat.reduceAdd, Nat.reduceMul, Nat.reduceBEq, Nat.reduceLT, Nat.reduceLeDiff, Int.reduceEq, Int.reduceLT, Int.reduceLE, Int.reduceNeg, Int.reduceToNat, Int.reduceAdd, Nat.reduceDiv, encL, MC0, MC1, MC2, encLL, h]
    refine callX_of told18_ret (.inr rfl) ?_
    simp only [VC0, VC1, VC2, VC3, VC4, VC5, VC6, reduceIte, reduceCtorEq, Nat.reduceEqDiff, Nat.reduceAdd, Nat.reduceMul, Nat.reduceBEq, Nat.reduceLT, Nat.reduceLeDiff, Int.reduceEq, Int.reduceLT, Int.reduceLE, Int.reduceNeg, Int.reduceToNat, Int.reduceAdd, Nat.reduceDiv, encL, MC0, MC1, MC2]
    refine callX_of h1 (.inl rfl) ?_
    simp only [VC0, VC1, VC2, VC3, VC4, VC5, VC6, reduceIte, reduceCtorEq, Nat.reduceEqDiff, Nat.reduceAdd, Nat.reduceMul, Nat.reduceBEq, Nat.reduceLT, Nat.reduceLeDiff, Int.reduceEq, Int.reduceLT, Int.reduceLE, Int.reduceNeg, Int.reduceToNat, Int.reduceAdd, Nat.reduceDiv, encL, MC0, MC1, MC2]
    refine callX_of h2 (.inl rfl) ?_
    simp only [VC0, VC1, VC2, VC3, VC4, VC5, VC6, reduceIte, reduceCtorEq, Nat.reduceEqDiff, Nat.reduceAdd, Nat.reduceMul, Nat.reduceBEq, Nat.reduceLT, Nat.reduceLeDiff, Int.reduceEq, Int.reduceLT, Int.reduceLE, Int.reduceNeg, Int.reduceToNat, Int.reduceAdd, Nat.reduceDiv, encL, MC0, MC1, MC2]
    refine callX_of h3 (.inl rfl) ?_
    simp only [VC0, VC1, VC2, VC3, VC4, VC5, VC6, reduceIte, reduceCtorEq, Nat.reduceEqDiff, Nat.reduceAdd, Nat.reduceMul, Nat.reduceBEq, Nat.reduceLT, Nat.reduceLeDiff, Int.reduceEq, Int.reduceLT, Int.reduceLE, Int.reduceNeg, Int.reduceToNat, Int.reduceAdd, Nat.reduceDiv, encL, MC0, MC1, MC2]
  have hg := okG_of h
  have hN := hg.le
  have hPl : ((List.range m.code.length).map (prevs m)).length = m.code.length := by simp
  have hPg : ∀ (i : Nat) (hi : i < ((List.range m.code.length).map (prevs m)).length), (((List.range m.code.length).map (prevs m))[i]).length ≤ 1000000 := by
    intro i hi; have := prevs_len m i; simp; omega
  have hrp := rprev_ret m hg
  have hrr := rreach_ret m hg (rsteps_ret m hg)
  have hrs := rsteps_ret m hg
  have hri := rrings_ret m hg
  have h1 := reach_ret m hm
  have h2 := steps_ret m hm
  have h3 := flowRings_ret m hm
  rw [if_pos h] at h1 h2 h3
  have hb1 := bools_ret ((List.range m.code.length).map fun t => decide (0 ≤ dist0 (nx m) 0 t)) ((List.range m.code.length).map fun t => decide (0 ≤ dist0 (nx m) 0 t)) (by simp; omega)
  have hb2 := ints_ret ((List.range m.code.length).map (dist0 (nx m) 0)) ((List.range m.code.length).map (dist0 (nx m) 0)) (by simp; omega)
  have hb3 := bools_ret (rings m) (rings m) (by simp [rings]; omega)
  have hrl : (rings m).length = m.code.length := by simp [rings]
  simp only [encL, List.length_map, List.length_range, hrl, eq_self, decide_true] at hb1 hb2 hb3
  simp only [VC0, VC1, VC2, VC3, VC4, VC5, VC6, reduceIte, reduceCtorEq, Nat.reduceEqDiff, Nat.reduceAdd, Nat.reduceMul, Nat.reduceBEq, Nat.reduceLT, Nat.reduceLeDiff, Int.reduceEq, Int.reduceLT, Int.reduceLE, Int.reduceNeg, Int.reduceToNat, Int.reduceAdd, Nat.reduceDiv, encL, MC0, MC1, MC2, h]
  generalize (List.range m.code.length).map (prevs m) = P at hrp hPl hPg
  refine callX_of hrp (.inl rfl) ?_
  simp only [VC0, VC1, VC2, VC3, VC4, VC5, VC6, reduceIte, reduceCtorEq, Nat.reduceEqDiff, Nat.reduceAdd, Nat.reduceMul, Nat.reduceBEq, Nat.reduceLT, Nat.reduceLeDiff, Int.reduceEq, Int.reduceLT, Int.reduceLE, Int.reduceNeg, Int.reduceToNat, Int.reduceAdd, Nat.reduceDiv, encL, MC0, MC1, MC2, encLL, hPl]
  refine loop_vcg (ι := Nat × (Nat → Nat)) (fun (i, c) => stO [(1, .box m.cells), (3, .val (encL (cL cI) P)), (4, .val (encL (cL cI) P)), (5, .val (.int .i64 i))] c)
    (fun (i, _) => i ≤ m.code.length) (fun (i, _) => m.code.length - i) (0, _) (Nat.zero_le _) (ent_of _ [] rfl rfl (by simp only [VC0, VC1, VC2, VC3, VC4, VC5, VC6, reduceIte, reduceCtorEq, Nat.reduceEqDiff, Nat.reduceAdd, Nat.reduceMul, Nat.reduceBEq, Nat.reduceLT, Nat.reduceLeDiff, Int.reduceEq, Int.reduceLT, Int.reduceLE, Int.reduceNeg, Int.reduceToNat, Int.reduceAdd, Nat.reduceDiv, encL, MC0, MC1, MC2, hPl])) ?_
  rintro ⟨i, c⟩ hi
  simp only [VC0, VC1, VC2, VC3, VC4, VC5, VC6, reduceIte, reduceCtorEq, Nat.reduceEqDiff, Nat.reduceAdd, Nat.reduceMul, Nat.reduceBEq, Nat.reduceLT, Nat.reduceLeDiff, Int.reduceEq, Int.reduceLT, Int.reduceLE, Int.reduceNeg, Int.reduceToNat, Int.reduceAdd, Nat.reduceDiv, encL, MC0, MC1, MC2, hPl]
  refine condD_of (fun h => ?_) (fun h => ?_)
  · have hi' : i < m.code.length := by omega
    have hiP : i < P.length := by omega
    have hin : 0 ≤ (i : Int) ∧ (i : Int) < m.code.length := by omega
    simp only [VC0, VC1, VC2, VC3, VC4, VC5, VC6, reduceIte, reduceCtorEq, Nat.reduceEqDiff, Nat.reduceAdd, Nat.reduceMul, Nat.reduceBEq, Nat.reduceLT, Nat.reduceLeDiff, Int.reduceEq, Int.reduceLT, Int.reduceLE, Int.reduceNeg, Int.reduceToNat, Int.reduceAdd, Nat.reduceDiv, encL, MC0, MC1, MC2, hPl, hin, ld_cL hiP]
    refine callV_of (ints_ret P[i] P[i] (hPg i hiP)) (.inr rfl) ?_
    simp only [VC0, VC1, VC2, VC3, VC4, VC5, VC6, reduceIte, reduceCtorEq, Nat.reduceEqDiff, Nat.reduceAdd, Nat.reduceMul, Nat.reduceBEq, Nat.reduceLT, Nat.reduceLeDiff, Int.reduceEq, Int.reduceLT, Int.reduceLE, Int.reduceNeg, Int.reduceToNat, Int.reduceAdd, Nat.reduceDiv, encL, MC0, MC1, MC2]
    exact And.intro (by unfold InI64; omega) (backTo_of (i + 1, _) hi' (by simp only []; omega) (ent_of _ [] rfl rfl (by simp only [VC0, VC1, VC2, VC3, VC4, VC5, VC6, reduceIte, reduceCtorEq, Nat.reduceEqDiff, Nat.reduceAdd, Nat.reduceMul, Nat.reduceBEq, Nat.reduceLT, Nat.reduceLeDiff, Int.reduceEq, Int.reduceLT, Int.reduceLE, Int.reduceNeg, Int.reduceToNat, Int.reduceAdd, Nat.reduceDiv, encL, MC0, MC1, MC2, hPl])))
  · simp only [VC0, VC1, VC2, VC3, VC4, VC5, VC6, reduceIte, reduceCtorEq, Nat.reduceEqDiff, Nat.reduceAdd, Nat.reduceMul, Nat.reduceBEq, Nat.reduceLT, Nat.reduceLeDiff, Int.reduceEq, Int.reduceLT, Int.reduceLE, Int.reduceNeg, Int.reduceToNat, Int.reduceAdd, Nat.reduceDiv, encL, MC0, MC1, MC2]
    refine callV_of told18_ret (.inr rfl) ?_
    simp only [VC0, VC1, VC2, VC3, VC4, VC5, VC6, reduceIte, reduceCtorEq, Nat.reduceEqDiff, Nat.reduceAdd, Nat.reduceMul, Nat.reduceBEq, Nat.reduceLT, Nat.reduceLeDiff, Int.reduceEq, Int.reduceLT, Int.reduceLE, Int.reduceNeg, Int.reduceToNat, Int.reduceAdd, Nat.reduceDiv, encL, MC0, MC1, MC2]
    refine callV_of h1 (.inl rfl) ?_
    simp only [VC0, VC1, VC2, VC3, VC4, VC5, VC6, reduceIte, reduceCtorEq, Nat.reduceEqDiff, Nat.reduceAdd, Nat.reduceMul, Nat.reduceBEq, Nat.reduceLT, Nat.reduceLeDiff, Int.reduceEq, Int.reduceLT, Int.reduceLE, Int.reduceNeg, Int.reduceToNat, Int.reduceAdd, Nat.reduceDiv, encL, MC0, MC1, MC2]
    refine callV_of hrr (.inl rfl) ?_
    simp only [VC0, VC1, VC2, VC3, VC4, VC5, VC6, reduceIte, reduceCtorEq, Nat.reduceEqDiff, Nat.reduceAdd, Nat.reduceMul, Nat.reduceBEq, Nat.reduceLT, Nat.reduceLeDiff, Int.reduceEq, Int.reduceLT, Int.reduceLE, Int.reduceNeg, Int.reduceToNat, Int.reduceAdd, Nat.reduceDiv, encL, MC0, MC1, MC2]
    refine callV_of hb1 (.inr rfl) ?_
    simp only [VC0, VC1, VC2, VC3, VC4, VC5, VC6, reduceIte, reduceCtorEq, Nat.reduceEqDiff, Nat.reduceAdd, Nat.reduceMul, Nat.reduceBEq, Nat.reduceLT, Nat.reduceLeDiff, Int.reduceEq, Int.reduceLT, Int.reduceLE, Int.reduceNeg, Int.reduceToNat, Int.reduceAdd, Nat.reduceDiv, encL, MC0, MC1, MC2]
    refine callV_of h2 (.inl rfl) ?_
    simp only [VC0, VC1, VC2, VC3, VC4, VC5, VC6, reduceIte, reduceCtorEq, Nat.reduceEqDiff, Nat.reduceAdd, Nat.reduceMul, Nat.reduceBEq, Nat.reduceLT, Nat.reduceLeDiff, Int.reduceEq, Int.reduceLT, Int.reduceLE, Int.reduceNeg, Int.reduceToNat, Int.reduceAdd, Nat.reduceDiv, encL, MC0, MC1, MC2]
    refine callV_of hrs (.inl rfl) ?_
    simp only [VC0, VC1, VC2, VC3, VC4, VC5, VC6, reduceIte, reduceCtorEq, Nat.reduceEqDiff, Nat.reduceAdd, Nat.reduceMul, Nat.reduceBEq, Nat.reduceLT, Nat.reduceLeDiff, Int.reduceEq, Int.reduceLT, Int.reduceLE, Int.reduceNeg, Int.reduceToNat, Int.reduceAdd, Nat.reduceDiv, encL, MC0, MC1, MC2]
    refine callV_of hb2 (.inr rfl) ?_
    simp only [VC0, VC1, VC2, VC3, VC4, VC5, VC6, reduceIte, reduceCtorEq, Nat.reduceEqDiff, Nat.reduceAdd, Nat.reduceMul, Nat.reduceBEq, Nat.reduceLT, Nat.reduceLeDiff, Int.reduceEq, Int.reduceLT, Int.reduceLE, Int.reduceNeg, Int.reduceToNat, Int.reduceAdd, Nat.reduceDiv, encL, MC0, MC1, MC2]
    refine callV_of h3 (.inl rfl) ?_
    simp only [VC0, VC1, VC2, VC3, VC4, VC5, VC6, reduceIte, reduceCtorEq, Nat.reduceEqDiff, Nat.reduceAdd, Nat.reduceMul, Nat.reduceBEq, Nat.reduceLT, Nat.reduceLeDiff, Int.reduceEq, Int.reduceLT, Int.reduceLE, Int.reduceNeg, Int.reduceToNat, Int.reduceAdd, Nat.reduceDiv, encL, MC0, MC1, MC2, hrl]
    refine callV_of hri (.inl rfl) ?_
    simp only [VC0, VC1, VC2, VC3, VC4, VC5, VC6, reduceIte, reduceCtorEq, Nat.reduceEqDiff, Nat.reduceAdd, Nat.reduceMul, Nat.reduceBEq, Nat.reduceLT, Nat.reduceLeDiff, Int.reduceEq, Int.reduceLT, Int.reduceLE, Int.reduceNeg, Int.reduceToNat, Int.reduceAdd, Nat.reduceDiv, encL, MC0, MC1, MC2, hrl]
    refine callV_of hb3 (.inr rfl) ?_
    simp only [VC0, VC1, VC2, VC3, VC4, VC5, VC6, reduceIte, reduceCtorEq, Nat.reduceEqDiff, Nat.reduceAdd, Nat.reduceMul, Nat.reduceBEq, Nat.reduceLT, Nat.reduceLeDiff, Int.reduceEq, Int.reduceLT, Int.reduceLE, Int.reduceNeg, Int.reduceToNat, Int.reduceAdd, Nat.reduceDiv, encL, MC0, MC1, MC2]

end Go.Proofs.Ytobhpkagbmadlaa
