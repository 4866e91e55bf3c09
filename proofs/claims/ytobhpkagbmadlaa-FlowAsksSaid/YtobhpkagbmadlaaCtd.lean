import Derived.Test.YtobhpkagbmadlaaCtc
set_option linter.unusedSimpArgs false
set_option linter.unusedVariables false
namespace Go.Proofs.Ytobhpkagbmadlaa
open Go Go.Lg Go.RowKit
set_option maxRecDepth 20000

set_option maxHeartbeats 2000000 in
theorem rprev_ret (m : Mir) (hg : okG m) : PRet Try.prog 19 [.agg m.cells] (encLL ((List.range m.code.length).map (prevs m))) := by
  refine pret_intro_l fd19 (by simp) ?_
  simp only [lc19, VC0, VC1, VC2, VC3, VC4, VC5, VC6, reduceIte, reduceCtorEq, Nat.reduceEqDiff, Nat.reduceAdd, Nat.reduceMul, Nat.reduceBEq, Nat.reduceLT, Nat.reduceLeDiff, Int.reduceEq, Int.reduceLT, Int.reduceLE, Int.reduceNeg, Int.reduceToNat, Int.reduceAdd, Nat.reduceDiv, encL, MC0, MC1, MC2]
  have hN := hg.le
  refine And.intro (by omega) ?_
  refine loop_vcg (ι := Nat × (Nat → Nat)) (fun (i, c) => stO [(1, .box m.cells), (3, .rows 1 (rsI cI (prevTab m i 0))), (4, .val (.int .i64 i))] c)
    (fun (i, _) => i ≤ m.code.length) (fun (i, _) => m.code.length - i) (0, _) (Nat.zero_le _) (ent_of _ [] rfl rfl (by
      simp only [VC0, VC1, VC2, VC3, VC4, VC5, VC6, reduceIte, reduceCtorEq, Nat.reduceEqDiff, Nat.reduceAdd, Nat.reduceMul, Nat.reduceBEq, Nat.reduceLT, Nat.reduceLeDiff, Int.reduceEq, Int.reduceLT, Int.reduceLE, Int.reduceNeg, Int.reduceToNat, Int.reduceAdd, Nat.reduceDiv, encL, MC0, MC1, MC2]
      rw [prevTab_zero]
      refine rowsAt_mk rfl (by simp) (by decide) ?_
      simp only [VC0, VC1, VC2, VC3, VC4, VC5, VC6, reduceIte, reduceCtorEq, Nat.reduceEqDiff, Nat.reduceAdd, Nat.reduceMul, Nat.reduceBEq, Nat.reduceLT, Nat.reduceLeDiff, Int.reduceEq, Int.reduceLT, Int.reduceLE, Int.reduceNeg, Int.reduceToNat, Int.reduceAdd, Nat.reduceDiv, encL, MC0, MC1, MC2])) ?_
  rintro ⟨i, c⟩ hi
  simp only [VC0, VC1, VC2, VC3, VC4, VC5, VC6, reduceIte, reduceCtorEq, Nat.reduceEqDiff, Nat.reduceAdd, Nat.reduceMul, Nat.reduceBEq, Nat.reduceLT, Nat.reduceLeDiff, Int.reduceEq, Int.reduceLT, Int.reduceLE, Int.reduceNeg, Int.reduceToNat, Int.reduceAdd, Nat.reduceDiv, encL, MC0, MC1, MC2]
  refine condD_of (fun h => ?_) (fun h => ?_)
  · have hi' : i < m.code.length := by omega
    have hin : 0 ≤ (i : Int) ∧ (i : Int) < m.code.length := by omega
    have hy := hg.nx _ (List.getElem_mem hi')
    have hnx : nx m i = (m.code[i].next).map Int.toNat := by simp [nx, hi']
    simp only [VC0, VC1, VC2, VC3, VC4, VC5, VC6, reduceIte, reduceCtorEq, Nat.reduceEqDiff, Nat.reduceAdd, Nat.reduceMul, Nat.reduceBEq, Nat.reduceLT, Nat.reduceLeDiff, Int.reduceEq, Int.reduceLT, Int.reduceLE, Int.reduceNeg, Int.reduceToNat, Int.reduceAdd, Nat.reduceDiv, encL, MC0, MC1, MC2, hi', hin]
    generalize hx : m.code[i].next = xn at hy hnx
    refine loop_vcg (ι := Nat × (Nat → Nat)) (fun (b, c) => stO [(1, .box m.cells), (3, .rows 1 (rsI cI (prevTab m i b))), (4, .val (.int .i64 i)), (5, .val (.int .i64 b))] c)
      (fun (b, _) => b ≤ xn.length) (fun (b, _) => xn.length - b) (0, _) (Nat.zero_le _) (ent_of _ [] rfl rfl (by
        simp only [VC0, VC1, VC2, VC3, VC4, VC5, VC6, reduceIte, reduceCtorEq, Nat.reduceEqDiff, Nat.reduceAdd, Nat.reduceMul, Nat.reduceBEq, Nat.reduceLT, Nat.reduceLeDiff, Int.reduceEq, Int.reduceLT, Int.reduceLE, Int.reduceNeg, Int.reduceToNat, Int.reduceAdd, Nat.reduceDiv, encL, MC0, MC1, MC2, rsI_len, prevTab_len]
        refine rowsAt_same (f := cI) (d := 3) (esz := 1) (R := prevTab m i 0) rfl (fun j h => ?_) (li_imv 8) (by decide) (prevTab_len _ _ _).symm (by simp) (fun j _ => by simp) ?_
        · simp only [VC0, VC1, VC2, VC3, VC4, VC5, VC6, reduceIte, reduceCtorEq, Nat.reduceEqDiff, Nat.reduceAdd, Nat.reduceMul, Nat.reduceBEq, Nat.reduceLT, Nat.reduceLeDiff, Int.reduceEq, Int.reduceLT, Int.reduceLE, Int.reduceNeg, Int.reduceToNat, Int.reduceAdd, Nat.reduceDiv, encL, MC0, MC1, MC2, rsI_get cI h]
        · simp only [VC0, VC1, VC2, VC3, VC4, VC5, VC6, reduceIte, reduceCtorEq, Nat.reduceEqDiff, Nat.reduceAdd, Nat.reduceMul, Nat.reduceBEq, Nat.reduceLT, Nat.reduceLeDiff, Int.reduceEq, Int.reduceLT, Int.reduceLE, Int.reduceNeg, Int.reduceToNat, Int.reduceAdd, Nat.reduceDiv, encL, MC0, MC1, MC2])) ?_
    rintro ⟨b, c⟩ hb
    simp only [VC0, VC1, VC2, VC3, VC4, VC5, VC6, reduceIte, reduceCtorEq, Nat.reduceEqDiff, Nat.reduceAdd, Nat.reduceMul, Nat.reduceBEq, Nat.reduceLT, Nat.reduceLeDiff, Int.reduceEq, Int.reduceLT, Int.reduceLE, Int.reduceNeg, Int.reduceToNat, Int.reduceAdd, Nat.reduceDiv, encL, MC0, MC1, MC2, hi', hin, hx]
    refine condD_of (fun h => ?_) (fun h => ?_)
    · have hb' : b < xn.length := by omega
      have hbin : 0 ≤ (b : Int) ∧ (b : Int) < xn.length := by omega
      obtain ⟨t, ht⟩ : ∃ t : Nat, xn[b] = (t : Int) := ⟨xn[b].toNat, by have := hy.2 _ (List.getElem_mem hb'); omega⟩
      have htN : t < m.code.length := by have := hy.2 _ (List.getElem_mem hb'); omega
      have htin : 0 ≤ (t : Int) ∧ (t : Int) < m.code.length := by omega
      have hnb : b < (nx m i).length := by rw [hnx]; simpa using hb'
      have hnt : (nx m i)[b] = t := by simp only [hnx, List.getElem_map, ht]; rfl
      have htl : t < (prevTab m i b).length := by rw [prevTab_len]; exact htN
      have hget := rsI_get cI htl
      rw [prevTab_get] at hget
      have htl2 : t < (rsI cI (prevTab m i b)).length := by rw [rsI_len]; exact htl
      have hrl := prevRow_len m i b t
      have hb1 : ((prevRow m i b t).length + 1) * 8 ≤ 140737488355328 := by omega
      have hb2 : (prevRow m i b t).length + 1 ≤ 4611686018427387904 := by omega
      have htle : t + 1 ≤ m.code.length := htN
      have hbI : InI64 (b + 1) := by unfold InI64; omega
      rcases prevRow_last m i b t with ⟨hr0, hnew⟩ | ⟨A, j, hr0, hji, hjle⟩
      · have hl0 : (prevRow m i b t).length = 0 := by rw [hr0]; rfl
        simp only [VC0, VC1, VC2, VC3, VC4, VC5, VC6, reduceIte, reduceCtorEq, Nat.reduceEqDiff, Nat.reduceAdd, Nat.reduceMul, Nat.reduceBEq, Nat.reduceLT, Nat.reduceLeDiff, Int.reduceEq, Int.reduceLT, Int.reduceLE, Int.reduceNeg, Int.reduceToNat, Int.reduceAdd, Nat.reduceDiv, encL, MC0, MC1, MC2, hi', hin, hx, hb', hbin, ht, htin, rsI_len, prevTab_len, rowV_ld htl2, rowV_len, hget, rsI_at, prevTab_get, hb1, hb2, htle, hl0]
        refine And.intro hbI (backTo_of (b + 1, _) hb' (by simp only []; omega) (ent_of _ [] rfl rfl ?_))
        rw [prevTab_new m i b t hnb hnt htN hnew]
        simp only [VC0, VC1, VC2, VC3, VC4, VC5, VC6, reduceIte, reduceCtorEq, Nat.reduceEqDiff, Nat.reduceAdd, Nat.reduceMul, Nat.reduceBEq, Nat.reduceLT, Nat.reduceLeDiff, Int.reduceEq, Int.reduceLT, Int.reduceLE, Int.reduceNeg, Int.reduceToNat, Int.reduceAdd, Nat.reduceDiv, encL, MC0, MC1, MC2, rsI_len, prevTab_len]
        refine rowsAt_set (f := cI) (d := 3) (esz := 1) (R := prevTab m i b) (r := prevRow m i b t ++ [(i : Int)]) htl (g := 1) ?_ ?_ (fun j h hne => ?_) (li_imv 8) (by decide) (prevTab_len _ _ _).symm (by simp) (fun j _ => by simp) ?_
        · simp only [VC0, VC1, VC2, VC3, VC4, VC5, VC6, reduceIte, reduceCtorEq, Nat.reduceEqDiff, Nat.reduceAdd, Nat.reduceMul, Nat.reduceBEq, Nat.reduceLT, Nat.reduceLeDiff, Int.reduceEq, Int.reduceLT, Int.reduceLE, Int.reduceNeg, Int.reduceToNat, Int.reduceAdd, Nat.reduceDiv, encL, MC0, MC1, MC2, hl0]
          try simp [hl0]
        · simp only [VC0, VC1, VC2, VC3, VC4, VC5, VC6, reduceIte, reduceCtorEq, Nat.reduceEqDiff, Nat.reduceAdd, Nat.reduceMul, Nat.reduceBEq, Nat.reduceLT, Nat.reduceLeDiff, Int.reduceEq, Int.reduceLT, Int.reduceLE, Int.reduceNeg, Int.reduceToNat, Int.reduceAdd, Nat.reduceDiv, encL, MC0, MC1, MC2]
          try simp
        · simp only [VC0, VC1, VC2, VC3, VC4, VC5, VC6, reduceIte, reduceCtorEq, Nat.reduceEqDiff, Nat.reduceAdd, Nat.reduceMul, Nat.reduceBEq, Nat.reduceLT, Nat.reduceLeDiff, Int.reduceEq, Int.reduceLT, Int.reduceLE, Int.reduceNeg, Int.reduceToNat, Int.reduceAdd, Nat.reduceDiv, encL, MC0, MC1, MC2, hne, rsI_get cI h]
          try simp
        · simp only [VC0, VC1, VC2, VC3, VC4, VC5, VC6, reduceIte, reduceCtorEq, Nat.reduceEqDiff, Nat.reduceAdd, Nat.reduceMul, Nat.reduceBEq, Nat.reduceLT, Nat.reduceLeDiff, Int.reduceEq, Int.reduceLT, Int.reduceLE, Int.reduceNeg, Int.reduceToNat, Int.reduceAdd, Nat.reduceDiv, encL, MC0, MC1, MC2]
          try simp
      · have hl0 : (prevRow m i b t).length = A.length + 1 := by rw [hr0]; simp
        have hAi : ((A.length + 1 : Nat) : Int) - 1 = (A.length : Nat) := by omega
        have hAin : 0 ≤ (A.length : Int) ∧ (A.length : Int) < ((A.length + 1 : Nat) : Int) := by omega
        have hAin2 : 0 ≤ (A.length : Int) ∧ (A.length : Int) < (A.length : Int) + 1 := by omega
        have hA0 : ¬ ((A.length + 1 : Nat) : Int) = 0 := by omega
        have hA1 : ¬ A.length + 1 = 0 := by omega
        have hA2 : ¬ (A.length : Int) + 1 = 0 := by omega
        have hA3 : (A.length : Int) + 1 - 1 = (A.length : Nat) := by omega
        have hb1' : (A.length + 1 + 1) * 8 ≤ 140737488355328 := by omega
        have hb2' : A.length + 1 + 1 ≤ 4611686018427387904 := by omega
        have hld : ldV false 1 ((prevRow m i b t).flatMap cI) A.length = some (.int .i64 j) := by
          rw [ld_cI (l := prevRow m i b t) (i := A.length) (by omega)]
          simp [hr0]
        have hAI : InI64 (A.length : Int) := by unfold InI64; omega
        simp only [VC0, VC1, VC2, VC3, VC4, VC5, VC6, reduceIte, reduceCtorEq, Nat.reduceEqDiff, Nat.reduceAdd, Nat.reduceMul, Nat.reduceBEq, Nat.reduceLT, Nat.reduceLeDiff, Int.reduceEq, Int.reduceLT, Int.reduceLE, Int.reduceNeg, Int.reduceToNat, Int.reduceAdd, Nat.reduceDiv, encL, MC0, MC1, MC2, hi', hin, hx, hb', hbin, ht, htin, rsI_len, prevTab_len, rowV_ld htl2, rowV_len, hget, rsI_at, prevTab_get, hb1, hb2, htle, hl0, hA0, hA1, hAi, hAin, hAin2, hld, hAI, hA2, hA3, decide_false, Bool.not_false]
        refine condDn_of (fun h => ?_) (fun h => ?_)
        · have hnew : t ∉ (nx m i).take b := fun hm' => by have := hji.2 hm'; omega
          simp only [VC0, VC1, VC2, VC3, VC4, VC5, VC6, reduceIte, reduceCtorEq, Nat.reduceEqDiff, Nat.reduceAdd, Nat.reduceMul, Nat.reduceBEq, Nat.reduceLT, Nat.reduceLeDiff, Int.reduceEq, Int.reduceLT, Int.reduceLE, Int.reduceNeg, Int.reduceToNat, Int.reduceAdd, Nat.reduceDiv, encL, MC0, MC1, MC2, hi', hin, hx, hb', hbin, ht, htin, rsI_len, prevTab_len, rowV_ld htl2, rowV_len, hget, rsI_at, prevTab_get, hl0, hb1', hb2', htle]
          refine And.intro hbI (backTo_of (b + 1, _) hb' (by simp only []; omega) (ent_of _ [] rfl rfl ?_))
          rw [prevTab_new m i b t hnb hnt htN hnew]
          simp only [VC0, VC1, VC2, VC3, VC4, VC5, VC6, reduceIte, reduceCtorEq, Nat.reduceEqDiff, Nat.reduceAdd, Nat.reduceMul, Nat.reduceBEq, Nat.reduceLT, Nat.reduceLeDiff, Int.reduceEq, Int.reduceLT, Int.reduceLE, Int.reduceNeg, Int.reduceToNat, Int.reduceAdd, Nat.reduceDiv, encL, MC0, MC1, MC2, rsI_len, prevTab_len]
          refine rowsAt_set (f := cI) (d := 3) (esz := 1) (R := prevTab m i b) (r := prevRow m i b t ++ [(i : Int)]) htl (g := 1) ?_ ?_ (fun j h hne => ?_) (li_imv 8) (by decide) (prevTab_len _ _ _).symm (by simp) (fun j _ => by simp) ?_
          · simp only [VC0, VC1, VC2, VC3, VC4, VC5, VC6, reduceIte, reduceCtorEq, Nat.reduceEqDiff, Nat.reduceAdd, Nat.reduceMul, Nat.reduceBEq, Nat.reduceLT, Nat.reduceLeDiff, Int.reduceEq, Int.reduceLT, Int.reduceLE, Int.reduceNeg, Int.reduceToNat, Int.reduceAdd, Nat.reduceDiv, encL, MC0, MC1, MC2, hl0]
            try simp [hl0]
          · simp only [VC0, VC1, VC2, VC3, VC4, VC5, VC6, reduceIte, reduceCtorEq, Nat.reduceEqDiff, Nat.reduceAdd, Nat.reduceMul, Nat.reduceBEq, Nat.reduceLT, Nat.reduceLeDiff, Int.reduceEq, Int.reduceLT, Int.reduceLE, Int.reduceNeg, Int.reduceToNat, Int.reduceAdd, Nat.reduceDiv, encL, MC0, MC1, MC2]
            try simp
          · simp only [VC0, VC1, VC2, VC3, VC4, VC5, VC6, reduceIte, reduceCtorEq, Nat.reduceEqDiff, Nat.reduceAdd, Nat.reduceMul, Nat.reduceBEq, Nat.reduceLT, Nat.reduceLeDiff, Int.reduceEq, Int.reduceLT, Int.reduceLE, Int.reduceNeg, Int.reduceToNat, Int.reduceAdd, Nat.reduceDiv, encL, MC0, MC1, MC2, hne, rsI_get cI h]
            try simp
          · simp only [VC0, VC1, VC2, VC3, VC4, VC5, VC6, reduceIte, reduceCtorEq, Nat.reduceEqDiff, Nat.reduceAdd, Nat.reduceMul, Nat.reduceBEq, Nat.reduceLT, Nat.reduceLeDiff, Int.reduceEq, Int.reduceLT, Int.reduceLE, Int.reduceNeg, Int.reduceToNat, Int.reduceAdd, Nat.reduceDiv, encL, MC0, MC1, MC2]
            try simp
        · have hold : t ∈ (nx m i).take b := hji.1 (by omega)
          simp only [VC0, VC1, VC2, VC3, VC4, VC5, VC6, reduceIte, reduceCtorEq, Nat.reduceEqDiff, Nat.reduceAdd, Nat.reduceMul, Nat.reduceBEq, Nat.reduceLT, Nat.reduceLeDiff, Int.reduceEq, Int.reduceLT, Int.reduceLE, Int.reduceNeg, Int.reduceToNat, Int.reduceAdd, Nat.reduceDiv, encL, MC0, MC1, MC2]
          refine And.intro hbI (backTo_of (b + 1, _) hb' (by simp only []; omega) (ent_of _ [] rfl rfl ?_))
          rw [prevTab_old m i b t hnb hnt hold]
          simp only [VC0, VC1, VC2, VC3, VC4, VC5, VC6, reduceIte, reduceCtorEq, Nat.reduceEqDiff, Nat.reduceAdd, Nat.reduceMul, Nat.reduceBEq, Nat.reduceLT, Nat.reduceLeDiff, Int.reduceEq, Int.reduceLT, Int.reduceLE, Int.reduceNeg, Int.reduceToNat, Int.reduceAdd, Nat.reduceDiv, encL, MC0, MC1, MC2, rsI_len, prevTab_len]
          refine rowsAt_same (f := cI) (d := 3) (esz := 1) (R := prevTab m i b) rfl (fun j h => ?_) (li_imv 8) (by decide) (prevTab_len _ _ _).symm (by simp) (fun j _ => by simp) ?_
          · simp only [VC0, VC1, VC2, VC3, VC4, VC5, VC6, reduceIte, reduceCtorEq, Nat.reduceEqDiff, Nat.reduceAdd, Nat.reduceMul, Nat.reduceBEq, Nat.reduceLT, Nat.reduceLeDiff, Int.reduceEq, Int.reduceLT, Int.reduceLE, Int.reduceNeg, Int.reduceToNat, Int.reduceAdd, Nat.reduceDiv, encL, MC0, MC1, MC2, rsI_get cI h]
          · simp only [VC0, VC1, VC2, VC3, VC4, VC5, VC6, reduceIte, reduceCtorEq, Nat.reduceEqDiff, Nat.reduceAdd, Nat.reduceMul, Nat.reduceBEq, Nat.reduceLT, Nat.reduceLeDiff, Int.reduceEq, Int.reduceLT, Int.reduceLE, Int.reduceNeg, Int.reduceToNat, Int.reduceAdd, Nat.reduceDiv, encL, MC0, MC1, MC2]
            try simp
    · have hb' : b = xn.length := by omega
      subst hb'
      simp only [VC0, VC1, VC2, VC3, VC4, VC5, VC6, reduceIte, reduceCtorEq, Nat.reduceEqDiff, Nat.reduceAdd, Nat.reduceMul, Nat.reduceBEq, Nat.reduceLT, Nat.reduceLeDiff, Int.reduceEq, Int.reduceLT, Int.reduceLE, Int.reduceNeg, Int.reduceToNat, Int.reduceAdd, Nat.reduceDiv, encL, MC0, MC1, MC2]
      refine And.intro (by unfold InI64; omega) (backTo_of (i + 1, _) hi' (by simp only []; omega) (ent_of _ [] rfl rfl ?_))
      have hnl : (nx m i).length = xn.length := by rw [hnx]; simp
      rw [← prevTab_next, hnl]
      simp only [VC0, VC1, VC2, VC3, VC4, VC5, VC6, reduceIte, reduceCtorEq, Nat.reduceEqDiff, Nat.reduceAdd, Nat.reduceMul, Nat.reduceBEq, Nat.reduceLT, Nat.reduceLeDiff, Int.reduceEq, Int.reduceLT, Int.reduceLE, Int.reduceNeg, Int.reduceToNat, Int.reduceAdd, Nat.reduceDiv, encL, MC0, MC1, MC2, rsI_len, prevTab_len]
      refine rowsAt_same (f := cI) (d := 3) (esz := 1) (R := prevTab m i xn.length) rfl (fun j h => ?_) (li_imv 8) (by decide) (prevTab_len _ _ _).symm (by simp) (fun j _ => by simp) ?_
      · simp only [VC0, VC1, VC2, VC3, VC4, VC5, VC6, reduceIte, reduceCtorEq, Nat.reduceEqDiff, Nat.reduceAdd, Nat.reduceMul, Nat.reduceBEq, Nat.reduceLT, Nat.reduceLeDiff, Int.reduceEq, Int.reduceLT, Int.reduceLE, Int.reduceNeg, Int.reduceToNat, Int.reduceAdd, Nat.reduceDiv, encL, MC0, MC1, MC2, rsI_get cI h]
      · simp only [VC0, VC1, VC2, VC3, VC4, VC5, VC6, reduceIte, reduceCtorEq, Nat.reduceEqDiff, Nat.reduceAdd, Nat.reduceMul, Nat.reduceBEq, Nat.reduceLT, Nat.reduceLeDiff, Int.reduceEq, Int.reduceLT, Int.reduceLE, Int.reduceNeg, Int.reduceToNat, Int.reduceAdd, Nat.reduceDiv, encL, MC0, MC1, MC2]
  · have hk' : i = m.code.length := by omega
    subst hk'
    have hR := prevTab_end m
    have hs : ∀ (H : Heap) (r : List Int), (r.flatMap cI).map (snap H 6) = r.flatMap cI := fun H r => li_snap H 5 r
    simp only [VC0, VC1, VC2, VC3, VC4, VC5, VC6, reduceIte, reduceCtorEq, Nat.reduceEqDiff, Nat.reduceAdd, Nat.reduceMul, Nat.reduceBEq, Nat.reduceLT, Nat.reduceLeDiff, Int.reduceEq, Int.reduceLT, Int.reduceLE, Int.reduceNeg, Int.reduceToNat, Int.reduceAdd, Nat.reduceDiv, encL, MC0, MC1, MC2, rsI_len, prevTab_len, rowV_len]
    rw [List.take_of_length_le (by rw [rowV_len, rsI_len, prevTab_len]; exact Nat.le_refl _), rowV_snap (f := cI) (fun j h => ?_) cI_len (fun r => hs _ r), hR]
    · simp [encLL, encL]
    · simp only [VC0, VC1, VC2, VC3, VC4, VC5, VC6, reduceIte, reduceCtorEq, Nat.reduceEqDiff, Nat.reduceAdd, Nat.reduceMul, Nat.reduceBEq, Nat.reduceLT, Nat.reduceLeDiff, Int.reduceEq, Int.reduceLT, Int.reduceLE, Int.reduceNeg, Int.reduceToNat, Int.reduceAdd, Nat.reduceDiv, encL, MC0, MC1, MC2, rsI_get cI h]

end Go.Proofs.Ytobhpkagbmadlaa
