import Derived.Test.YtobhpkagbmadlaaCte
import Derived.Test.YtobhpkagbmadlaaFlowD
set_option linter.unusedSimpArgs false
set_option linter.unusedVariables false
namespace Go.Proofs.Ytobhpkagbmadlaa
open Go Go.Lg Go.RowKit
set_option maxRecDepth 20000

theorem ints_nx {l : List Int} (h : ∀ y ∈ l, 0 ≤ y) : ints (l.map Int.toNat) = l := by
  unfold ints
  rw [List.map_map]
  conv => rhs; rw [← List.map_id l]
  exact List.map_congr_left fun x hx => by have := h x hx; simp [Int.toNat_of_nonneg this]
theorem ints_app2 (l r : List Nat) : ints l ++ ints r = ints (l ++ r) := by simp [ints]

set_option maxHeartbeats 2000000 in
theorem rrings_ret (m : Mir) (hg : okG m) : PRet Try.prog 24 [.agg m.cells] (encL cB (rings m)) := by
  have hN := hg.le
  have hlt := nx_lt hg
  have hnl : ∀ i, (nx m i).length ≤ 2 := by
    intro i
    simp only [nx]
    split
    · rename_i x hx
      rw [List.length_map]; exact (hg.nx x (List.mem_of_getElem? hx)).1
    · simp
  have hxi : ∀ (i : Nat) (h : i < m.code.length), m.code[i].next = ints (nx m i) := by
    intro i h
    have : nx m i = (m.code[i].next).map Int.toNat := by simp [nx, h]
    rw [this, ints_nx fun y hy => ((hg.nx _ (List.getElem_mem h)).2 y hy).1]
  refine pret_intro_l fd24 (by simp) ?_
  simp only [lc24, VC0, VC1, VC2, VC3, VC4, VC5, VC6, reduceIte, reduceCtorEq, Nat.reduceEqDiff, Nat.reduceAdd, Nat.reduceMul, Nat.reduceBEq, Nat.reduceLT, Nat.reduceLeDiff, Int.reduceEq, Int.reduceLT, Int.reduceLE, Int.reduceNeg, Int.reduceToNat, Int.reduceAdd, Nat.reduceDiv, encL, MC0, MC1, MC2]
  refine And.intro (by omega) ?_
  refine loop_vcg (ι := Nat × List Bool × (Nat → Nat)) (fun (i, o, c) => stO [(1, .box m.cells), (3, .own 1 m.code.length (o.flatMap cB)), (4, .val (.int .i64 i))] c)
    (fun (i, o, _) => i ≤ m.code.length ∧ o.length = m.code.length ∧ (∀ t, t < m.code.length → o[t]? = some (if t < i then decide (0 ≤ dist1 (nx m) t t) else false))) (fun (i, _, _) => m.code.length - i) (0, List.replicate m.code.length false, _)
    ⟨Nat.zero_le _, by simp, fun t ht => by simp [ht]⟩ (ent_of _ [] rfl rfl (by simp only [VC0, VC1, VC2, VC3, VC4, VC5, VC6, reduceIte, reduceCtorEq, Nat.reduceEqDiff, Nat.reduceAdd, Nat.reduceMul, Nat.reduceBEq, Nat.reduceLT, Nat.reduceLeDiff, Int.reduceEq, Int.reduceLT, Int.reduceLE, Int.reduceNeg, Int.reduceToNat, Int.reduceAdd, Nat.reduceDiv, encL, MC0, MC1, MC2])) ?_
  rintro ⟨i, o, c⟩ ⟨hi, hol, hov⟩
  simp only [VC0, VC1, VC2, VC3, VC4, VC5, VC6, reduceIte, reduceCtorEq, Nat.reduceEqDiff, Nat.reduceAdd, Nat.reduceMul, Nat.reduceBEq, Nat.reduceLT, Nat.reduceLeDiff, Int.reduceEq, Int.reduceLT, Int.reduceLE, Int.reduceNeg, Int.reduceToNat, Int.reduceAdd, Nat.reduceDiv, encL, MC0, MC1, MC2]
  refine condD_of (fun h => ?_) (fun h => ?_)
  · have hi' : i < m.code.length := by omega
    have hin : 0 ≤ (i : Int) ∧ (i : Int) < m.code.length := by omega
    have hio : i < o.length := by omega
    have hile : i + 1 ≤ m.code.length := hi'
    have hnli := hnl i
    have hil := ints_len (nx m i)
    simp only [VC0, VC1, VC2, VC3, VC4, VC5, VC6, reduceIte, reduceCtorEq, Nat.reduceEqDiff, Nat.reduceAdd, Nat.reduceMul, Nat.reduceBEq, Nat.reduceLT, Nat.reduceLeDiff, Int.reduceEq, Int.reduceLT, Int.reduceLE, Int.reduceNeg, Int.reduceToNat, Int.reduceAdd, Nat.reduceDiv, encL, MC0, MC1, MC2, hi', hin, hxi, hil]
    refine And.intro (by omega) (And.intro (by omega) ?_)
    refine loop_vcg (ι := Nat × List Nat × List Bool × (Nat → Nat)) (fun (k, T, S, c) => stO [(1, .box m.cells), (3, .own 1 m.code.length (o.flatMap cB)), (4, .val (.int .i64 i)), (5, .own 1 m.code.length (S.flatMap cB)), (6, .own 1 T.length ((ints T).flatMap cI)), (7, .val (.int .i64 k))] c)
      (fun (k, T, S, _) => k ≤ T.length ∧ S.length = m.code.length ∧ T.length + 2 * unB S ≤ 2 + 2 * m.code.length ∧ Sn (nx m) m.code.length i k T (fun t => S.getD t false))
      (fun (k, T, S, _) => T.length + 3 * unB S - k) (0, nx m i, List.replicate m.code.length false, _) ⟨Nat.zero_le _, by simp, ?_, ?_⟩ (ent_of _ [] rfl rfl (by simp only [VC0, VC1, VC2, VC3, VC4, VC5, VC6, reduceIte, reduceCtorEq, Nat.reduceEqDiff, Nat.reduceAdd, Nat.reduceMul, Nat.reduceBEq, Nat.reduceLT, Nat.reduceLeDiff, Int.reduceEq, Int.reduceLT, Int.reduceLE, Int.reduceNeg, Int.reduceToNat, Int.reduceAdd, Nat.reduceDiv, encL, MC0, MC1, MC2])) ?_
    · have := unB_le (List.replicate m.code.length false)
      rw [List.length_replicate] at this
      omega
    · have := Sn.start (g := nx m) (N := m.code.length) (s := i) (hlt i)
      have e : (fun t => (List.replicate m.code.length false).getD t false) = fun _ => false := by
        funext t
        rw [List.getD_eq_getElem?_getD, List.getElem?_replicate]; split <;> rfl
      simp only [e]; exact this
    · rintro ⟨k, T, S, c⟩ ⟨hk, hSl, hb, B⟩
      have hTl := ints_len T
      simp only [VC0, VC1, VC2, VC3, VC4, VC5, VC6, reduceIte, reduceCtorEq, Nat.reduceEqDiff, Nat.reduceAdd, Nat.reduceMul, Nat.reduceBEq, Nat.reduceLT, Nat.reduceLeDiff, Int.reduceEq, Int.reduceLT, Int.reduceLE, Int.reduceNeg, Int.reduceToNat, Int.reduceAdd, Nat.reduceDiv, encL, MC0, MC1, MC2, hTl]
      refine condD_of (fun h => ?_) (fun h => ?_)
      · have hk' : k < T.length := by omega
        have hki : k < (ints T).length := by omega
        have hkin : 0 ≤ (k : Int) ∧ (k : Int) < T.length := by omega
        have htN := (B.t _ (List.getElem_mem hk')).1
        generalize ht : T[k] = t at htN
        have htin : 0 ≤ (t : Int) ∧ (t : Int) < m.code.length := by omega
        have htS : t < S.length := by omega
        have htle : t + 1 ≤ m.code.length := htN
        have hSt : S[t] = S.getD t false := by simp [htS]
        have hkI : InI64 ((k : Int) + 1) := by unfold InI64; omega
        have hnt := hnl t
        have hit := ints_len (nx m t)
        have := unB_le S
        have hcap : (T.length + (nx m t).length) * 8 ≤ 140737488355328 ∧ T.length + (nx m t).length ≤ 4611686018427387904 := by omega
        simp only [VC0, VC1, VC2, VC3, VC4, VC5, VC6, reduceIte, reduceCtorEq, Nat.reduceEqDiff, Nat.reduceAdd, Nat.reduceMul, Nat.reduceBEq, Nat.reduceLT, Nat.reduceLeDiff, Int.reduceEq, Int.reduceLT, Int.reduceLE, Int.reduceNeg, Int.reduceToNat, Int.reduceAdd, Nat.reduceDiv, encL, MC0, MC1, MC2, hTl, hk', hki, hkin, ints_get, ht, htin, htS, htN, hSl, hSt]
        refine condVn_of (fun h => ?_) (fun h => ?_)
        · simp only [VC0, VC1, VC2, VC3, VC4, VC5, VC6, reduceIte, reduceCtorEq, Nat.reduceEqDiff, Nat.reduceAdd, Nat.reduceMul, Nat.reduceBEq, Nat.reduceLT, Nat.reduceLeDiff, Int.reduceEq, Int.reduceLT, Int.reduceLE, Int.reduceNeg, Int.reduceToNat, Int.reduceAdd, Nat.reduceDiv, encL, MC0, MC1, MC2, hTl, hk', hki, hkin, ints_get, ht, htin, htS, htN, hSl, htle, lb_set htS, hxi, hit, hcap]
          have h0 := unB_set htS (by rw [hSt]; exact h)
          have B2 := B.take hk' (hlt _) (S' := fun u => (S.set t true).getD u false) (fun u => by rw [getB_set htS, ht])
          rw [ht] at B2
          refine And.intro hkI (backTo_of (k + 1, T ++ nx m t, S.set t true, _) ⟨by simp; omega, by simp [hSl], by simp only [List.length_append]; omega, B2⟩ (by simp only [List.length_append]; omega) (ent_of _ [] rfl rfl (by simp only [VC0, VC1, VC2, VC3, VC4, VC5, VC6, reduceIte, reduceCtorEq, Nat.reduceEqDiff, Nat.reduceAdd, Nat.reduceMul, Nat.reduceBEq, Nat.reduceLT, Nat.reduceLeDiff, Int.reduceEq, Int.reduceLT, Int.reduceLE, Int.reduceNeg, Int.reduceToNat, Int.reduceAdd, Nat.reduceDiv, encL, MC0, MC1, MC2, hTl, ← List.flatMap_append, ints_app2])))
        · simp only [VC0, VC1, VC2, VC3, VC4, VC5, VC6, reduceIte, reduceCtorEq, Nat.reduceEqDiff, Nat.reduceAdd, Nat.reduceMul, Nat.reduceBEq, Nat.reduceLT, Nat.reduceLeDiff, Int.reduceEq, Int.reduceLT, Int.reduceLE, Int.reduceNeg, Int.reduceToNat, Int.reduceAdd, Nat.reduceDiv, encL, MC0, MC1, MC2]
          exact And.intro hkI (backTo_of (k + 1, T, S, _) ⟨hk', hSl, hb, B.skip hk' (by rw [ht]; exact h)⟩ (by simp only []; omega) (ent_of _ [] rfl rfl (by simp only [VC0, VC1, VC2, VC3, VC4, VC5, VC6, reduceIte, reduceCtorEq, Nat.reduceEqDiff, Nat.reduceAdd, Nat.reduceMul, Nat.reduceBEq, Nat.reduceLT, Nat.reduceLeDiff, Int.reduceEq, Int.reduceLT, Int.reduceLE, Int.reduceNeg, Int.reduceToNat, Int.reduceAdd, Nat.reduceDiv, encL, MC0, MC1, MC2, hTl])))
      · have hk' : k = T.length := by omega
        have hiS : i < S.length := by omega
        have hSi : S[i] = decide (0 ≤ dist1 (nx m) i i) := by
          have h1 := B.fin (by omega) i
          have h2 : (0 ≤ dist1 (nx m) i i) ↔ _ := least_nonneg (P := fun d => 1 ≤ d ∧ pth (nx m) d i i)
          have h3 : S[i] = S.getD i false := by simp [hiS]
          rw [h3, Bool.eq_iff_iff, h1, decide_eq_true_eq, h2]
        simp only [VC0, VC1, VC2, VC3, VC4, VC5, VC6, reduceIte, reduceCtorEq, Nat.reduceEqDiff, Nat.reduceAdd, Nat.reduceMul, Nat.reduceBEq, Nat.reduceLT, Nat.reduceLeDiff, Int.reduceEq, Int.reduceLT, Int.reduceLE, Int.reduceNeg, Int.reduceToNat, Int.reduceAdd, Nat.reduceDiv, encL, MC0, MC1, MC2, hi', hin, hiS, hSl, hSi, hile, hol, lb_set hio]
        refine And.intro (by unfold InI64; omega) (backTo_of (i + 1, o.set i (decide (0 ≤ dist1 (nx m) i i)), _) ⟨hi', by simp [hol], fun t ht => ?_⟩ (by simp only []; omega) (ent_of _ [] rfl rfl (by simp only [VC0, VC1, VC2, VC3, VC4, VC5, VC6, reduceIte, reduceCtorEq, Nat.reduceEqDiff, Nat.reduceAdd, Nat.reduceMul, Nat.reduceBEq, Nat.reduceLT, Nat.reduceLeDiff, Int.reduceEq, Int.reduceLT, Int.reduceLE, Int.reduceNeg, Int.reduceToNat, Int.reduceAdd, Nat.reduceDiv, encL, MC0, MC1, MC2])))
        rw [List.getElem?_set]
        split
        · rename_i e; subst e; simp [hio]
        · rename_i e
          rw [hov t ht]
          by_cases h : t < i
          · rw [if_pos h, if_pos (by omega)]
          · rw [if_neg h, if_neg (by omega)]
  · have hi' : i = m.code.length := by omega
    subst hi'
    have : o = rings m := by
      apply List.ext_getElem?
      intro t
      rcases Nat.lt_or_ge t m.code.length with h | h
      · rw [hov t h, rings, List.getElem?_map, List.getElem?_range h, if_pos h]; rfl
      · rw [List.getElem?_eq_none (by omega), List.getElem?_eq_none (by simpa [rings] using h)]
    subst this
    simp only [VC0, VC1, VC2, VC3, VC4, VC5, VC6, reduceIte, reduceCtorEq, Nat.reduceEqDiff, Nat.reduceAdd, Nat.reduceMul, Nat.reduceBEq, Nat.reduceLT, Nat.reduceLeDiff, Int.reduceEq, Int.reduceLT, Int.reduceLE, Int.reduceNeg, Int.reduceToNat, Int.reduceAdd, Nat.reduceDiv, encL, MC0, MC1, MC2, hol]

end Go.Proofs.Ytobhpkagbmadlaa
