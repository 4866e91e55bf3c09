import Derived.Test.YtobhpkagbmadlaaCt8
import Derived.Test.YtobhpkagbmadlaaLgY
set_option linter.unusedSimpArgs false
set_option linter.unusedVariables false
namespace Go.Proofs.Ytobhpkagbmadlaa
open Go Go.Lg Go.RowKit
set_option maxRecDepth 20000

theorem drop_beq {α : Type} [DecidableEq α] {a b : List α} {k : Nat} (ha : k < a.length) (hb : k < b.length) : decide (a.drop k = b.drop k) = (decide (a[k] = b[k]) && decide (a.drop (k + 1) = b.drop (k + 1))) := by
  rw [← Bool.decide_and]
  refine decide_eq_decide.2 ?_
  rw [List.drop_eq_getElem_cons ha, List.drop_eq_getElem_cons hb, List.cons.injEq]

theorem ints_ret (a b : List Int) (ha : a.length ≤ 1000000) : PRet Try.prog 20 [encL cI a, encL cI b] (.bool (decide (a = b))) := by
  refine pret_intro fd20 (by simp) ?_
  simp only [lc20, VC0, VC1, VC2, VC3, VC4, VC5, VC6, reduceIte, reduceCtorEq, Nat.reduceEqDiff, Nat.reduceAdd, Nat.reduceMul, Nat.reduceBEq, Nat.reduceLT, Nat.reduceLeDiff, Int.reduceEq, Int.reduceLT, Int.reduceLE, Int.reduceNeg, Int.reduceToNat, Int.reduceAdd, Nat.reduceDiv, encL, MC0, MC1, MC2]
  refine condDn_of (fun h => ?_) (fun h => ?_)
  · simp only [VC0, VC1, VC2, VC3, VC4, VC5, VC6, reduceIte, reduceCtorEq, Nat.reduceEqDiff, Nat.reduceAdd, Nat.reduceMul, Nat.reduceBEq, Nat.reduceLT, Nat.reduceLeDiff, Int.reduceEq, Int.reduceLT, Int.reduceLE, Int.reduceNeg, Int.reduceToNat, Int.reduceAdd, Nat.reduceDiv, encL, MC0, MC1, MC2]
    have : ¬ a = b := by rintro rfl; exact h rfl
    simp [this]
  · have hl : a.length = b.length := by omega
    simp only [VC0, VC1, VC2, VC3, VC4, VC5, VC6, reduceIte, reduceCtorEq, Nat.reduceEqDiff, Nat.reduceAdd, Nat.reduceMul, Nat.reduceBEq, Nat.reduceLT, Nat.reduceLeDiff, Int.reduceEq, Int.reduceLT, Int.reduceLE, Int.reduceNeg, Int.reduceToNat, Int.reduceAdd, Nat.reduceDiv, encL, MC0, MC1, MC2]
    refine loop_vcg (ι := Nat × (Nat → Nat)) (fun (k, c) => stO [(0, .val (encL cI a)), (1, .val (encL cI b)), (5, .val (.int .i64 k))] c)
      (fun (k, _) => k ≤ a.length ∧ decide (a.drop k = b.drop k) = decide (a = b)) (fun (k, _) => a.length - k) (0, _) ⟨by omega, rfl⟩ (ent_of _ [] rfl rfl (by simp only [VC0, VC1, VC2, VC3, VC4, VC5, VC6, reduceIte, reduceCtorEq, Nat.reduceEqDiff, Nat.reduceAdd, Nat.reduceMul, Nat.reduceBEq, Nat.reduceLT, Nat.reduceLeDiff, Int.reduceEq, Int.reduceLT, Int.reduceLE, Int.reduceNeg, Int.reduceToNat, Int.reduceAdd, Nat.reduceDiv, encL, MC0, MC1, MC2])) ?_
    rintro ⟨k, c⟩ ⟨hk, hb⟩
    simp only [VC0, VC1, VC2, VC3, VC4, VC5, VC6, reduceIte, reduceCtorEq, Nat.reduceEqDiff, Nat.reduceAdd, Nat.reduceMul, Nat.reduceBEq, Nat.reduceLT, Nat.reduceLeDiff, Int.reduceEq, Int.reduceLT, Int.reduceLE, Int.reduceNeg, Int.reduceToNat, Int.reduceAdd, Nat.reduceDiv, encL, MC0, MC1, MC2]
    refine condD_of (fun h => ?_) (fun h => ?_)
    · have ha' : k < a.length := by omega
      have hb' : k < b.length := by omega
      have hin : 0 ≤ (k : Int) ∧ (k : Int) < b.length := by omega
      rw [drop_beq ha' hb'] at hb
      simp only [VC0, VC1, VC2, VC3, VC4, VC5, VC6, reduceIte, reduceCtorEq, Nat.reduceEqDiff, Nat.reduceAdd, Nat.reduceMul, Nat.reduceBEq, Nat.reduceLT, Nat.reduceLeDiff, Int.reduceEq, Int.reduceLT, Int.reduceLE, Int.reduceNeg, Int.reduceToNat, Int.reduceAdd, Nat.reduceDiv, encL, MC0, MC1, MC2, ha', hb', hin]
      repeat' (first | refine condDn_of (fun h => ?_) (fun h => ?_) <;> simp only [VC0, VC1, VC2, VC3, VC4, VC5, VC6, reduceIte, reduceCtorEq, Nat.reduceEqDiff, Nat.reduceAdd, Nat.reduceMul, Nat.reduceBEq, Nat.reduceLT, Nat.reduceLeDiff, Int.reduceEq, Int.reduceLT, Int.reduceLE, Int.reduceNeg, Int.reduceToNat, Int.reduceAdd, Nat.reduceDiv, encL, MC0, MC1, MC2, h, ha', hb', hin] | refine condD_of (fun h => ?_) (fun h => ?_) <;> simp only [VC0, VC1, VC2, VC3, VC4, VC5, VC6, reduceIte, reduceCtorEq, Nat.reduceEqDiff, Nat.reduceAdd, Nat.reduceMul, Nat.reduceBEq, Nat.reduceLT, Nat.reduceLeDiff, Int.reduceEq, Int.reduceLT, Int.reduceLE, Int.reduceNeg, Int.reduceToNat, Int.reduceAdd, Nat.reduceDiv, encL, MC0, MC1, MC2, h, ha', hb', hin] | refine condVn_of (fun h => ?_) (fun h => ?_) <;> simp only [VC0, VC1, VC2, VC3, VC4, VC5, VC6, reduceIte, reduceCtorEq, Nat.reduceEqDiff, Nat.reduceAdd, Nat.reduceMul, Nat.reduceBEq, Nat.reduceLT, Nat.reduceLeDiff, Int.reduceEq, Int.reduceLT, Int.reduceLE, Int.reduceNeg, Int.reduceToNat, Int.reduceAdd, Nat.reduceDiv, encL, MC0, MC1, MC2, h, ha', hb', hin] | refine condV_of (fun h => ?_) (fun h => ?_) <;> simp only [VC0, VC1, VC2, VC3, VC4, VC5, VC6, reduceIte, reduceCtorEq, Nat.reduceEqDiff, Nat.reduceAdd, Nat.reduceMul, Nat.reduceBEq, Nat.reduceLT, Nat.reduceLeDiff, Int.reduceEq, Int.reduceLT, Int.reduceLE, Int.reduceNeg, Int.reduceToNat, Int.reduceAdd, Nat.reduceDiv, encL, MC0, MC1, MC2, h, ha', hb', hin] | refine gdDn_of (fun h => ?_) (fun h => ?_) <;> simp only [VC0, VC1, VC2, VC3, VC4, VC5, VC6, reduceIte, reduceCtorEq, Nat.reduceEqDiff, Nat.reduceAdd, Nat.reduceMul, Nat.reduceBEq, Nat.reduceLT, Nat.reduceLeDiff, Int.reduceEq, Int.reduceLT, Int.reduceLE, Int.reduceNeg, Int.reduceToNat, Int.reduceAdd, Nat.reduceDiv, encL, MC0, MC1, MC2, h, ha', hb', hin] | refine gdD_of (fun h => ?_) (fun h => ?_) <;> simp only [VC0, VC1, VC2, VC3, VC4, VC5, VC6, reduceIte, reduceCtorEq, Nat.reduceEqDiff, Nat.reduceAdd, Nat.reduceMul, Nat.reduceBEq, Nat.reduceLT, Nat.reduceLeDiff, Int.reduceEq, Int.reduceLT, Int.reduceLE, Int.reduceNeg, Int.reduceToNat, Int.reduceAdd, Nat.reduceDiv, encL, MC0, MC1, MC2, h, ha', hb', hin] | refine gdVMn_of (fun h => ?_) (fun h => ?_) <;> simp only [VC0, VC1, VC2, VC3, VC4, VC5, VC6, reduceIte, reduceCtorEq, Nat.reduceEqDiff, Nat.reduceAdd, Nat.reduceMul, Nat.reduceBEq, Nat.reduceLT, Nat.reduceLeDiff, Int.reduceEq, Int.reduceLT, Int.reduceLE, Int.reduceNeg, Int.reduceToNat, Int.reduceAdd, Nat.reduceDiv, encL, MC0, MC1, MC2, h, ha', hb', hin] | refine gdVM_of (fun h => ?_) (fun h => ?_) <;> simp only [VC0, VC1, VC2, VC3, VC4, VC5, VC6, reduceIte, reduceCtorEq, Nat.reduceEqDiff, Nat.reduceAdd, Nat.reduceMul, Nat.reduceBEq, Nat.reduceLT, Nat.reduceLeDiff, Int.reduceEq, Int.reduceLT, Int.reduceLE, Int.reduceNeg, Int.reduceToNat, Int.reduceAdd, Nat.reduceDiv, encL, MC0, MC1, MC2, h, ha', hb', hin] | refine gpDn_of (fun h => ?_) (fun h => ?_) <;> simp only [VC0, VC1, VC2, VC3, VC4, VC5, VC6, reduceIte, reduceCtorEq, Nat.reduceEqDiff, Nat.reduceAdd, Nat.reduceMul, Nat.reduceBEq, Nat.reduceLT, Nat.reduceLeDiff, Int.reduceEq, Int.reduceLT, Int.reduceLE, Int.reduceNeg, Int.reduceToNat, Int.reduceAdd, Nat.reduceDiv, encL, MC0, MC1, MC2, h, ha', hb', hin] | refine gpD_of (fun h => ?_) (fun h => ?_) <;> simp only [VC0, VC1, VC2, VC3, VC4, VC5, VC6, reduceIte, reduceCtorEq, Nat.reduceEqDiff, Nat.reduceAdd, Nat.reduceMul, Nat.reduceBEq, Nat.reduceLT, Nat.reduceLeDiff, Int.reduceEq, Int.reduceLT, Int.reduceLE, Int.reduceNeg, Int.reduceToNat, Int.reduceAdd, Nat.reduceDiv, encL, MC0, MC1, MC2, h, ha', hb', hin] | refine gdVn_of (fun h => ?_) (fun h => ?_) <;> simp only [VC0, VC1, VC2, VC3, VC4, VC5, VC6, reduceIte, reduceCtorEq, Nat.reduceEqDiff, Nat.reduceAdd, Nat.reduceMul, Nat.reduceBEq, Nat.reduceLT, Nat.reduceLeDiff, Int.reduceEq, Int.reduceLT, Int.reduceLE, Int.reduceNeg, Int.reduceToNat, Int.reduceAdd, Nat.reduceDiv, encL, MC0, MC1, MC2, h, ha', hb', hin] | refine gdV_of (fun h => ?_) (fun h => ?_) <;> simp only [VC0, VC1, VC2, VC3, VC4, VC5, VC6, reduceIte, reduceCtorEq, Nat.reduceEqDiff, Nat.reduceAdd, Nat.reduceMul, Nat.reduceBEq, Nat.reduceLT, Nat.reduceLeDiff, Int.reduceEq, Int.reduceLT, Int.reduceLE, Int.reduceNeg, Int.reduceToNat, Int.reduceAdd, Nat.reduceDiv, encL, MC0, MC1, MC2, h, ha', hb', hin] | (unfold InI64; omega) | refine And.intro ?_ ?_)
      all_goals first
        | omega
        | (rename_i h5; rw [decide_eq_false h5, Bool.false_and] at hb; simp [← hb]; done)
        | (rw [decide_eq_false h, Bool.false_and] at hb; simp [← hb]; done)
        | (rw [decide_eq_true h, Bool.true_and] at hb; exact backTo_of (k + 1, _) ⟨by omega, hb⟩ (by simp only []; omega) (ent_of _ [] rfl rfl (by simp only [VC0, VC1, VC2, VC3, VC4, VC5, VC6, reduceIte, reduceCtorEq, Nat.reduceEqDiff, Nat.reduceAdd, Nat.reduceMul, Nat.reduceBEq, Nat.reduceLT, Nat.reduceLeDiff, Int.reduceEq, Int.reduceLT, Int.reduceLE, Int.reduceNeg, Int.reduceToNat, Int.reduceAdd, Nat.reduceDiv, encL, MC0, MC1, MC2])))
    · have hk' : k = a.length := by omega
      subst hk'
      simp only [VC0, VC1, VC2, VC3, VC4, VC5, VC6, reduceIte, reduceCtorEq, Nat.reduceEqDiff, Nat.reduceAdd, Nat.reduceMul, Nat.reduceBEq, Nat.reduceLT, Nat.reduceLeDiff, Int.reduceEq, Int.reduceLT, Int.reduceLE, Int.reduceNeg, Int.reduceToNat, Int.reduceAdd, Nat.reduceDiv, encL, MC0, MC1, MC2]
      rw [← hb]; simp; omega

theorem bools_ret (a b : List Bool) (ha : a.length ≤ 1000000) : PRet Try.prog 21 [encL cB a, encL cB b] (.bool (decide (a = b))) := by
  refine pret_intro fd21 (by simp) ?_
  simp only [lc21, VC0, VC1, VC2, VC3, VC4, VC5, VC6, reduceIte, reduceCtorEq, Nat.reduceEqDiff, Nat.reduceAdd, Nat.reduceMul, Nat.reduceBEq, Nat.reduceLT, Nat.reduceLeDiff, Int.reduceEq, Int.reduceLT, Int.reduceLE, Int.reduceNeg, Int.reduceToNat, Int.reduceAdd, Nat.reduceDiv, encL, MC0, MC1, MC2]
  refine condDn_of (fun h => ?_) (fun h => ?_)
  · simp only [VC0, VC1, VC2, VC3, VC4, VC5, VC6, reduceIte, reduceCtorEq, Nat.reduceEqDiff, Nat.reduceAdd, Nat.reduceMul, Nat.reduceBEq, Nat.reduceLT, Nat.reduceLeDiff, Int.reduceEq, Int.reduceLT, Int.reduceLE, Int.reduceNeg, Int.reduceToNat, Int.reduceAdd, Nat.reduceDiv, encL, MC0, MC1, MC2]
    have : ¬ a = b := by rintro rfl; exact h rfl
    simp [this]
  · have hl : a.length = b.length := by omega
    simp only [VC0, VC1, VC2, VC3, VC4, VC5, VC6, reduceIte, reduceCtorEq, Nat.reduceEqDiff, Nat.reduceAdd, Nat.reduceMul, Nat.reduceBEq, Nat.reduceLT, Nat.reduceLeDiff, Int.reduceEq, Int.reduceLT, Int.reduceLE, Int.reduceNeg, Int.reduceToNat, Int.reduceAdd, Nat.reduceDiv, encL, MC0, MC1, MC2]
    refine loop_vcg (ι := Nat × (Nat → Nat)) (fun (k, c) => stO [(0, .val (encL cB a)), (1, .val (encL cB b)), (5, .val (.int .i64 k))] c)
      (fun (k, _) => k ≤ a.length ∧ decide (a.drop k = b.drop k) = decide (a = b)) (fun (k, _) => a.length - k) (0, _) ⟨by omega, rfl⟩ (ent_of _ [] rfl rfl (by simp only [VC0, VC1, VC2, VC3, VC4, VC5, VC6, reduceIte, reduceCtorEq, Nat.reduceEqDiff, Nat.reduceAdd, Nat.reduceMul, Nat.reduceBEq, Nat.reduceLT, Nat.reduceLeDiff, Int.reduceEq, Int.reduceLT, Int.reduceLE, Int.reduceNeg, Int.reduceToNat, Int.reduceAdd, Nat.reduceDiv, encL, MC0, MC1, MC2])) ?_
    rintro ⟨k, c⟩ ⟨hk, hb⟩
    simp only [VC0, VC1, VC2, VC3, VC4, VC5, VC6, reduceIte, reduceCtorEq, Nat.reduceEqDiff, Nat.reduceAdd, Nat.reduceMul, Nat.reduceBEq, Nat.reduceLT, Nat.reduceLeDiff, Int.reduceEq, Int.reduceLT, Int.reduceLE, Int.reduceNeg, Int.reduceToNat, Int.reduceAdd, Nat.reduceDiv, encL, MC0, MC1, MC2]
    refine condD_of (fun h => ?_) (fun h => ?_)
    · have ha' : k < a.length := by omega
      have hb' : k < b.length := by omega
      have hin : 0 ≤ (k : Int) ∧ (k : Int) < b.length := by omega
      rw [drop_beq ha' hb'] at hb
      have hbn : (a[k] != b[k]) = !decide (a[k] = b[k]) := by cases a[k] <;> cases b[k] <;> rfl
      have hka : (k : Int) < a.length := by omega
      simp only [VC0, VC1, VC2, VC3, VC4, VC5, VC6, reduceIte, reduceCtorEq, Nat.reduceEqDiff, Nat.reduceAdd, Nat.reduceMul, Nat.reduceBEq, Nat.reduceLT, Nat.reduceLeDiff, Int.reduceEq, Int.reduceLT, Int.reduceLE, Int.reduceNeg, Int.reduceToNat, Int.reduceAdd, Nat.reduceDiv, encL, MC0, MC1, MC2, ha', hb', hin, ld_cB ha', ld_cB hb', hbn, hka]
      refine condDn_of (fun h => ?_) (fun h => ?_)
      · rw [decide_eq_false h, Bool.false_and] at hb
        simp only [VC0, VC1, VC2, VC3, VC4, VC5, VC6, reduceIte, reduceCtorEq, Nat.reduceEqDiff, Nat.reduceAdd, Nat.reduceMul, Nat.reduceBEq, Nat.reduceLT, Nat.reduceLeDiff, Int.reduceEq, Int.reduceLT, Int.reduceLE, Int.reduceNeg, Int.reduceToNat, Int.reduceAdd, Nat.reduceDiv, encL, MC0, MC1, MC2, ← hb]
      · rw [decide_eq_true h, Bool.true_and] at hb
        simp only [VC0, VC1, VC2, VC3, VC4, VC5, VC6, reduceIte, reduceCtorEq, Nat.reduceEqDiff, Nat.reduceAdd, Nat.reduceMul, Nat.reduceBEq, Nat.reduceLT, Nat.reduceLeDiff, Int.reduceEq, Int.reduceLT, Int.reduceLE, Int.reduceNeg, Int.reduceToNat, Int.reduceAdd, Nat.reduceDiv, encL, MC0, MC1, MC2]
        exact And.intro (by unfold InI64; omega) (backTo_of (k + 1, _) ⟨by omega, hb⟩ (by simp only []; omega) (ent_of _ [] rfl rfl (by simp only [VC0, VC1, VC2, VC3, VC4, VC5, VC6, reduceIte, reduceCtorEq, Nat.reduceEqDiff, Nat.reduceAdd, Nat.reduceMul, Nat.reduceBEq, Nat.reduceLT, Nat.reduceLeDiff, Int.reduceEq, Int.reduceLT, Int.reduceLE, Int.reduceNeg, Int.reduceToNat, Int.reduceAdd, Nat.reduceDiv, encL, MC0, MC1, MC2])))
    · have hk' : k = a.length := by omega
      subst hk'
      simp only [VC0, VC1, VC2, VC3, VC4, VC5, VC6, reduceIte, reduceCtorEq, Nat.reduceEqDiff, Nat.reduceAdd, Nat.reduceMul, Nat.reduceBEq, Nat.reduceLT, Nat.reduceLeDiff, Int.reduceEq, Int.reduceLT, Int.reduceLE, Int.reduceNeg, Int.reduceToNat, Int.reduceAdd, Nat.reduceDiv, encL, MC0, MC1, MC2]
      rw [← hb]; simp; omega

theorem has_ret (l : List Int) (x : Int) (hl : l.length ≤ 1000000) : PRet Try.prog 25 [encL cI l, .int .i64 x] (.bool (l.any fun y => decide (y = x))) := by
  refine pret_intro fd25 (by simp) ?_
  simp only [lc25, VC0, VC1, VC2, VC3, VC4, VC5, VC6, reduceIte, reduceCtorEq, Nat.reduceEqDiff, Nat.reduceAdd, Nat.reduceMul, Nat.reduceBEq, Nat.reduceLT, Nat.reduceLeDiff, Int.reduceEq, Int.reduceLT, Int.reduceLE, Int.reduceNeg, Int.reduceToNat, Int.reduceAdd, Nat.reduceDiv, encL, MC0, MC1, MC2]
  refine loop_vcg (ι := Nat × (Nat → Nat)) (fun (k, c) => stO [(0, .val (encL cI l)), (1, .val (.int .i64 x)), (5, .val (.int .i64 k))] c)
    (fun (k, _) => k ≤ l.length ∧ (l.drop k).any (fun y => decide (y = x)) = l.any fun y => decide (y = x)) (fun (k, _) => l.length - k) (0, _) ⟨by omega, rfl⟩ (ent_of _ [] rfl rfl (by simp only [VC0, VC1, VC2, VC3, VC4, VC5, VC6, reduceIte, reduceCtorEq, Nat.reduceEqDiff, Nat.reduceAdd, Nat.reduceMul, Nat.reduceBEq, Nat.reduceLT, Nat.reduceLeDiff, Int.reduceEq, Int.reduceLT, Int.reduceLE, Int.reduceNeg, Int.reduceToNat, Int.reduceAdd, Nat.reduceDiv, encL, MC0, MC1, MC2])) ?_
  rintro ⟨k, c⟩ ⟨hk, hb⟩
  simp only [VC0, VC1, VC2, VC3, VC4, VC5, VC6, reduceIte, reduceCtorEq, Nat.reduceEqDiff, Nat.reduceAdd, Nat.reduceMul, Nat.reduceBEq, Nat.reduceLT, Nat.reduceLeDiff, Int.reduceEq, Int.reduceLT, Int.reduceLE, Int.reduceNeg, Int.reduceToNat, Int.reduceAdd, Nat.reduceDiv, encL, MC0, MC1, MC2]
  refine condD_of (fun h => ?_) (fun h => ?_)
  · have ha' : k < l.length := by omega
    have hin : 0 ≤ (k : Int) ∧ (k : Int) < l.length := by omega
    rw [any_drop _ _ _ ha'] at hb
    simp only [VC0, VC1, VC2, VC3, VC4, VC5, VC6, reduceIte, reduceCtorEq, Nat.reduceEqDiff, Nat.reduceAdd, Nat.reduceMul, Nat.reduceBEq, Nat.reduceLT, Nat.reduceLeDiff, Int.reduceEq, Int.reduceLT, Int.reduceLE, Int.reduceNeg, Int.reduceToNat, Int.reduceAdd, Nat.reduceDiv, encL, MC0, MC1, MC2, ha', hin]
    refine condD_of (fun h => ?_) (fun h => ?_)
    · rw [decide_eq_true h, Bool.true_or] at hb
      simp only [VC0, VC1, VC2, VC3, VC4, VC5, VC6, reduceIte, reduceCtorEq, Nat.reduceEqDiff, Nat.reduceAdd, Nat.reduceMul, Nat.reduceBEq, Nat.reduceLT, Nat.reduceLeDiff, Int.reduceEq, Int.reduceLT, Int.reduceLE, Int.reduceNeg, Int.reduceToNat, Int.reduceAdd, Nat.reduceDiv, encL, MC0, MC1, MC2, ← hb]
    · rw [decide_eq_false h, Bool.false_or] at hb
      simp only [VC0, VC1, VC2, VC3, VC4, VC5, VC6, reduceIte, reduceCtorEq, Nat.reduceEqDiff, Nat.reduceAdd, Nat.reduceMul, Nat.reduceBEq, Nat.reduceLT, Nat.reduceLeDiff, Int.reduceEq, Int.reduceLT, Int.reduceLE, Int.reduceNeg, Int.reduceToNat, Int.reduceAdd, Nat.reduceDiv, encL, MC0, MC1, MC2]
      exact And.intro (by unfold InI64; omega) (backTo_of (k + 1, _) ⟨by omega, hb⟩ (by simp only []; omega) (ent_of _ [] rfl rfl (by simp only [VC0, VC1, VC2, VC3, VC4, VC5, VC6, reduceIte, reduceCtorEq, Nat.reduceEqDiff, Nat.reduceAdd, Nat.reduceMul, Nat.reduceBEq, Nat.reduceLT, Nat.reduceLeDiff, Int.reduceEq, Int.reduceLT, Int.reduceLE, Int.reduceNeg, Int.reduceToNat, Int.reduceAdd, Nat.reduceDiv, encL, MC0, MC1, MC2])))
  · have hk' : k = l.length := by omega
    subst hk'
    simp only [List.drop_length, List.any_nil] at hb
    simp only [VC0, VC1, VC2, VC3, VC4, VC5, VC6, reduceIte, reduceCtorEq, Nat.reduceEqDiff, Nat.reduceAdd, Nat.reduceMul, Nat.reduceBEq, Nat.reduceLT, Nat.reduceLeDiff, Int.reduceEq, Int.reduceLT, Int.reduceLE, Int.reduceNeg, Int.reduceToNat, Int.reduceAdd, Nat.reduceDiv, encL, MC0, MC1, MC2, ← hb]


/-! What the program tells of a few. -/
def noS : ByteArray := ByteArray.mk #[]
def p0 : MPath := ⟨0, []⟩
def o0 : MOper := ⟨0, 0, p0⟩
def v0 : MVal := ⟨0, o0, o0, 0, p0, 0, noS, [], []⟩
def toldM : Mir := ⟨0, 0, 0, [], [⟨noS, .mk 0 noS [] [], false⟩, ⟨noS, .mk 0 noS [] [], false⟩],
  [⟨4, 0, false, p0, { v0 with a := ⟨2, 0, p0⟩ }, [1, 2]⟩, ⟨5, 0, false, p0, v0, [0]⟩, ⟨2, 0, false, ⟨1, []⟩, v0, [3]⟩, ⟨6, 0, false, p0, v0, []⟩]⟩
def noM : Mir := ⟨0, 0, 0, [], [], []⟩

theorem noS_size : noS.size = 0 := rfl
theorem toldM_ok : toldM.ok := by
  simp [toldM, Mir.ok, MInst.ok, MVal.ok, MOper.ok, MPath.ok, MLocal.ok, RT.ok, RT.okL, v0, o0, p0, noS_size, InI64, maxLen_eq]
theorem noM_ok : noM.ok := by
  simp [noM, Mir.ok, InI64, maxLen_eq]
theorem toldM_may : mayB toldM = true := by decide
theorem noM_may : mayB noM = false := by decide
theorem toldM_prev : (List.range toldM.code.length).map (prevs toldM) = [[1], [0], [0], [2]] := by decide

theorem told_steps : (List.range toldM.code.length).map (dist0 (nx toldM) 0) = [0, 1, 1, 2] := by
  have h1 : pth (nx toldM) 1 0 1 := ⟨0, rfl, by decide⟩
  have h2 : pth (nx toldM) 1 0 2 := ⟨0, rfl, by decide⟩
  have h3 : pth (nx toldM) 2 0 3 := ⟨2, h2, by decide⟩
  have e0 : dist0 (nx toldM) 0 0 = 0 := dist0_self 0
  have e1 : dist0 (nx toldM) 0 1 = 1 := least_eq (.inl ⟨1, h1, fun e he => by
    cases e with
    | zero => cases he
    | succ e => omega, rfl⟩)
  have e2 : dist0 (nx toldM) 0 2 = 1 := least_eq (.inl ⟨1, h2, fun e he => by
    cases e with
    | zero => cases he
    | succ e => omega, rfl⟩)
  have e3 : dist0 (nx toldM) 0 3 = 2 := least_eq (.inl ⟨2, h3, fun e he => by
    match e, he with
    | 0, he => cases he
    | 1, ⟨u, hu, ht⟩ => obtain rfl : 0 = u := hu; exact absurd ht (by decide)
    | e + 2, _ => omega, rfl⟩)
  show [dist0 (nx toldM) 0 0, dist0 (nx toldM) 0 1, dist0 (nx toldM) 0 2, dist0 (nx toldM) 0 3] = _
  rw [e0, e1, e2, e3]

theorem told_rings : rings toldM = [true, true, false, false] := by
  have h0 : pth (nx toldM) 2 0 0 := ⟨1, ⟨0, rfl, by decide⟩, by decide⟩
  have h1 : pth (nx toldM) 2 1 1 := ⟨0, ⟨1, rfl, by decide⟩, by decide⟩
  have h2 : ∀ d t, pth (nx toldM) (d + 1) 2 t → t = 3 := by
    intro d
    induction d with
    | zero =>
      rintro t ⟨u, hu, ht⟩
      obtain rfl : 2 = u := hu
      simpa [nx, toldM] using ht
    | succ d ih =>
      rintro t ⟨u, hu, ht⟩
      obtain rfl := ih u hu
      simp [nx, toldM] at ht
  have e0 : (0 : Int) ≤ dist1 (nx toldM) 0 0 := least_nonneg.2 ⟨2, by decide, h0⟩
  have e1 : (0 : Int) ≤ dist1 (nx toldM) 1 1 := least_nonneg.2 ⟨2, by decide, h1⟩
  have e2 : ¬ (0 : Int) ≤ dist1 (nx toldM) 2 2 := by
    intro h
    obtain ⟨d, hd, hp⟩ := least_nonneg.1 h
    obtain ⟨d, rfl⟩ : ∃ e, d = e + 1 := ⟨d - 1, by omega⟩
    cases h2 d 2 hp
  have e3 : ¬ (0 : Int) ≤ dist1 (nx toldM) 3 3 := by
    rw [dist1_none (by decide)]; decide
  show [decide ((0 : Int) ≤ dist1 (nx toldM) 0 0), decide ((0 : Int) ≤ dist1 (nx toldM) 1 1), decide ((0 : Int) ≤ dist1 (nx toldM) 2 2), decide ((0 : Int) ≤ dist1 (nx toldM) 3 3)] = _
  rw [decide_eq_true e0, decide_eq_true e1, decide_eq_false e2, decide_eq_false e3]

theorem told18_ret : PRet Try.prog 13 [] (.bool true) := by
  have hprev := prev_ret toldM toldM_ok
  have hsteps := steps_ret toldM toldM_ok
  have hrings := flowRings_ret toldM toldM_ok
  have hreach := reach_ret noM noM_ok
  rw [toldM_may, if_pos rfl] at hprev hsteps hrings
  rw [noM_may, if_neg (by decide)] at hreach
  rw [toldM_prev] at hprev
  rw [told_steps] at hsteps
  rw [told_rings] at hrings
  refine pret_intro fd13 (by simp) ?_
  simp only [lc13, VC0, VC1, VC2, VC3, VC4, VC5, VC6, reduceIte, reduceCtorEq, Nat.reduceEqDiff, Nat.reduceAdd, Nat.reduceMul, Nat.reduceBEq, Nat.reduceLT, Nat.reduceLeDiff, Int.reduceEq, Int.reduceLT, Int.reduceLE, Int.reduceNeg, Int.reduceToNat, Int.reduceAdd, Nat.reduceDiv, encL, MC0, MC1, MC2, setCells, List.take_succ_cons, List.take_zero, List.take_nil, List.drop_succ_cons, List.drop_zero, List.drop_nil, ldV]
  refine callX_of (hprev.nz 5 ?_) (.inl rfl) ?_
  · simp [nz, Mir.cells, MInst.cells, MLocal.cells, toldM, encL, cI, cS, v0, o0, p0, noS, RT.kind, RT.name, RT.regions, RT.elem]
  simp only [VC0, VC1, VC2, VC3, VC4, VC5, VC6, reduceIte, reduceCtorEq, Nat.reduceEqDiff, Nat.reduceAdd, Nat.reduceMul, Nat.reduceBEq, Nat.reduceLT, Nat.reduceLeDiff, Int.reduceEq, Int.reduceLT, Int.reduceLE, Int.reduceNeg, Int.reduceToNat, Int.reduceAdd, Nat.reduceDiv, encL, MC0, MC1, MC2, setCells, List.take_succ_cons, List.take_zero, List.take_nil, List.drop_succ_cons, List.drop_zero, List.drop_nil, ldV, encLL, cL, List.flatMap_cons, List.flatMap_nil, cI, cB, List.getElem?_cons_zero, Int.natCast_one, Int.cast_ofNat_Int]
  refine callX_of (ints_ret [1] [1] (by decide)) (.inr rfl) ?_
  simp only [VC0, VC1, VC2, VC3, VC4, VC5, VC6, reduceIte, reduceCtorEq, Nat.reduceEqDiff, Nat.reduceAdd, Nat.reduceMul, Nat.reduceBEq, Nat.reduceLT, Nat.reduceLeDiff, Int.reduceEq, Int.reduceLT, Int.reduceLE, Int.reduceNeg, Int.reduceToNat, Int.reduceAdd, Nat.reduceDiv, encL, MC0, MC1, MC2, setCells, List.take_succ_cons, List.take_zero, List.take_nil, List.drop_succ_cons, List.drop_zero, List.drop_nil, ldV, encLL, cL, List.flatMap_cons, List.flatMap_nil, cI, cB, List.getElem?_cons_zero, Int.natCast_one, Int.cast_ofNat_Int]
  refine callX_of (hsteps.nz 5 ?_) (.inl rfl) ?_
  · simp [nz, Mir.cells, MInst.cells, MLocal.cells, toldM, noM, encL, cI, cS, v0, o0, p0, noS, RT.kind, RT.name, RT.regions, RT.elem]
  simp only [VC0, VC1, VC2, VC3, VC4, VC5, VC6, reduceIte, reduceCtorEq, Nat.reduceEqDiff, Nat.reduceAdd, Nat.reduceMul, Nat.reduceBEq, Nat.reduceLT, Nat.reduceLeDiff, Int.reduceEq, Int.reduceLT, Int.reduceLE, Int.reduceNeg, Int.reduceToNat, Int.reduceAdd, Nat.reduceDiv, encL, MC0, MC1, MC2, setCells, List.take_succ_cons, List.take_zero, List.take_nil, List.drop_succ_cons, List.drop_zero, List.drop_nil, ldV, encLL, cL, List.flatMap_cons, List.flatMap_nil, cI, cB, List.getElem?_cons_zero, Int.natCast_one, Int.cast_ofNat_Int]
  refine callX_of (ints_ret [0, 1, 1, 2] [0, 1, 1, 2] (by decide)) (.inr rfl) ?_
  simp only [VC0, VC1, VC2, VC3, VC4, VC5, VC6, reduceIte, reduceCtorEq, Nat.reduceEqDiff, Nat.reduceAdd, Nat.reduceMul, Nat.reduceBEq, Nat.reduceLT, Nat.reduceLeDiff, Int.reduceEq, Int.reduceLT, Int.reduceLE, Int.reduceNeg, Int.reduceToNat, Int.reduceAdd, Nat.reduceDiv, encL, MC0, MC1, MC2, setCells, List.take_succ_cons, List.take_zero, List.take_nil, List.drop_succ_cons, List.drop_zero, List.drop_nil, ldV, encLL, cL, List.flatMap_cons, List.flatMap_nil, cI, cB, List.getElem?_cons_zero, Int.natCast_one, Int.cast_ofNat_Int]
  refine callX_of (hrings.nz 5 ?_) (.inl rfl) ?_
  · simp [nz, Mir.cells, MInst.cells, MLocal.cells, toldM, noM, encL, cI, cS, v0, o0, p0, noS, RT.kind, RT.name, RT.regions, RT.elem]
  simp only [VC0, VC1, VC2, VC3, VC4, VC5, VC6, reduceIte, reduceCtorEq, Nat.reduceEqDiff, Nat.reduceAdd, Nat.reduceMul, Nat.reduceBEq, Nat.reduceLT, Nat.reduceLeDiff, Int.reduceEq, Int.reduceLT, Int.reduceLE, Int.reduceNeg, Int.reduceToNat, Int.reduceAdd, Nat.reduceDiv, encL, MC0, MC1, MC2, setCells, List.take_succ_cons, List.take_zero, List.take_nil, List.drop_succ_cons, List.drop_zero, List.drop_nil, ldV, encLL, cL, List.flatMap_cons, List.flatMap_nil, cI, cB, List.getElem?_cons_zero, Int.natCast_one, Int.cast_ofNat_Int]
  refine callX_of (bools_ret [true, true, false, false] [true, true, false, false] (by decide)) (.inr rfl) ?_
  simp only [VC0, VC1, VC2, VC3, VC4, VC5, VC6, reduceIte, reduceCtorEq, Nat.reduceEqDiff, Nat.reduceAdd, Nat.reduceMul, Nat.reduceBEq, Nat.reduceLT, Nat.reduceLeDiff, Int.reduceEq, Int.reduceLT, Int.reduceLE, Int.reduceNeg, Int.reduceToNat, Int.reduceAdd, Nat.reduceDiv, encL, MC0, MC1, MC2, setCells, List.take_succ_cons, List.take_zero, List.take_nil, List.drop_succ_cons, List.drop_zero, List.drop_nil, ldV, encLL, cL, List.flatMap_cons, List.flatMap_nil, cI, cB, List.getElem?_cons_zero, Int.natCast_one, Int.cast_ofNat_Int]
  refine callX_of (hreach.nz 5 ?_) (.inl rfl) ?_
  · simp [nz, Mir.cells, MInst.cells, MLocal.cells, toldM, noM, encL, cI, cS, v0, o0, p0, noS, RT.kind, RT.name, RT.regions, RT.elem]
  simp only [VC0, VC1, VC2, VC3, VC4, VC5, VC6, reduceIte, reduceCtorEq, Nat.reduceEqDiff, Nat.reduceAdd, Nat.reduceMul, Nat.reduceBEq, Nat.reduceLT, Nat.reduceLeDiff, Int.reduceEq, Int.reduceLT, Int.reduceLE, Int.reduceNeg, Int.reduceToNat, Int.reduceAdd, Nat.reduceDiv, encL, MC0, MC1, MC2, setCells, List.take_succ_cons, List.take_zero, List.take_nil, List.drop_succ_cons, List.drop_zero, List.drop_nil, ldV, encLL, cL, List.flatMap_cons, List.flatMap_nil, cI, cB, List.getElem?_cons_zero, Int.natCast_one, Int.cast_ofNat_Int]

end Go.Proofs.Ytobhpkagbmadlaa
