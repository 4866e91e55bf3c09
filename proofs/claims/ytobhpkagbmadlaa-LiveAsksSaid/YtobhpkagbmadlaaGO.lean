/-
  Texts Ctp, Ctq, Ctr of this claim, put together.
-/
import Derived.Test.YtobhpkagbmadlaaGKa
import Derived.Test.YtobhpkagbmadlaaGG2
import Derived.Test.YtobhpkagbmadlaaGH
import Derived.Test.YtobhpkagbmadlaaGKb
import Derived.Test.YtobhpkagbmadlaaGL
set_option linter.unusedSimpArgs false
set_option linter.unusedVariables false
namespace Go.Proofs.Ytobhpkagbmadlaa
open Go Go.Lg Go.RowKit
set_option maxRecDepth 20000

theorem li_tk (n : Nat) : ∀ (l : List Int), (l.flatMap cI).take n = (l.take n).flatMap cI := by
  induction n with
  | zero => intro l; simp
  | succ n ih => intro l; cases l with
    | nil => simp
    | cons x l => simp only [List.flatMap_cons, cI, List.take_succ_cons, List.singleton_append, ih]
theorem li_dr (n : Nat) : ∀ (l : List Int), (l.flatMap cI).drop n = (l.drop n).flatMap cI := by
  induction n with
  | zero => intro l; simp
  | succ n ih => intro l; cases l with
    | nil => simp
    | cons x l => simp only [List.flatMap_cons, cI, List.drop_succ_cons, List.singleton_append, ih]

theorem opersL_len' (v : MVal) : (opersL v).length ≤ v.args.length + 2 := by
  unfold opersL
  split
  · simp
  · split
    · simp
    · split
      · omega
      · simp
theorem operL_named (o : MOper) : operL o = if namedB o = true then [o.path.loc] else [] := by
  simp only [operL, namedB, Bool.or_eq_true, decide_eq_true_eq]
theorem mem_refL (x : MInst) (v : Int) : v ∈ refL x (opersL x.val) ↔ v ∈ rawL x := by
  unfold refL rawL
  by_cases h1 : x.kind = 1
  · rw [if_pos h1, if_pos h1]
    simp only [List.mem_append]
    have : (v ∈ (opersL x.val).flatMap operL ∨ v ∈ (if x.val.kind = 2 ∨ x.val.kind = 3 then [x.val.path.loc] else [])) ↔ v ∈ valL x.val := by
      unfold opersL valL
      by_cases h23 : x.val.kind = 2 ∨ x.val.kind = 3
      · rw [if_pos h23, if_pos h23, if_neg (by omega), if_neg (by omega), if_neg (by omega)]; simp
      · rw [if_neg h23, if_neg h23]
        by_cases h14 : x.val.kind = 1 ∨ x.val.kind = 4
        · rw [if_pos h14, if_neg (by omega), if_pos h14]; simp
        · rw [if_neg h14]
          by_cases h5 : x.val.kind = 5
          · rw [if_pos h5, if_pos h5]; simp [or_comm]
          · rw [if_neg h5, if_neg h5, if_neg h14]
            by_cases h6 : x.val.kind = 6 ∨ x.val.kind = 7
            · rw [if_pos h6, if_pos h6]; simp
            · rw [if_neg h6, if_neg h6]; simp
    rw [← this]
    simp only [or_assoc]
  · rw [if_neg h1, if_neg h1]
theorem refL_len (x : MInst) : (refL x (opersL x.val)).length ≤ x.val.args.length + 4 := by
  have h1 := opersL_len' x.val
  have h2 := operLs_len (opersL x.val)
  have h3 := operL_len x.val.a
  unfold refL
  split
  · simp only [List.length_append]
    split <;> split <;> simp only [List.length_cons, List.length_nil] <;> omega
  · split
    · simp
    · split
      · omega
      · simp

theorem refL_tt {x : MInst} {ops : List MOper} (h1 : x.kind = 1) (h2 : x.val.kind = 2 ∨ x.val.kind = 3) (h3 : x.has = true ∧ 0 < x.to.steps.length) : refL x ops = (ops.flatMap operL ++ [x.val.path.loc]) ++ [x.to.loc] := by
  rw [refL, if_pos h1, if_pos h2, if_pos h3, List.append_assoc]
theorem refL_tf {x : MInst} {ops : List MOper} (h1 : x.kind = 1) (h2 : x.val.kind = 2 ∨ x.val.kind = 3) (h3 : ¬ (x.has = true ∧ 0 < x.to.steps.length)) : refL x ops = ops.flatMap operL ++ [x.val.path.loc] := by
  rw [refL, if_pos h1, if_pos h2, if_neg h3, List.append_nil]
theorem refL_ft {x : MInst} {ops : List MOper} (h1 : x.kind = 1) (h2 : ¬ (x.val.kind = 2 ∨ x.val.kind = 3)) (h3 : x.has = true ∧ 0 < x.to.steps.length) : refL x ops = ops.flatMap operL ++ [x.to.loc] := by
  rw [refL, if_pos h1, if_neg h2, if_pos h3, List.nil_append]
theorem refL_ff {x : MInst} {ops : List MOper} (h1 : x.kind = 1) (h2 : ¬ (x.val.kind = 2 ∨ x.val.kind = 3)) (h3 : ¬ (x.has = true ∧ 0 < x.to.steps.length)) : refL x ops = ops.flatMap operL := by
  rw [refL, if_pos h1, if_neg h2, if_neg h3, List.append_nil, List.append_nil]

theorem uses18_ret (x : MInst) (hargs : x.val.args.length ≤ 1000) : PRet Try.prog 38 [.agg x.cells] (encL cI (usesL x)) := by
  have hvl := opersL_len' x.val
  have hrl := refL_len x
  refine pret_intro_l fd38 (by simp) ?_
  simp only [lc38, VC0, VC1, VC2, VC3, VC4, VC5, VC6, VC7, reduceIte, reduceCtorEq, Nat.reduceEqDiff, Nat.reduceAdd, Nat.reduceMul, Nat.reduceBEq, Nat.reduceLT, Nat.reduceLeDiff, Int.reduceEq, Int.reduceLT, Int.reduceLE, Int.reduceNeg, Int.reduceToNat, Int.reduceAdd, Nat.reduceDiv, Nat.reduceSub, Nat.reduceMod, encL, MC0, MC1, MC2]
  refine join_vcg (ι := List Int × (Nat → Nat)) (fun (l, c) => stO [(3, .own 1 l.length (l.flatMap cI))] c) (fun (l, _) => l = refL x (opersL x.val)) ?_ ?_
  · simp only [VC0, VC1, VC2, VC3, VC4, VC5, VC6, VC7, reduceIte, reduceCtorEq, Nat.reduceEqDiff, Nat.reduceAdd, Nat.reduceMul, Nat.reduceBEq, Nat.reduceLT, Nat.reduceLeDiff, Int.reduceEq, Int.reduceLT, Int.reduceLE, Int.reduceNeg, Int.reduceToNat, Int.reduceAdd, Nat.reduceDiv, Nat.reduceSub, Nat.reduceMod, encL, MC0, MC1, MC2]
    repeat' (first | refine condDn_of (fun h => ?_) (fun h => ?_) <;> simp only [VC0, VC1, VC2, VC3, VC4, VC5, VC6, VC7, reduceIte, reduceCtorEq, Nat.reduceEqDiff, Nat.reduceAdd, Nat.reduceMul, Nat.reduceBEq, Nat.reduceLT, Nat.reduceLeDiff, Int.reduceEq, Int.reduceLT, Int.reduceLE, Int.reduceNeg, Int.reduceToNat, Int.reduceAdd, Nat.reduceDiv, Nat.reduceSub, Nat.reduceMod, encL, MC0, MC1, MC2, h] | refine condD_of (fun h => ?_) (fun h => ?_) <;> simp only [VC0, VC1, VC2, VC3, VC4, VC5, VC6, VC7, reduceIte, reduceCtorEq, Nat.reduceEqDiff, Nat.reduceAdd, Nat.reduceMul, Nat.reduceBEq, Nat.reduceLT, Nat.reduceLeDiff, Int.reduceEq, Int.reduceLT, Int.reduceLE, Int.reduceNeg, Int.reduceToNat, Int.reduceAdd, Nat.reduceDiv, Nat.reduceSub, Nat.reduceMod, encL, MC0, MC1, MC2, h] | refine condVn_of (fun h => ?_) (fun h => ?_) <;> simp only [VC0, VC1, VC2, VC3, VC4, VC5, VC6, VC7, reduceIte, reduceCtorEq, Nat.reduceEqDiff, Nat.reduceAdd, Nat.reduceMul, Nat.reduceBEq, Nat.reduceLT, Nat.reduceLeDiff, Int.reduceEq, Int.reduceLT, Int.reduceLE, Int.reduceNeg, Int.reduceToNat, Int.reduceAdd, Nat.reduceDiv, Nat.reduceSub, Nat.reduceMod, encL, MC0, MC1, MC2, h] | refine condV_of (fun h => ?_) (fun h => ?_) <;> simp only [VC0, VC1, VC2, VC3, VC4, VC5, VC6, VC7, reduceIte, reduceCtorEq, Nat.reduceEqDiff, Nat.reduceAdd, Nat.reduceMul, Nat.reduceBEq, Nat.reduceLT, Nat.reduceLeDiff, Int.reduceEq, Int.reduceLT, Int.reduceLE, Int.reduceNeg, Int.reduceToNat, Int.reduceAdd, Nat.reduceDiv, Nat.reduceSub, Nat.reduceMod, encL, MC0, MC1, MC2, h] | refine gdDn_of (fun h => ?_) (fun h => ?_) <;> simp only [VC0, VC1, VC2, VC3, VC4, VC5, VC6, VC7, reduceIte, reduceCtorEq, Nat.reduceEqDiff, Nat.reduceAdd, Nat.reduceMul, Nat.reduceBEq, Nat.reduceLT, Nat.reduceLeDiff, Int.reduceEq, Int.reduceLT, Int.reduceLE, Int.reduceNeg, Int.reduceToNat, Int.reduceAdd, Nat.reduceDiv, Nat.reduceSub, Nat.reduceMod, encL, MC0, MC1, MC2, h] | refine gdD_of (fun h => ?_) (fun h => ?_) <;> simp only [VC0, VC1, VC2, VC3, VC4, VC5, VC6, VC7, reduceIte, reduceCtorEq, Nat.reduceEqDiff, Nat.reduceAdd, Nat.reduceMul, Nat.reduceBEq, Nat.reduceLT, Nat.reduceLeDiff, Int.reduceEq, Int.reduceLT, Int.reduceLE, Int.reduceNeg, Int.reduceToNat, Int.reduceAdd, Nat.reduceDiv, Nat.reduceSub, Nat.reduceMod, encL, MC0, MC1, MC2, h] | refine gdVMn_of (fun h => ?_) (fun h => ?_) <;> simp only [VC0, VC1, VC2, VC3, VC4, VC5, VC6, VC7, reduceIte, reduceCtorEq, Nat.reduceEqDiff, Nat.reduceAdd, Nat.reduceMul, Nat.reduceBEq, Nat.reduceLT, Nat.reduceLeDiff, Int.reduceEq, Int.reduceLT, Int.reduceLE, Int.reduceNeg, Int.reduceToNat, Int.reduceAdd, Nat.reduceDiv, Nat.reduceSub, Nat.reduceMod, encL, MC0, MC1, MC2, h] | refine gdVM_of (fun h => ?_) (fun h => ?_) <;> simp only [VC0, VC1, VC2, VC3, VC4, VC5, VC6, VC7, reduceIte, reduceCtorEq, Nat.reduceEqDiff, Nat.reduceAdd, Nat.reduceMul, Nat.reduceBEq, Nat.reduceLT, Nat.reduceLeDiff, Int.reduceEq, Int.reduceLT, Int.reduceLE, Int.reduceNeg, Int.reduceToNat, Int.reduceAdd, Nat.reduceDiv, Nat.reduceSub, Nat.reduceMod, encL, MC0, MC1, MC2, h] | refine gpDn_of (fun h => ?_) (fun h => ?_) <;> simp only [VC0, VC1, VC2, VC3, VC4, VC5, VC6, VC7, reduceIte, reduceCtorEq, Nat.reduceEqDiff, Nat.reduceAdd, Nat.reduceMul, Nat.reduceBEq, Nat.reduceLT, Nat.reduceLeDiff, Int.reduceEq, Int.reduceLT, Int.reduceLE, Int.reduceNeg, Int.reduceToNat, Int.reduceAdd, Nat.reduceDiv, Nat.reduceSub, Nat.reduceMod, encL, MC0, MC1, MC2, h] | refine gpD_of (fun h => ?_) (fun h => ?_) <;> simp only [VC0, VC1, VC2, VC3, VC4, VC5, VC6, VC7, reduceIte, reduceCtorEq, Nat.reduceEqDiff, Nat.reduceAdd, Nat.reduceMul, Nat.reduceBEq, Nat.reduceLT, Nat.reduceLeDiff, Int.reduceEq, Int.reduceLT, Int.reduceLE, Int.reduceNeg, Int.reduceToNat, Int.reduceAdd, Nat.reduceDiv, Nat.reduceSub, Nat.reduceMod, encL, MC0, MC1, MC2, h] | refine gdVn_of (fun h => ?_) (fun h => ?_) <;> simp only [VC0, VC1, VC2, VC3, VC4, VC5, VC6, VC7, reduceIte, reduceCtorEq, Nat.reduceEqDiff, Nat.reduceAdd, Nat.reduceMul, Nat.reduceBEq, Nat.reduceLT, Nat.reduceLeDiff, Int.reduceEq, Int.reduceLT, Int.reduceLE, Int.reduceNeg, Int.reduceToNat, Int.reduceAdd, Nat.reduceDiv, Nat.reduceSub, Nat.reduceMod, encL, MC0, MC1, MC2, h] | refine gdV_of (fun h => ?_) (fun h => ?_) <;> simp only [VC0, VC1, VC2, VC3, VC4, VC5, VC6, VC7, reduceIte, reduceCtorEq, Nat.reduceEqDiff, Nat.reduceAdd, Nat.reduceMul, Nat.reduceBEq, Nat.reduceLT, Nat.reduceLeDiff, Int.reduceEq, Int.reduceLT, Int.reduceLE, Int.reduceNeg, Int.reduceToNat, Int.reduceAdd, Nat.reduceDiv, Nat.reduceSub, Nat.reduceMod, encL, MC0, MC1, MC2, h] | (unfold InI64; omega) | refine And.intro ?_ ?_)
    · refine callX_of (opers_ret x.val) (.inl rfl) ?_
      have h1 : x.kind = 1 := h
      simp only [VC0, VC1, VC2, VC3, VC4, VC5, VC6, VC7, reduceIte, reduceCtorEq, Nat.reduceEqDiff, Nat.reduceAdd, Nat.reduceMul, Nat.reduceBEq, Nat.reduceLT, Nat.reduceLeDiff, Int.reduceEq, Int.reduceLT, Int.reduceLE, Int.reduceNeg, Int.reduceToNat, Int.reduceAdd, Nat.reduceDiv, Nat.reduceSub, Nat.reduceMod, encL, MC0, MC1, MC2]
      refine loop_vcg (ι := Nat × List Int × (Nat → Nat)) (fun (k, A, c) => stO [(1, .box x.cells), (3, .own 1 A.length (A.flatMap cI)), (4, .val (encL MOper.cells (opersL x.val))), (5, .val (.int .i64 k))] c)
        (fun (k, A, _) => k ≤ (opersL x.val).length ∧ A = ((opersL x.val).take k).flatMap operL) (fun (k, _, _) => (opersL x.val).length - k) (0, [], _) ⟨Nat.zero_le _, by simp⟩ (ent_of _ [] rfl rfl (by simp only [VC0, VC1, VC2, VC3, VC4, VC5, VC6, VC7, reduceIte, reduceCtorEq, Nat.reduceEqDiff, Nat.reduceAdd, Nat.reduceMul, Nat.reduceBEq, Nat.reduceLT, Nat.reduceLeDiff, Int.reduceEq, Int.reduceLT, Int.reduceLE, Int.reduceNeg, Int.reduceToNat, Int.reduceAdd, Nat.reduceDiv, Nat.reduceSub, Nat.reduceMod, encL, MC0, MC1, MC2, List.flatMap_nil])) ?_
      rintro ⟨k, A, c⟩ ⟨hk, hA⟩
      simp only [VC0, VC1, VC2, VC3, VC4, VC5, VC6, VC7, reduceIte, reduceCtorEq, Nat.reduceEqDiff, Nat.reduceAdd, Nat.reduceMul, Nat.reduceBEq, Nat.reduceLT, Nat.reduceLeDiff, Int.reduceEq, Int.reduceLT, Int.reduceLE, Int.reduceNeg, Int.reduceToNat, Int.reduceAdd, Nat.reduceDiv, Nat.reduceSub, Nat.reduceMod, encL, MC0, MC1, MC2]
      have hAl : A.length ≤ k := by rw [hA]; have := operLs_len ((opersL x.val).take k); rw [List.length_take] at this; omega
      refine condD_of (fun h => ?_) (fun h => ?_)
      · have hk' : k < (opersL x.val).length := by omega
        have hin : 0 ≤ (k : Int) ∧ (k : Int) < (opersL x.val).length := by omega
        have hcap : (A.length + 1) * 8 ≤ 140737488355328 ∧ A.length + 1 ≤ 4611686018427387904 := by omega
        have hcap2 : A.length + 1 ≤ 140737488355328 / 8 := by omega
        have hnx : ((opersL x.val).take (k + 1)).flatMap operL = A ++ operL (opersL x.val)[k] := by
          simp only [hA, List.take_succ_eq_append_getElem hk', List.flatMap_append, List.flatMap_cons, List.flatMap_nil, List.append_nil]
        rw [operL_named] at hnx
        simp only [VC0, VC1, VC2, VC3, VC4, VC5, VC6, VC7, reduceIte, reduceCtorEq, Nat.reduceEqDiff, Nat.reduceAdd, Nat.reduceMul, Nat.reduceBEq, Nat.reduceLT, Nat.reduceLeDiff, Int.reduceEq, Int.reduceLT, Int.reduceLE, Int.reduceNeg, Int.reduceToNat, Int.reduceAdd, Nat.reduceDiv, Nat.reduceSub, Nat.reduceMod, encL, MC0, MC1, MC2, hk', hin]
        refine callX_of (named_ret _) (.inr rfl) ?_
        cases hb : namedB (opersL x.val)[k] <;> rw [hb] at hnx <;> simp only [VC0, VC1, VC2, VC3, VC4, VC5, VC6, VC7, reduceIte, reduceCtorEq, Nat.reduceEqDiff, Nat.reduceAdd, Nat.reduceMul, Nat.reduceBEq, Nat.reduceLT, Nat.reduceLeDiff, Int.reduceEq, Int.reduceLT, Int.reduceLE, Int.reduceNeg, Int.reduceToNat, Int.reduceAdd, Nat.reduceDiv, Nat.reduceSub, Nat.reduceMod, encL, MC0, MC1, MC2, hk', hin, hb, hcap]
        · refine And.intro (by unfold InI64; omega) (backTo_of (k + 1, A, _) ⟨hk', by rw [hnx]; simp⟩ (by simp only []; omega) (ent_of _ [] rfl rfl (by simp only [VC0, VC1, VC2, VC3, VC4, VC5, VC6, VC7, reduceIte, reduceCtorEq, Nat.reduceEqDiff, Nat.reduceAdd, Nat.reduceMul, Nat.reduceBEq, Nat.reduceLT, Nat.reduceLeDiff, Int.reduceEq, Int.reduceLT, Int.reduceLE, Int.reduceNeg, Int.reduceToNat, Int.reduceAdd, Nat.reduceDiv, Nat.reduceSub, Nat.reduceMod, encL, MC0, MC1, MC2])))
        · refine And.intro (by unfold InI64; omega) (backTo_of (k + 1, A ++ [(opersL x.val)[k].path.loc], _) ⟨hk', by rw [hnx]; simp⟩ (by simp only []; omega) (ent_of _ [] rfl rfl (by simp only [VC0, VC1, VC2, VC3, VC4, VC5, VC6, VC7, reduceIte, reduceCtorEq, Nat.reduceEqDiff, Nat.reduceAdd, Nat.reduceMul, Nat.reduceBEq, Nat.reduceLT, Nat.reduceLeDiff, Int.reduceEq, Int.reduceLT, Int.reduceLE, Int.reduceNeg, Int.reduceToNat, Int.reduceAdd, Nat.reduceDiv, Nat.reduceSub, Nat.reduceMod, encL, MC0, MC1, MC2])))
      · have hk' : k = (opersL x.val).length := by omega
        subst hk'
        rw [List.take_length] at hA
        simp only [VC0, VC1, VC2, VC3, VC4, VC5, VC6, VC7, reduceIte, reduceCtorEq, Nat.reduceEqDiff, Nat.reduceAdd, Nat.reduceMul, Nat.reduceBEq, Nat.reduceLT, Nat.reduceLeDiff, Int.reduceEq, Int.reduceLT, Int.reduceLE, Int.reduceNeg, Int.reduceToNat, Int.reduceAdd, Nat.reduceDiv, Nat.reduceSub, Nat.reduceMod, encL, MC0, MC1, MC2]
        repeat' (first | refine condDn_of (fun h => ?_) (fun h => ?_) <;> simp only [VC0, VC1, VC2, VC3, VC4, VC5, VC6, VC7, reduceIte, reduceCtorEq, Nat.reduceEqDiff, Nat.reduceAdd, Nat.reduceMul, Nat.reduceBEq, Nat.reduceLT, Nat.reduceLeDiff, Int.reduceEq, Int.reduceLT, Int.reduceLE, Int.reduceNeg, Int.reduceToNat, Int.reduceAdd, Nat.reduceDiv, Nat.reduceSub, Nat.reduceMod, encL, MC0, MC1, MC2, h] | refine condD_of (fun h => ?_) (fun h => ?_) <;> simp only [VC0, VC1, VC2, VC3, VC4, VC5, VC6, VC7, reduceIte, reduceCtorEq, Nat.reduceEqDiff, Nat.reduceAdd, Nat.reduceMul, Nat.reduceBEq, Nat.reduceLT, Nat.reduceLeDiff, Int.reduceEq, Int.reduceLT, Int.reduceLE, Int.reduceNeg, Int.reduceToNat, Int.reduceAdd, Nat.reduceDiv, Nat.reduceSub, Nat.reduceMod, encL, MC0, MC1, MC2, h] | refine condVn_of (fun h => ?_) (fun h => ?_) <;> simp only [VC0, VC1, VC2, VC3, VC4, VC5, VC6, VC7, reduceIte, reduceCtorEq, Nat.reduceEqDiff, Nat.reduceAdd, Nat.reduceMul, Nat.reduceBEq, Nat.reduceLT, Nat.reduceLeDiff, Int.reduceEq, Int.reduceLT, Int.reduceLE, Int.reduceNeg, Int.reduceToNat, Int.reduceAdd, Nat.reduceDiv, Nat.reduceSub, Nat.reduceMod, encL, MC0, MC1, MC2, h] | refine condV_of (fun h => ?_) (fun h => ?_) <;> simp only [VC0, VC1, VC2, VC3, VC4, VC5, VC6, VC7, reduceIte, reduceCtorEq, Nat.reduceEqDiff, Nat.reduceAdd, Nat.reduceMul, Nat.reduceBEq, Nat.reduceLT, Nat.reduceLeDiff, Int.reduceEq, Int.reduceLT, Int.reduceLE, Int.reduceNeg, Int.reduceToNat, Int.reduceAdd, Nat.reduceDiv, Nat.reduceSub, Nat.reduceMod, encL, MC0, MC1, MC2, h] | refine gdDn_of (fun h => ?_) (fun h => ?_) <;> simp only [VC0, VC1, VC2, VC3, VC4, VC5, VC6, VC7, reduceIte, reduceCtorEq, Nat.reduceEqDiff, Nat.reduceAdd, Nat.reduceMul, Nat.reduceBEq, Nat.reduceLT, Nat.reduceLeDiff, Int.reduceEq, Int.reduceLT, Int.reduceLE, Int.reduceNeg, Int.reduceToNat, Int.reduceAdd, Nat.reduceDiv, Nat.reduceSub, Nat.reduceMod, encL, MC0, MC1, MC2, h] | refine gdD_of (fun h => ?_) (fun h => ?_) <;> simp only [VC0, VC1, VC2, VC3, VC4, VC5, VC6, VC7, reduceIte, reduceCtorEq, Nat.reduceEqDiff, Nat.reduceAdd, Nat.reduceMul, Nat.reduceBEq, Nat.reduceLT, Nat.reduceLeDiff, Int.reduceEq, Int.reduceLT, Int.reduceLE, Int.reduceNeg, Int.reduceToNat, Int.reduceAdd, Nat.reduceDiv, Nat.reduceSub, Nat.reduceMod, encL, MC0, MC1, MC2, h] | refine gdVMn_of (fun h => ?_) (fun h => ?_) <;> simp only [VC0, VC1, VC2, VC3, VC4, VC5, VC6, VC7, reduceIte, reduceCtorEq, Nat.reduceEqDiff, Nat.reduceAdd, Nat.reduceMul, Nat.reduceBEq, Nat.reduceLT, Nat.reduceLeDiff, Int.reduceEq, Int.reduceLT, Int.reduceLE, Int.reduceNeg, Int.reduceToNat, Int.reduceAdd, Nat.reduceDiv, Nat.reduceSub, Nat.reduceMod, encL, MC0, MC1, MC2, h] | refine gdVM_of (fun h => ?_) (fun h => ?_) <;> simp only [VC0, VC1, VC2, VC3, VC4, VC5, VC6, VC7, reduceIte, reduceCtorEq, Nat.reduceEqDiff, Nat.reduceAdd, Nat.reduceMul, Nat.reduceBEq, Nat.reduceLT, Nat.reduceLeDiff, Int.reduceEq, Int.reduceLT, Int.reduceLE, Int.reduceNeg, Int.reduceToNat, Int.reduceAdd, Nat.reduceDiv, Nat.reduceSub, Nat.reduceMod, encL, MC0, MC1, MC2, h] | refine gpDn_of (fun h => ?_) (fun h => ?_) <;> simp only [VC0, VC1, VC2, VC3, VC4, VC5, VC6, VC7, reduceIte, reduceCtorEq, Nat.reduceEqDiff, Nat.reduceAdd, Nat.reduceMul, Nat.reduceBEq, Nat.reduceLT, Nat.reduceLeDiff, Int.reduceEq, Int.reduceLT, Int.reduceLE, Int.reduceNeg, Int.reduceToNat, Int.reduceAdd, Nat.reduceDiv, Nat.reduceSub, Nat.reduceMod, encL, MC0, MC1, MC2, h] | refine gpD_of (fun h => ?_) (fun h => ?_) <;> simp only [VC0, VC1, VC2, VC3, VC4, VC5, VC6, VC7, reduceIte, reduceCtorEq, Nat.reduceEqDiff, Nat.reduceAdd, Nat.reduceMul, Nat.reduceBEq, Nat.reduceLT, Nat.reduceLeDiff, Int.reduceEq, Int.reduceLT, Int.reduceLE, Int.reduceNeg, Int.reduceToNat, Int.reduceAdd, Nat.reduceDiv, Nat.reduceSub, Nat.reduceMod, encL, MC0, MC1, MC2, h] | refine gdVn_of (fun h => ?_) (fun h => ?_) <;> simp only [VC0, VC1, VC2, VC3, VC4, VC5, VC6, VC7, reduceIte, reduceCtorEq, Nat.reduceEqDiff, Nat.reduceAdd, Nat.reduceMul, Nat.reduceBEq, Nat.reduceLT, Nat.reduceLeDiff, Int.reduceEq, Int.reduceLT, Int.reduceLE, Int.reduceNeg, Int.reduceToNat, Int.reduceAdd, Nat.reduceDiv, Nat.reduceSub, Nat.reduceMod, encL, MC0, MC1, MC2, h] | refine gdV_of (fun h => ?_) (fun h => ?_) <;> simp only [VC0, VC1, VC2, VC3, VC4, VC5, VC6, VC7, reduceIte, reduceCtorEq, Nat.reduceEqDiff, Nat.reduceAdd, Nat.reduceMul, Nat.reduceBEq, Nat.reduceLT, Nat.reduceLeDiff, Int.reduceEq, Int.reduceLT, Int.reduceLE, Int.reduceNeg, Int.reduceToNat, Int.reduceAdd, Nat.reduceDiv, Nat.reduceSub, Nat.reduceMod, encL, MC0, MC1, MC2, h] | (unfold InI64; omega) | refine And.intro ?_ ?_)
        all_goals first
          | omega
          | exact joinTo_of ((A ++ [x.val.path.loc]) ++ [x.to.loc], _) (by simp only [hA]; exact (refL_tt h1 (by omega) ⟨by assumption, by omega⟩).symm) (ent_of _ [] rfl rfl (by simp only [VC0, VC1, VC2, VC3, VC4, VC5, VC6, VC7, reduceIte, reduceCtorEq, Nat.reduceEqDiff, Nat.reduceAdd, Nat.reduceMul, Nat.reduceBEq, Nat.reduceLT, Nat.reduceLeDiff, Int.reduceEq, Int.reduceLT, Int.reduceLE, Int.reduceNeg, Int.reduceToNat, Int.reduceAdd, Nat.reduceDiv, Nat.reduceSub, Nat.reduceMod, encL, MC0, MC1, MC2]; done))
          | exact joinTo_of (A ++ [x.val.path.loc], _) (by simp only [hA]; exact (refL_tf h1 (by omega) (fun e => by first | omega | (have e1 := e.1; simp_all; done))).symm) (ent_of _ [] rfl rfl (by simp only [VC0, VC1, VC2, VC3, VC4, VC5, VC6, VC7, reduceIte, reduceCtorEq, Nat.reduceEqDiff, Nat.reduceAdd, Nat.reduceMul, Nat.reduceBEq, Nat.reduceLT, Nat.reduceLeDiff, Int.reduceEq, Int.reduceLT, Int.reduceLE, Int.reduceNeg, Int.reduceToNat, Int.reduceAdd, Nat.reduceDiv, Nat.reduceSub, Nat.reduceMod, encL, MC0, MC1, MC2]; done))
          | exact joinTo_of (A ++ [x.to.loc], _) (by simp only [hA]; exact (refL_ft h1 (by omega) ⟨by assumption, by omega⟩).symm) (ent_of _ [] rfl rfl (by simp only [VC0, VC1, VC2, VC3, VC4, VC5, VC6, VC7, reduceIte, reduceCtorEq, Nat.reduceEqDiff, Nat.reduceAdd, Nat.reduceMul, Nat.reduceBEq, Nat.reduceLT, Nat.reduceLeDiff, Int.reduceEq, Int.reduceLT, Int.reduceLE, Int.reduceNeg, Int.reduceToNat, Int.reduceAdd, Nat.reduceDiv, Nat.reduceSub, Nat.reduceMod, encL, MC0, MC1, MC2]; done))
          | exact joinTo_of (A, _) (by simp only [hA]; exact (refL_ff h1 (by omega) (fun e => by first | omega | (have e1 := e.1; simp_all; done))).symm) (ent_of _ [] rfl rfl (by simp only [VC0, VC1, VC2, VC3, VC4, VC5, VC6, VC7, reduceIte, reduceCtorEq, Nat.reduceEqDiff, Nat.reduceAdd, Nat.reduceMul, Nat.reduceBEq, Nat.reduceLT, Nat.reduceLeDiff, Int.reduceEq, Int.reduceLT, Int.reduceLE, Int.reduceNeg, Int.reduceToNat, Int.reduceAdd, Nat.reduceDiv, Nat.reduceSub, Nat.reduceMod, encL, MC0, MC1, MC2]; done))
    · refine joinTo_of ([x.to.loc], _) (by simp [refL, *]) (ent_of _ [] rfl rfl (by simp only [VC0, VC1, VC2, VC3, VC4, VC5, VC6, VC7, reduceIte, reduceCtorEq, Nat.reduceEqDiff, Nat.reduceAdd, Nat.reduceMul, Nat.reduceBEq, Nat.reduceLT, Nat.reduceLeDiff, Int.reduceEq, Int.reduceLT, Int.reduceLE, Int.reduceNeg, Int.reduceToNat, Int.reduceAdd, Nat.reduceDiv, Nat.reduceSub, Nat.reduceMod, encL, MC0, MC1, MC2]; simp [cI, imV]))
    · refine callX_of (named_ret _) (.inr rfl) ?_
      simp only [VC0, VC1, VC2, VC3, VC4, VC5, VC6, VC7, reduceIte, reduceCtorEq, Nat.reduceEqDiff, Nat.reduceAdd, Nat.reduceMul, Nat.reduceBEq, Nat.reduceLT, Nat.reduceLeDiff, Int.reduceEq, Int.reduceLT, Int.reduceLE, Int.reduceNeg, Int.reduceToNat, Int.reduceAdd, Nat.reduceDiv, Nat.reduceSub, Nat.reduceMod, encL, MC0, MC1, MC2]
      repeat' (first | refine condDn_of (fun h => ?_) (fun h => ?_) <;> simp only [VC0, VC1, VC2, VC3, VC4, VC5, VC6, VC7, reduceIte, reduceCtorEq, Nat.reduceEqDiff, Nat.reduceAdd, Nat.reduceMul, Nat.reduceBEq, Nat.reduceLT, Nat.reduceLeDiff, Int.reduceEq, Int.reduceLT, Int.reduceLE, Int.reduceNeg, Int.reduceToNat, Int.reduceAdd, Nat.reduceDiv, Nat.reduceSub, Nat.reduceMod, encL, MC0, MC1, MC2, h] | refine condD_of (fun h => ?_) (fun h => ?_) <;> simp only [VC0, VC1, VC2, VC3, VC4, VC5, VC6, VC7, reduceIte, reduceCtorEq, Nat.reduceEqDiff, Nat.reduceAdd, Nat.reduceMul, Nat.reduceBEq, Nat.reduceLT, Nat.reduceLeDiff, Int.reduceEq, Int.reduceLT, Int.reduceLE, Int.reduceNeg, Int.reduceToNat, Int.reduceAdd, Nat.reduceDiv, Nat.reduceSub, Nat.reduceMod, encL, MC0, MC1, MC2, h] | refine condVn_of (fun h => ?_) (fun h => ?_) <;> simp only [VC0, VC1, VC2, VC3, VC4, VC5, VC6, VC7, reduceIte, reduceCtorEq, Nat.reduceEqDiff, Nat.reduceAdd, Nat.reduceMul, Nat.reduceBEq, Nat.reduceLT, Nat.reduceLeDiff, Int.reduceEq, Int.reduceLT, Int.reduceLE, Int.reduceNeg, Int.reduceToNat, Int.reduceAdd, Nat.reduceDiv, Nat.reduceSub, Nat.reduceMod, encL, MC0, MC1, MC2, h] | refine condV_of (fun h => ?_) (fun h => ?_) <;> simp only [VC0, VC1, VC2, VC3, VC4, VC5, VC6, VC7, reduceIte, reduceCtorEq, Nat.reduceEqDiff, Nat.reduceAdd, Nat.reduceMul, Nat.reduceBEq, Nat.reduceLT, Nat.reduceLeDiff, Int.reduceEq, Int.reduceLT, Int.reduceLE, Int.reduceNeg, Int.reduceToNat, Int.reduceAdd, Nat.reduceDiv, Nat.reduceSub, Nat.reduceMod, encL, MC0, MC1, MC2, h] | refine gdDn_of (fun h => ?_) (fun h => ?_) <;> simp only [VC0, VC1, VC2, VC3, VC4, VC5, VC6, VC7, reduceIte, reduceCtorEq, Nat.reduceEqDiff, Nat.reduceAdd, Nat.reduceMul, Nat.reduceBEq, Nat.reduceLT, Nat.reduceLeDiff, Int.reduceEq, Int.reduceLT, Int.reduceLE, Int.reduceNeg, Int.reduceToNat, Int.reduceAdd, Nat.reduceDiv, Nat.reduceSub, Nat.reduceMod, encL, MC0, MC1, MC2, h] | refine gdD_of (fun h => ?_) (fun h => ?_) <;> simp only [VC0, VC1, VC2, VC3, VC4, VC5, VC6, VC7, reduceIte, reduceCtorEq, Nat.reduceEqDiff, Nat.reduceAdd, Nat.reduceMul, Nat.reduceBEq, Nat.reduceLT, Nat.reduceLeDiff, Int.reduceEq, Int.reduceLT, Int.reduceLE, Int.reduceNeg, Int.reduceToNat, Int.reduceAdd, Nat.reduceDiv, Nat.reduceSub, Nat.reduceMod, encL, MC0, MC1, MC2, h] | refine gdVMn_of (fun h => ?_) (fun h => ?_) <;> simp only [VC0, VC1, VC2, VC3, VC4, VC5, VC6, VC7, reduceIte, reduceCtorEq, Nat.reduceEqDiff, Nat.reduceAdd, Nat.reduceMul, Nat.reduceBEq, Nat.reduceLT, Nat.reduceLeDiff, Int.reduceEq, Int.reduceLT, Int.reduceLE, Int.reduceNeg, Int.reduceToNat, Int.reduceAdd, Nat.reduceDiv, Nat.reduceSub, Nat.reduceMod, encL, MC0, MC1, MC2, h] | refine gdVM_of (fun h => ?_) (fun h => ?_) <;> simp only [VC0, VC1, VC2, VC3, VC4, VC5, VC6, VC7, reduceIte, reduceCtorEq, Nat.reduceEqDiff, Nat.reduceAdd, Nat.reduceMul, Nat.reduceBEq, Nat.reduceLT, Nat.reduceLeDiff, Int.reduceEq, Int.reduceLT, Int.reduceLE, Int.reduceNeg, Int.reduceToNat, Int.reduceAdd, Nat.reduceDiv, Nat.reduceSub, Nat.reduceMod, encL, MC0, MC1, MC2, h] | refine gpDn_of (fun h => ?_) (fun h => ?_) <;> simp only [VC0, VC1, VC2, VC3, VC4, VC5, VC6, VC7, reduceIte, reduceCtorEq, Nat.reduceEqDiff, Nat.reduceAdd, Nat.reduceMul, Nat.reduceBEq, Nat.reduceLT, Nat.reduceLeDiff, Int.reduceEq, Int.reduceLT, Int.reduceLE, Int.reduceNeg, Int.reduceToNat, Int.reduceAdd, Nat.reduceDiv, Nat.reduceSub, Nat.reduceMod, encL, MC0, MC1, MC2, h] | refine gpD_of (fun h => ?_) (fun h => ?_) <;> simp only [VC0, VC1, VC2, VC3, VC4, VC5, VC6, VC7, reduceIte, reduceCtorEq, Nat.reduceEqDiff, Nat.reduceAdd, Nat.reduceMul, Nat.reduceBEq, Nat.reduceLT, Nat.reduceLeDiff, Int.reduceEq, Int.reduceLT, Int.reduceLE, Int.reduceNeg, Int.reduceToNat, Int.reduceAdd, Nat.reduceDiv, Nat.reduceSub, Nat.reduceMod, encL, MC0, MC1, MC2, h] | refine gdVn_of (fun h => ?_) (fun h => ?_) <;> simp only [VC0, VC1, VC2, VC3, VC4, VC5, VC6, VC7, reduceIte, reduceCtorEq, Nat.reduceEqDiff, Nat.reduceAdd, Nat.reduceMul, Nat.reduceBEq, Nat.reduceLT, Nat.reduceLeDiff, Int.reduceEq, Int.reduceLT, Int.reduceLE, Int.reduceNeg, Int.reduceToNat, Int.reduceAdd, Nat.reduceDiv, Nat.reduceSub, Nat.reduceMod, encL, MC0, MC1, MC2, h] | refine gdV_of (fun h => ?_) (fun h => ?_) <;> simp only [VC0, VC1, VC2, VC3, VC4, VC5, VC6, VC7, reduceIte, reduceCtorEq, Nat.reduceEqDiff, Nat.reduceAdd, Nat.reduceMul, Nat.reduceBEq, Nat.reduceLT, Nat.reduceLeDiff, Int.reduceEq, Int.reduceLT, Int.reduceLE, Int.reduceNeg, Int.reduceToNat, Int.reduceAdd, Nat.reduceDiv, Nat.reduceSub, Nat.reduceMod, encL, MC0, MC1, MC2, h] | (unfold InI64; omega) | refine And.intro ?_ ?_)
      · exact joinTo_of ([x.val.a.path.loc], _) (by simp [refL, operL_named, *]) (ent_of _ [] rfl rfl (by simp only [VC0, VC1, VC2, VC3, VC4, VC5, VC6, VC7, reduceIte, reduceCtorEq, Nat.reduceEqDiff, Nat.reduceAdd, Nat.reduceMul, Nat.reduceBEq, Nat.reduceLT, Nat.reduceLeDiff, Int.reduceEq, Int.reduceLT, Int.reduceLE, Int.reduceNeg, Int.reduceToNat, Int.reduceAdd, Nat.reduceDiv, Nat.reduceSub, Nat.reduceMod, encL, MC0, MC1, MC2]; simp [cI, imV]))
      · exact joinTo_of ([], _) (by simp [refL, operL_named, *]) (ent_of _ [] rfl rfl (by simp only [VC0, VC1, VC2, VC3, VC4, VC5, VC6, VC7, reduceIte, reduceCtorEq, Nat.reduceEqDiff, Nat.reduceAdd, Nat.reduceMul, Nat.reduceBEq, Nat.reduceLT, Nat.reduceLeDiff, Int.reduceEq, Int.reduceLT, Int.reduceLE, Int.reduceNeg, Int.reduceToNat, Int.reduceAdd, Nat.reduceDiv, Nat.reduceSub, Nat.reduceMod, encL, MC0, MC1, MC2, List.flatMap_nil]))
    · exact joinTo_of ([], _) (by simp [refL, *]) (ent_of _ [] rfl rfl (by simp only [VC0, VC1, VC2, VC3, VC4, VC5, VC6, VC7, reduceIte, reduceCtorEq, Nat.reduceEqDiff, Nat.reduceAdd, Nat.reduceMul, Nat.reduceBEq, Nat.reduceLT, Nat.reduceLeDiff, Int.reduceEq, Int.reduceLT, Int.reduceLE, Int.reduceNeg, Int.reduceToNat, Int.reduceAdd, Nat.reduceDiv, Nat.reduceSub, Nat.reduceMod, encL, MC0, MC1, MC2, List.flatMap_nil]))
  · rintro ⟨l, c⟩ hl
    have hl : l = refL x (opersL x.val) := hl
    have hlen : l.length ≤ 1004 := by rw [hl]; omega
    simp only [VC0, VC1, VC2, VC3, VC4, VC5, VC6, VC7, reduceIte, reduceCtorEq, Nat.reduceEqDiff, Nat.reduceAdd, Nat.reduceMul, Nat.reduceBEq, Nat.reduceLT, Nat.reduceLeDiff, Int.reduceEq, Int.reduceLT, Int.reduceLE, Int.reduceNeg, Int.reduceToNat, Int.reduceAdd, Nat.reduceDiv, Nat.reduceSub, Nat.reduceMod, encL, MC0, MC1, MC2]
    refine loop_vcg (ι := Nat × List Int × (Nat → Nat)) (fun (k, O, c) => stO [(3, .own 1 l.length (l.flatMap cI)), (6, .own 1 O.length (O.flatMap cI)), (7, .val (.int .i64 k))] c)
      (fun (k, O, _) => k ≤ l.length ∧ O.length ≤ k ∧ O.Pairwise (· < ·) ∧ ∀ v, v ∈ O ↔ v ∈ l.take k) (fun (k, _, _) => l.length - k) (0, [], _) ⟨Nat.zero_le _, Nat.le_refl _, .nil, by simp⟩ (ent_of _ [] rfl rfl (by simp only [VC0, VC1, VC2, VC3, VC4, VC5, VC6, VC7, reduceIte, reduceCtorEq, Nat.reduceEqDiff, Nat.reduceAdd, Nat.reduceMul, Nat.reduceBEq, Nat.reduceLT, Nat.reduceLeDiff, Int.reduceEq, Int.reduceLT, Int.reduceLE, Int.reduceNeg, Int.reduceToNat, Int.reduceAdd, Nat.reduceDiv, Nat.reduceSub, Nat.reduceMod, encL, MC0, MC1, MC2, List.flatMap_nil])) ?_
    rintro ⟨k, O, c⟩ ⟨hk, hOk, hOr, hOm⟩
    simp only [VC0, VC1, VC2, VC3, VC4, VC5, VC6, VC7, reduceIte, reduceCtorEq, Nat.reduceEqDiff, Nat.reduceAdd, Nat.reduceMul, Nat.reduceBEq, Nat.reduceLT, Nat.reduceLeDiff, Int.reduceEq, Int.reduceLT, Int.reduceLE, Int.reduceNeg, Int.reduceToNat, Int.reduceAdd, Nat.reduceDiv, Nat.reduceSub, Nat.reduceMod, encL, MC0, MC1, MC2]
    refine condD_of (fun h => ?_) (fun h => ?_)
    · have hk' : k < l.length := by omega
      have hkin : 0 ≤ (k : Int) ∧ (k : Int) < l.length := by omega
      simp only [VC0, VC1, VC2, VC3, VC4, VC5, VC6, VC7, reduceIte, reduceCtorEq, Nat.reduceEqDiff, Nat.reduceAdd, Nat.reduceMul, Nat.reduceBEq, Nat.reduceLT, Nat.reduceLeDiff, Int.reduceEq, Int.reduceLT, Int.reduceLE, Int.reduceNeg, Int.reduceToNat, Int.reduceAdd, Nat.reduceDiv, Nat.reduceSub, Nat.reduceMod, encL, MC0, MC1, MC2, hk', hkin]
      refine loop_vcg (ι := Nat × (Nat → Nat)) (fun (j, c) => stO [(3, .own 1 l.length (l.flatMap cI)), (6, .own 1 O.length (O.flatMap cI)), (7, .val (.int .i64 k)), (8, .val (.int .i64 j))] c)
        (fun (j, _) => j ≤ O.length ∧ ∀ (i : Nat) (h : i < O.length), i < j → O[i] < l[k]) (fun (j, _) => O.length - j) (0, _) ⟨Nat.zero_le _, fun i _ h => by omega⟩ (ent_of _ [] rfl rfl (by simp only [VC0, VC1, VC2, VC3, VC4, VC5, VC6, VC7, reduceIte, reduceCtorEq, Nat.reduceEqDiff, Nat.reduceAdd, Nat.reduceMul, Nat.reduceBEq, Nat.reduceLT, Nat.reduceLeDiff, Int.reduceEq, Int.reduceLT, Int.reduceLE, Int.reduceNeg, Int.reduceToNat, Int.reduceAdd, Nat.reduceDiv, Nat.reduceSub, Nat.reduceMod, encL, MC0, MC1, MC2])) ?_
      rintro ⟨j, c⟩ ⟨hj, hlo⟩
      simp only [VC0, VC1, VC2, VC3, VC4, VC5, VC6, VC7, reduceIte, reduceCtorEq, Nat.reduceEqDiff, Nat.reduceAdd, Nat.reduceMul, Nat.reduceBEq, Nat.reduceLT, Nat.reduceLeDiff, Int.reduceEq, Int.reduceLT, Int.reduceLE, Int.reduceNeg, Int.reduceToNat, Int.reduceAdd, Nat.reduceDiv, Nat.reduceSub, Nat.reduceMod, encL, MC0, MC1, MC2]
      have hOl : O.length ≤ 1004 := by omega
      have htk : l.take (k + 1) = l.take k ++ [l[k]] := List.take_succ_eq_append_getElem hk'
      have hput : (∀ h : j < O.length, l[k] < O[j]) → (putAt O j l[k]).Pairwise (· < ·) ∧ ∀ v, v ∈ putAt O j l[k] ↔ v ∈ l.take (k + 1) := fun hh => ⟨putAt_rise hOr hlo hh, fun v => by rw [mem_putAt, htk, List.mem_append, List.mem_singleton, hOm, or_comm]⟩
      have hpl := putAt_len (x := l[k]) hj
      have htkl : (O.take j).length = j := List.length_take_of_le hj
      have hdrl : (O.drop j).length = O.length - j := List.length_drop ..
      have hj0 : 0 ≤ (j : Int) := by omega
      have hjd : j + (O.length - j) ≤ O.length := by omega
      have hpL : (putAt O j l[k]).length = j + (1 + (O.length - j)) := by rw [hpl]; omega
      have hpC : (putAt O j l[k]).flatMap cI = (O.take j ++ [l[k]]).flatMap cI ++ (O.drop j).flatMap cI := by
        rw [← List.flatMap_append, putAt, List.append_assoc]; rfl
      by_cases hjn : j < O.length
      · have hjin : 0 ≤ (j : Int) ∧ (j : Int) < O.length := by omega
        have hjne : ¬ (j : Int) = O.length := by omega
        have hjle : (j : Int) ≤ O.length := by omega
        by_cases hlt : O[j] < l[k]
        · simp only [VC0, VC1, VC2, VC3, VC4, VC5, VC6, VC7, reduceIte, reduceCtorEq, Nat.reduceEqDiff, Nat.reduceAdd, Nat.reduceMul, Nat.reduceBEq, Nat.reduceLT, Nat.reduceLeDiff, Int.reduceEq, Int.reduceLT, Int.reduceLE, Int.reduceNeg, Int.reduceToNat, Int.reduceAdd, Nat.reduceDiv, Nat.reduceSub, Nat.reduceMod, encL, MC0, MC1, MC2, hk', hkin, hjn, hjin, hlt]
          refine And.intro (by unfold InI64; omega) (backTo_of (j + 1, _) ⟨hjn, fun i h hi => ?_⟩ (by simp only []; omega) (ent_of _ [] rfl rfl (by simp only [VC0, VC1, VC2, VC3, VC4, VC5, VC6, VC7, reduceIte, reduceCtorEq, Nat.reduceEqDiff, Nat.reduceAdd, Nat.reduceMul, Nat.reduceBEq, Nat.reduceLT, Nat.reduceLeDiff, Int.reduceEq, Int.reduceLT, Int.reduceLE, Int.reduceNeg, Int.reduceToNat, Int.reduceAdd, Nat.reduceDiv, Nat.reduceSub, Nat.reduceMod, encL, MC0, MC1, MC2])))
          by_cases e : i = j
          · subst e; exact hlt
          · exact hlo i h (by omega)
        · by_cases heq : O[j] = l[k]
          · simp only [VC0, VC1, VC2, VC3, VC4, VC5, VC6, VC7, reduceIte, reduceCtorEq, Nat.reduceEqDiff, Nat.reduceAdd, Nat.reduceMul, Nat.reduceBEq, Nat.reduceLT, Nat.reduceLeDiff, Int.reduceEq, Int.reduceLT, Int.reduceLE, Int.reduceNeg, Int.reduceToNat, Int.reduceAdd, Nat.reduceDiv, Nat.reduceSub, Nat.reduceMod, encL, MC0, MC1, MC2, hk', hkin, hjn, hjin, hlt, hjne, heq, Int.lt_irrefl]
            refine And.intro (by unfold InI64; omega) (backTo_of (k + 1, O, _) ⟨hk', by simp only []; omega, hOr, fun v => ?_⟩ (by simp only []; omega) (ent_of _ [] rfl rfl (by simp only [VC0, VC1, VC2, VC3, VC4, VC5, VC6, VC7, reduceIte, reduceCtorEq, Nat.reduceEqDiff, Nat.reduceAdd, Nat.reduceMul, Nat.reduceBEq, Nat.reduceLT, Nat.reduceLeDiff, Int.reduceEq, Int.reduceLT, Int.reduceLE, Int.reduceNeg, Int.reduceToNat, Int.reduceAdd, Nat.reduceDiv, Nat.reduceSub, Nat.reduceMod, encL, MC0, MC1, MC2])))
            simp only [htk, List.mem_append, List.mem_singleton, hOm]
            constructor
            · exact .inl
            · rintro (h | h)
              · exact h
              · rw [h, ← heq]; exact (hOm _).1 (List.getElem_mem hjn)
          · simp only [VC0, VC1, VC2, VC3, VC4, VC5, VC6, VC7, reduceIte, reduceCtorEq, Nat.reduceEqDiff, Nat.reduceAdd, Nat.reduceMul, Nat.reduceBEq, Nat.reduceLT, Nat.reduceLeDiff, Int.reduceEq, Int.reduceLT, Int.reduceLE, Int.reduceNeg, Int.reduceToNat, Int.reduceAdd, Nat.reduceDiv, Nat.reduceSub, Nat.reduceMod, encL, MC0, MC1, MC2, hk', hkin, hjn, hjin, hlt, hjne, heq, hjle, hj, hj0, hjd, li_tk, li_dr, li_len, htkl, hdrl]
            refine And.intro (And.intro (by omega) (by omega)) (And.intro (And.intro (by omega) (by omega)) (And.intro (And.intro (by omega) (by omega)) (And.intro (by unfold InI64; omega) (backTo_of (k + 1, putAt O j l[k], _) ⟨hk', ?_, (hput fun _ => by omega).1, (hput fun _ => by omega).2⟩ (by simp only []; omega) (ent_of _ [] rfl rfl (by simp only [VC0, VC1, VC2, VC3, VC4, VC5, VC6, VC7, reduceIte, reduceCtorEq, Nat.reduceEqDiff, Nat.reduceAdd, Nat.reduceMul, Nat.reduceBEq, Nat.reduceLT, Nat.reduceLeDiff, Int.reduceEq, Int.reduceLT, Int.reduceLE, Int.reduceNeg, Int.reduceToNat, Int.reduceAdd, Nat.reduceDiv, Nat.reduceSub, Nat.reduceMod, encL, MC0, MC1, MC2, hpL, hpC]; rw [← List.flatMap_append]; exact li_imv _ _))))))
            simp only [hpl]; omega
      · have hje : j = O.length := by omega
        have hjz : decide ((j : Int) = O.length) = true := by simp [hje]
        have hjz2 : decide ((j : Int) < O.length) = false := by simp [hje]
        have hjle : (j : Int) ≤ O.length := by omega
        simp only [VC0, VC1, VC2, VC3, VC4, VC5, VC6, VC7, reduceIte, reduceCtorEq, Nat.reduceEqDiff, Nat.reduceAdd, Nat.reduceMul, Nat.reduceBEq, Nat.reduceLT, Nat.reduceLeDiff, Int.reduceEq, Int.reduceLT, Int.reduceLE, Int.reduceNeg, Int.reduceToNat, Int.reduceAdd, Nat.reduceDiv, Nat.reduceSub, Nat.reduceMod, encL, MC0, MC1, MC2, hk', hkin, hjz, hjz2, hj, hjle, hj0, hjd, li_tk, li_dr, li_len, htkl, hdrl]
        refine And.intro (And.intro (by omega) (by omega)) (And.intro (And.intro (by omega) (by omega)) (And.intro (And.intro (by omega) (by omega)) (And.intro (by unfold InI64; omega) (backTo_of (k + 1, putAt O j l[k], _) ⟨hk', ?_, (hput fun _ => by omega).1, (hput fun _ => by omega).2⟩ (by simp only []; omega) (ent_of _ [] rfl rfl (by simp only [VC0, VC1, VC2, VC3, VC4, VC5, VC6, VC7, reduceIte, reduceCtorEq, Nat.reduceEqDiff, Nat.reduceAdd, Nat.reduceMul, Nat.reduceBEq, Nat.reduceLT, Nat.reduceLeDiff, Int.reduceEq, Int.reduceLT, Int.reduceLE, Int.reduceNeg, Int.reduceToNat, Int.reduceAdd, Nat.reduceDiv, Nat.reduceSub, Nat.reduceMod, encL, MC0, MC1, MC2, hpL, hpC]; rw [← List.flatMap_append]; exact li_imv _ _))))))
        simp only [hpl]; omega
    · have hk' : k = l.length := by omega
      subst hk'
      rw [List.take_length] at hOm
      simp only [VC0, VC1, VC2, VC3, VC4, VC5, VC6, VC7, reduceIte, reduceCtorEq, Nat.reduceEqDiff, Nat.reduceAdd, Nat.reduceMul, Nat.reduceBEq, Nat.reduceLT, Nat.reduceLeDiff, Int.reduceEq, Int.reduceLT, Int.reduceLE, Int.reduceNeg, Int.reduceToNat, Int.reduceAdd, Nat.reduceDiv, Nat.reduceSub, Nat.reduceMod, encL, MC0, MC1, MC2]
      have hO : O = usesL x := rise_eq hOr (usesL_rise x) fun v => by rw [hOm, hl, mem_refL, mem_usesL]
      rw [← hO]
      exact ⟨rfl, rfl⟩

end Go.Proofs.Ytobhpkagbmadlaa

set_option linter.unusedSimpArgs false
set_option linter.unusedVariables false
namespace Go.Proofs.Ytobhpkagbmadlaa
open Go Go.Lg Go.RowKit
set_option maxRecDepth 20000

theorem sets18_ret (x : MInst) : PRet Try.prog 37 [.agg x.cells] (.tup [.int .i64 (setsL x).1, .bool (setsL x).2]) := by
  refine pret_intro fd37 (by simp) ?_
  simp only [lc37, VC0, VC1, VC2, VC3, VC4, VC5, VC6, VC7, reduceIte, reduceCtorEq, Nat.reduceEqDiff, Nat.reduceAdd, Nat.reduceMul, Nat.reduceBEq, Nat.reduceLT, Nat.reduceLeDiff, Int.reduceEq, Int.reduceLT, Int.reduceLE, Int.reduceNeg, Int.reduceToNat, Int.reduceAdd, Nat.reduceDiv, Nat.reduceSub, Nat.reduceMod, encL, MC0, MC1, MC2]
  repeat' (first | refine condDn_of (fun h => ?_) (fun h => ?_) <;> simp only [VC0, VC1, VC2, VC3, VC4, VC5, VC6, VC7, reduceIte, reduceCtorEq, Nat.reduceEqDiff, Nat.reduceAdd, Nat.reduceMul, Nat.reduceBEq, Nat.reduceLT, Nat.reduceLeDiff, Int.reduceEq, Int.reduceLT, Int.reduceLE, Int.reduceNeg, Int.reduceToNat, Int.reduceAdd, Nat.reduceDiv, Nat.reduceSub, Nat.reduceMod, encL, MC0, MC1, MC2, h] | refine condD_of (fun h => ?_) (fun h => ?_) <;> simp only [VC0, VC1, VC2, VC3, VC4, VC5, VC6, VC7, reduceIte, reduceCtorEq, Nat.reduceEqDiff, Nat.reduceAdd, Nat.reduceMul, Nat.reduceBEq, Nat.reduceLT, Nat.reduceLeDiff, Int.reduceEq, Int.reduceLT, Int.reduceLE, Int.reduceNeg, Int.reduceToNat, Int.reduceAdd, Nat.reduceDiv, Nat.reduceSub, Nat.reduceMod, encL, MC0, MC1, MC2, h] | refine condVn_of (fun h => ?_) (fun h => ?_) <;> simp only [VC0, VC1, VC2, VC3, VC4, VC5, VC6, VC7, reduceIte, reduceCtorEq, Nat.reduceEqDiff, Nat.reduceAdd, Nat.reduceMul, Nat.reduceBEq, Nat.reduceLT, Nat.reduceLeDiff, Int.reduceEq, Int.reduceLT, Int.reduceLE, Int.reduceNeg, Int.reduceToNat, Int.reduceAdd, Nat.reduceDiv, Nat.reduceSub, Nat.reduceMod, encL, MC0, MC1, MC2, h] | refine condV_of (fun h => ?_) (fun h => ?_) <;> simp only [VC0, VC1, VC2, VC3, VC4, VC5, VC6, VC7, reduceIte, reduceCtorEq, Nat.reduceEqDiff, Nat.reduceAdd, Nat.reduceMul, Nat.reduceBEq, Nat.reduceLT, Nat.reduceLeDiff, Int.reduceEq, Int.reduceLT, Int.reduceLE, Int.reduceNeg, Int.reduceToNat, Int.reduceAdd, Nat.reduceDiv, Nat.reduceSub, Nat.reduceMod, encL, MC0, MC1, MC2, h] | refine gdDn_of (fun h => ?_) (fun h => ?_) <;> simp only [VC0, VC1, VC2, VC3, VC4, VC5, VC6, VC7, reduceIte, reduceCtorEq, Nat.reduceEqDiff, Nat.reduceAdd, Nat.reduceMul, Nat.reduceBEq, Nat.reduceLT, Nat.reduceLeDiff, Int.reduceEq, Int.reduceLT, Int.reduceLE, Int.reduceNeg, Int.reduceToNat, Int.reduceAdd, Nat.reduceDiv, Nat.reduceSub, Nat.reduceMod, encL, MC0, MC1, MC2, h] | refine gdD_of (fun h => ?_) (fun h => ?_) <;> simp only [VC0, VC1, VC2, VC3, VC4, VC5, VC6, VC7, reduceIte, reduceCtorEq, Nat.reduceEqDiff, Nat.reduceAdd, Nat.reduceMul, Nat.reduceBEq, Nat.reduceLT, Nat.reduceLeDiff, Int.reduceEq, Int.reduceLT, Int.reduceLE, Int.reduceNeg, Int.reduceToNat, Int.reduceAdd, Nat.reduceDiv, Nat.reduceSub, Nat.reduceMod, encL, MC0, MC1, MC2, h] | refine gdVMn_of (fun h => ?_) (fun h => ?_) <;> simp only [VC0, VC1, VC2, VC3, VC4, VC5, VC6, VC7, reduceIte, reduceCtorEq, Nat.reduceEqDiff, Nat.reduceAdd, Nat.reduceMul, Nat.reduceBEq, Nat.reduceLT, Nat.reduceLeDiff, Int.reduceEq, Int.reduceLT, Int.reduceLE, Int.reduceNeg, Int.reduceToNat, Int.reduceAdd, Nat.reduceDiv, Nat.reduceSub, Nat.reduceMod, encL, MC0, MC1, MC2, h] | refine gdVM_of (fun h => ?_) (fun h => ?_) <;> simp only [VC0, VC1, VC2, VC3, VC4, VC5, VC6, VC7, reduceIte, reduceCtorEq, Nat.reduceEqDiff, Nat.reduceAdd, Nat.reduceMul, Nat.reduceBEq, Nat.reduceLT, Nat.reduceLeDiff, Int.reduceEq, Int.reduceLT, Int.reduceLE, Int.reduceNeg, Int.reduceToNat, Int.reduceAdd, Nat.reduceDiv, Nat.reduceSub, Nat.reduceMod, encL, MC0, MC1, MC2, h] | refine gpDn_of (fun h => ?_) (fun h => ?_) <;> simp only [VC0, VC1, VC2, VC3, VC4, VC5, VC6, VC7, reduceIte, reduceCtorEq, Nat.reduceEqDiff, Nat.reduceAdd, Nat.reduceMul, Nat.reduceBEq, Nat.reduceLT, Nat.reduceLeDiff, Int.reduceEq, Int.reduceLT, Int.reduceLE, Int.reduceNeg, Int.reduceToNat, Int.reduceAdd, Nat.reduceDiv, Nat.reduceSub, Nat.reduceMod, encL, MC0, MC1, MC2, h] | refine gpD_of (fun h => ?_) (fun h => ?_) <;> simp only [VC0, VC1, VC2, VC3, VC4, VC5, VC6, VC7, reduceIte, reduceCtorEq, Nat.reduceEqDiff, Nat.reduceAdd, Nat.reduceMul, Nat.reduceBEq, Nat.reduceLT, Nat.reduceLeDiff, Int.reduceEq, Int.reduceLT, Int.reduceLE, Int.reduceNeg, Int.reduceToNat, Int.reduceAdd, Nat.reduceDiv, Nat.reduceSub, Nat.reduceMod, encL, MC0, MC1, MC2, h] | refine gdVn_of (fun h => ?_) (fun h => ?_) <;> simp only [VC0, VC1, VC2, VC3, VC4, VC5, VC6, VC7, reduceIte, reduceCtorEq, Nat.reduceEqDiff, Nat.reduceAdd, Nat.reduceMul, Nat.reduceBEq, Nat.reduceLT, Nat.reduceLeDiff, Int.reduceEq, Int.reduceLT, Int.reduceLE, Int.reduceNeg, Int.reduceToNat, Int.reduceAdd, Nat.reduceDiv, Nat.reduceSub, Nat.reduceMod, encL, MC0, MC1, MC2, h] | refine gdV_of (fun h => ?_) (fun h => ?_) <;> simp only [VC0, VC1, VC2, VC3, VC4, VC5, VC6, VC7, reduceIte, reduceCtorEq, Nat.reduceEqDiff, Nat.reduceAdd, Nat.reduceMul, Nat.reduceBEq, Nat.reduceLT, Nat.reduceLeDiff, Int.reduceEq, Int.reduceLT, Int.reduceLE, Int.reduceNeg, Int.reduceToNat, Int.reduceAdd, Nat.reduceDiv, Nat.reduceSub, Nat.reduceMod, encL, MC0, MC1, MC2, h] | (unfold InI64; omega) | refine And.intro ?_ ?_)
  all_goals simp [List.mapM_cons, rval, tupd, setsL, snap, *]
  all_goals first | omega | (rw [if_pos (by apply List.eq_nil_of_length_eq_zero; omega)]; simp) | (rw [if_neg (by rintro e; simp [e] at *)]; simp)

set_option maxHeartbeats 4000000 in
theorem live18_ret (m : Mir) (hgr : greatB m = false) (hmay : mayB m = true) : PRet Try.prog 39 [.agg m.cells] (encL (cL cB) (livTab m)) := by
  have hsm := small_of hgr
  have hsn := hsm.n
  have hsl := hsm.l
  have hg := okG_of hmay
  have hpos := hg.pos
  refine pret_intro_l fd39 (by simp) ?_
  simp only [lc39, VC0, VC1, VC2, VC3, VC4, VC5, VC6, VC7, reduceIte, reduceCtorEq, Nat.reduceEqDiff, Nat.reduceAdd, Nat.reduceMul, Nat.reduceBEq, Nat.reduceLT, Nat.reduceLeDiff, Int.reduceEq, Int.reduceLT, Int.reduceLE, Int.reduceNeg, Int.reduceToNat, Int.reduceAdd, Nat.reduceDiv, Nat.reduceSub, Nat.reduceMod, encL, MC0, MC1, MC2]
  refine And.intro (by omega) ?_
  refine loop_vcg (ι := Nat × List (List Bool) × (Nat → Nat)) (fun (i, R, c) => stO [(1, .box m.cells), (4, .val (.int .i64 i)), (3, .rows 1 (rsI cB R))] c)
    (fun (i, R, _) => i ≤ m.code.length ∧ R.length = m.code.length ∧ (∀ (j : Nat) (h : j < R.length), R[j].length = if j < i then m.locals.length else 0) ∧ LQ m i 0 (tget R)) (fun (i, _, _) => m.code.length - i)
    (0, List.replicate m.code.length [], _) ⟨Nat.zero_le _, by simp, fun j h => by simp, LQ.start m (fun j u => tget_nil j u)⟩ (ent_of _ [] rfl rfl (by
      simp only [VC0, VC1, VC2, VC3, VC4, VC5, VC6, VC7, reduceIte, reduceCtorEq, Nat.reduceEqDiff, Nat.reduceAdd, Nat.reduceMul, Nat.reduceBEq, Nat.reduceLT, Nat.reduceLeDiff, Int.reduceEq, Int.reduceLT, Int.reduceLE, Int.reduceNeg, Int.reduceToNat, Int.reduceAdd, Nat.reduceDiv, Nat.reduceSub, Nat.reduceMod, encL, MC0, MC1, MC2]
      refine rowsAt_mk rfl (by simp) (by decide) ?_
      simp only [VC0, VC1, VC2, VC3, VC4, VC5, VC6, VC7, reduceIte, reduceCtorEq, Nat.reduceEqDiff, Nat.reduceAdd, Nat.reduceMul, Nat.reduceBEq, Nat.reduceLT, Nat.reduceLeDiff, Int.reduceEq, Int.reduceLT, Int.reduceLE, Int.reduceNeg, Int.reduceToNat, Int.reduceAdd, Nat.reduceDiv, Nat.reduceSub, Nat.reduceMod, encL, MC0, MC1, MC2])) ?_
  · rintro ⟨i, R, c⟩ ⟨hi, hRl, hRr, B⟩
    simp only [VC0, VC1, VC2, VC3, VC4, VC5, VC6, VC7, reduceIte, reduceCtorEq, Nat.reduceEqDiff, Nat.reduceAdd, Nat.reduceMul, Nat.reduceBEq, Nat.reduceLT, Nat.reduceLeDiff, Int.reduceEq, Int.reduceLT, Int.reduceLE, Int.reduceNeg, Int.reduceToNat, Int.reduceAdd, Nat.reduceDiv, Nat.reduceSub, Nat.reduceMod, encL, MC0, MC1, MC2]
    have hrsl := rsI_len cB R
    simp only [rowV_len, hrsl, hRl]
    refine condD_of (fun h => ?_) (fun h => ?_)
    · have hi' : i < m.code.length := by omega
      have hin : 0 ≤ (i : Int) ∧ (i : Int) < m.code.length := by omega
      have hile : i + 1 ≤ m.code.length := hi'
      have hiR : i < R.length := by omega
      have hR0 : R[i] = [] := List.eq_nil_of_length_eq_zero (by rw [hRr i hiR, if_neg (by omega)])
      have hul := usesL_len m.code[i]
      have hua := hsm.a _ (List.getElem_mem hi')
      have hult : ∀ v ∈ usesL m.code[i], 0 ≤ v ∧ v < m.locals.length := fun v hv => uses_lt hmay (List.getElem_mem hi') hv
      simp only [VC0, VC1, VC2, VC3, VC4, VC5, VC6, VC7, reduceIte, reduceCtorEq, Nat.reduceEqDiff, Nat.reduceAdd, Nat.reduceMul, Nat.reduceBEq, Nat.reduceLT, Nat.reduceLeDiff, Int.reduceEq, Int.reduceLT, Int.reduceLE, Int.reduceNeg, Int.reduceToNat, Int.reduceAdd, Nat.reduceDiv, Nat.reduceSub, Nat.reduceMod, encL, MC0, MC1, MC2, hi', hin, rowV_len, hrsl, hRl, hile]
      refine And.intro (by omega) ?_
      refine callX_of (uses18_ret m.code[i] (by omega)) (.inl rfl) ?_
      generalize hU : usesL m.code[i] = U at hul hult
      simp only [VC0, VC1, VC2, VC3, VC4, VC5, VC6, VC7, reduceIte, reduceCtorEq, Nat.reduceEqDiff, Nat.reduceAdd, Nat.reduceMul, Nat.reduceBEq, Nat.reduceLT, Nat.reduceLeDiff, Int.reduceEq, Int.reduceLT, Int.reduceLE, Int.reduceNeg, Int.reduceToNat, Int.reduceAdd, Nat.reduceDiv, Nat.reduceSub, Nat.reduceMod, encL, MC0, MC1, MC2]
      refine loop_vcg (ι := Nat × List (List Bool) × (Nat → Nat)) (fun (k, R, c) => stO [(1, .box m.cells), (4, .val (.int .i64 i)), (5, .val (encL cI U)), (6, .val (.int .i64 k)), (3, .rows 1 (rsI cB R))] c)
        (fun (k, R', _) => k ≤ U.length ∧ R'.length = m.code.length ∧ (∀ (j : Nat) (h : j < R'.length), R'[j].length = if j < i + 1 then m.locals.length else 0) ∧ LQ m i k (tget R')) (fun (k, _, _) => U.length - k)
        (0, R.set i (List.replicate m.locals.length false), _) ⟨Nat.zero_le _, by simp [hRl], fun j h => ?_, B.congr fun j u => tget_new hiR hR0 j u⟩ (ent_of _ [] rfl rfl (by
          simp only [VC0, VC1, VC2, VC3, VC4, VC5, VC6, VC7, reduceIte, reduceCtorEq, Nat.reduceEqDiff, Nat.reduceAdd, Nat.reduceMul, Nat.reduceBEq, Nat.reduceLT, Nat.reduceLeDiff, Int.reduceEq, Int.reduceLT, Int.reduceLE, Int.reduceNeg, Int.reduceToNat, Int.reduceAdd, Nat.reduceDiv, Nat.reduceSub, Nat.reduceMod, encL, MC0, MC1, MC2, hrsl, hRl, lp_imv]
          refine rowsAt_new (f := cB) (d := 3) (esz := 1) (t := i) (g := 0) (k' := (20485, 0)) (R := R) (r := List.replicate m.locals.length false) hiR ?_ ?_ (fun j h hne => ?_) (by decide) (lb_imv 8) (by decide) hRl.symm (by simp) (fun j _ => by simp) (by simp) ?_
          · simp only [VC0, VC1, VC2, VC3, VC4, VC5, VC6, VC7, reduceIte, reduceCtorEq, Nat.reduceEqDiff, Nat.reduceAdd, Nat.reduceMul, Nat.reduceBEq, Nat.reduceLT, Nat.reduceLeDiff, Int.reduceEq, Int.reduceLT, Int.reduceLE, Int.reduceNeg, Int.reduceToNat, Int.reduceAdd, Nat.reduceDiv, Nat.reduceSub, Nat.reduceMod, encL, MC0, MC1, MC2]
            try simp
          · simp only [VC0, VC1, VC2, VC3, VC4, VC5, VC6, VC7, reduceIte, reduceCtorEq, Nat.reduceEqDiff, Nat.reduceAdd, Nat.reduceMul, Nat.reduceBEq, Nat.reduceLT, Nat.reduceLeDiff, Int.reduceEq, Int.reduceLT, Int.reduceLE, Int.reduceNeg, Int.reduceToNat, Int.reduceAdd, Nat.reduceDiv, Nat.reduceSub, Nat.reduceMod, encL, MC0, MC1, MC2]
            try simp
          · simp only [VC0, VC1, VC2, VC3, VC4, VC5, VC6, VC7, reduceIte, reduceCtorEq, Nat.reduceEqDiff, Nat.reduceAdd, Nat.reduceMul, Nat.reduceBEq, Nat.reduceLT, Nat.reduceLeDiff, Int.reduceEq, Int.reduceLT, Int.reduceLE, Int.reduceNeg, Int.reduceToNat, Int.reduceAdd, Nat.reduceDiv, Nat.reduceSub, Nat.reduceMod, encL, MC0, MC1, MC2, hne, rsI_get cB h]
            try simp
          · simp only [VC0, VC1, VC2, VC3, VC4, VC5, VC6, VC7, reduceIte, reduceCtorEq, Nat.reduceEqDiff, Nat.reduceAdd, Nat.reduceMul, Nat.reduceBEq, Nat.reduceLT, Nat.reduceLeDiff, Int.reduceEq, Int.reduceLT, Int.reduceLE, Int.reduceNeg, Int.reduceToNat, Int.reduceAdd, Nat.reduceDiv, Nat.reduceSub, Nat.reduceMod, encL, MC0, MC1, MC2])) ?_
      · simp only [List.getElem_set]
        split
        · rename_i e; subst e; rw [if_pos (by omega)]; simp
        · rw [hRr j (by simpa using h)]
          by_cases e : j < i
          · rw [if_pos e, if_pos (by omega)]
          · rw [if_neg e, if_neg (by omega)]
      · rintro ⟨k, R', c⟩ ⟨hk, hRl', hRr', B'⟩
        simp only [VC0, VC1, VC2, VC3, VC4, VC5, VC6, VC7, reduceIte, reduceCtorEq, Nat.reduceEqDiff, Nat.reduceAdd, Nat.reduceMul, Nat.reduceBEq, Nat.reduceLT, Nat.reduceLeDiff, Int.reduceEq, Int.reduceLT, Int.reduceLE, Int.reduceNeg, Int.reduceToNat, Int.reduceAdd, Nat.reduceDiv, Nat.reduceSub, Nat.reduceMod, encL, MC0, MC1, MC2]
        refine condD_of (fun h => ?_) (fun h => ?_)
        · have hk' : k < U.length := by omega
          have hkin : 0 ≤ (k : Int) ∧ (k : Int) < U.length := by omega
          obtain ⟨v, hv⟩ : ∃ v : Nat, U[k] = (v : Int) := ⟨U[k].toNat, by have := hult _ (List.getElem_mem hk'); omega⟩
          have hvL : v < m.locals.length := by have := hult _ (List.getElem_mem hk'); omega
          have hvin : 0 ≤ (v : Int) ∧ (v : Int) < m.locals.length := by omega
          have hiR' : i < R'.length := by omega
          have hget := rsI_get cB hiR'
          have hiR2 : i < (rsI cB R').length := by rw [rsI_len]; exact hiR'
          have hrsl' := rsI_len cB R'
          have hrow : R'[i].length = m.locals.length := by rw [hRr' i hiR', if_pos (by omega)]
          have hvR : v < R'[i].length := by omega
          have hvle : v + 1 ≤ m.locals.length := hvL
          simp only [VC0, VC1, VC2, VC3, VC4, VC5, VC6, VC7, reduceIte, reduceCtorEq, Nat.reduceEqDiff, Nat.reduceAdd, Nat.reduceMul, Nat.reduceBEq, Nat.reduceLT, Nat.reduceLeDiff, Int.reduceEq, Int.reduceLT, Int.reduceLE, Int.reduceNeg, Int.reduceToNat, Int.reduceAdd, Nat.reduceDiv, Nat.reduceSub, Nat.reduceMod, encL, MC0, MC1, MC2, hk', hkin, hv, hin, hrsl', hRl', rowV_ld hiR2, rowV_len, hget, rsI_at, hrow, hvin, hvle, lb_set hvR]
          refine And.intro (by unfold InI64; omega) (backTo_of (k + 1, R'.set i (R'[i].set v true), _) ⟨hk', by simp [hRl'], fun j h => ?_, B'.put hi' (by rw [hU]; exact hk') (by simp only [hU]; exact hv) (fun j u => tget_set hiR' hvR j u)⟩ (by simp only []; omega) (ent_of _ [] rfl rfl (by
            simp only [VC0, VC1, VC2, VC3, VC4, VC5, VC6, VC7, reduceIte, reduceCtorEq, Nat.reduceEqDiff, Nat.reduceAdd, Nat.reduceMul, Nat.reduceBEq, Nat.reduceLT, Nat.reduceLeDiff, Int.reduceEq, Int.reduceLT, Int.reduceLE, Int.reduceNeg, Int.reduceToNat, Int.reduceAdd, Nat.reduceDiv, Nat.reduceSub, Nat.reduceMod, encL, MC0, MC1, MC2, hrsl', hRl', lp_imv]
            refine rowsAt_upd (f := cB) (d := 3) (esz := 1) (t := i) (R := R') (r := R'[i].set v true) hiR' (by simp) rfl ?_ (fun j h hne => ?_) (lb_imv 8) (by decide) hRl'.symm (by simp) (fun j _ => by simp) ?_
            · simp only [VC0, VC1, VC2, VC3, VC4, VC5, VC6, VC7, reduceIte, reduceCtorEq, Nat.reduceEqDiff, Nat.reduceAdd, Nat.reduceMul, Nat.reduceBEq, Nat.reduceLT, Nat.reduceLeDiff, Int.reduceEq, Int.reduceLT, Int.reduceLE, Int.reduceNeg, Int.reduceToNat, Int.reduceAdd, Nat.reduceDiv, Nat.reduceSub, Nat.reduceMod, encL, MC0, MC1, MC2]
              try simp
            · simp only [VC0, VC1, VC2, VC3, VC4, VC5, VC6, VC7, reduceIte, reduceCtorEq, Nat.reduceEqDiff, Nat.reduceAdd, Nat.reduceMul, Nat.reduceBEq, Nat.reduceLT, Nat.reduceLeDiff, Int.reduceEq, Int.reduceLT, Int.reduceLE, Int.reduceNeg, Int.reduceToNat, Int.reduceAdd, Nat.reduceDiv, Nat.reduceSub, Nat.reduceMod, encL, MC0, MC1, MC2, hne, rsI_get cB h]
              try simp [hne]
            · simp only [VC0, VC1, VC2, VC3, VC4, VC5, VC6, VC7, reduceIte, reduceCtorEq, Nat.reduceEqDiff, Nat.reduceAdd, Nat.reduceMul, Nat.reduceBEq, Nat.reduceLT, Nat.reduceLeDiff, Int.reduceEq, Int.reduceLT, Int.reduceLE, Int.reduceNeg, Int.reduceToNat, Int.reduceAdd, Nat.reduceDiv, Nat.reduceSub, Nat.reduceMod, encL, MC0, MC1, MC2])))
          simp only [List.getElem_set]
          split
          · rename_i e; subst e; rw [List.length_set, hrow, if_pos (by omega)]
          · exact hRr' j (by simpa using h)
        · have hk' : k = U.length := by omega
          subst hk'
          simp only [VC0, VC1, VC2, VC3, VC4, VC5, VC6, VC7, reduceIte, reduceCtorEq, Nat.reduceEqDiff, Nat.reduceAdd, Nat.reduceMul, Nat.reduceBEq, Nat.reduceLT, Nat.reduceLeDiff, Int.reduceEq, Int.reduceLT, Int.reduceLE, Int.reduceNeg, Int.reduceToNat, Int.reduceAdd, Nat.reduceDiv, Nat.reduceSub, Nat.reduceMod, encL, MC0, MC1, MC2]
          refine And.intro (by unfold InI64; omega) (backTo_of (i + 1, R', _) ⟨hi', hRl', hRr', B'.next hi' (by rw [hU]; exact Nat.le_refl _)⟩ (by simp only []; omega) (ent_of _ [] rfl rfl (by
            simp only [VC0, VC1, VC2, VC3, VC4, VC5, VC6, VC7, reduceIte, reduceCtorEq, Nat.reduceEqDiff, Nat.reduceAdd, Nat.reduceMul, Nat.reduceBEq, Nat.reduceLT, Nat.reduceLeDiff, Int.reduceEq, Int.reduceLT, Int.reduceLE, Int.reduceNeg, Int.reduceToNat, Int.reduceAdd, Nat.reduceDiv, Nat.reduceSub, Nat.reduceMod, encL, MC0, MC1, MC2, rsI_len, hRl', lp_imv]
            refine rowsAt_same (f := cB) (d := 3) (esz := 1) (R := R') rfl (fun j h => ?_) (lb_imv 8) (by decide) hRl'.symm (by simp) (fun j _ => by simp) ?_
            · simp only [VC0, VC1, VC2, VC3, VC4, VC5, VC6, VC7, reduceIte, reduceCtorEq, Nat.reduceEqDiff, Nat.reduceAdd, Nat.reduceMul, Nat.reduceBEq, Nat.reduceLT, Nat.reduceLeDiff, Int.reduceEq, Int.reduceLT, Int.reduceLE, Int.reduceNeg, Int.reduceToNat, Int.reduceAdd, Nat.reduceDiv, Nat.reduceSub, Nat.reduceMod, encL, MC0, MC1, MC2, rsI_get cB h]
            · simp only [VC0, VC1, VC2, VC3, VC4, VC5, VC6, VC7, reduceIte, reduceCtorEq, Nat.reduceEqDiff, Nat.reduceAdd, Nat.reduceMul, Nat.reduceBEq, Nat.reduceLT, Nat.reduceLeDiff, Int.reduceEq, Int.reduceLT, Int.reduceLE, Int.reduceNeg, Int.reduceToNat, Int.reduceAdd, Nat.reduceDiv, Nat.reduceSub, Nat.reduceMod, encL, MC0, MC1, MC2])))
    · have hi' : i = m.code.length := by omega
      subst hi'
      have B1 := B.fin (Nat.le_refl _)
      have hRr1 : ∀ (j : Nat) (h : j < R.length), R[j].length = m.locals.length := fun j h => by rw [hRr j h, if_pos (by omega)]
      clear hRr B
      simp only [VC0, VC1, VC2, VC3, VC4, VC5, VC6, VC7, reduceIte, reduceCtorEq, Nat.reduceEqDiff, Nat.reduceAdd, Nat.reduceMul, Nat.reduceBEq, Nat.reduceLT, Nat.reduceLeDiff, Int.reduceEq, Int.reduceLT, Int.reduceLE, Int.reduceNeg, Int.reduceToNat, Int.reduceAdd, Nat.reduceDiv, Nat.reduceSub, Nat.reduceMod, encL, MC0, MC1, MC2]
      refine loop_vcg (ι := List (List Bool) × Bool × (Nat → Nat)) (fun (R, ag, c) => stO [(1, .box m.cells), (7, .val (.bool ag)), (3, .rows 1 (rsI cB R))] c)
        (fun (R, ag, _) => R.length = m.code.length ∧ (∀ (j : Nat) (h : j < R.length), R[j].length = m.locals.length) ∧ LP m (tget R) ∧ (ag = false → ∀ i v, v < m.locals.length → okAt m (tget R) i v)) (fun (R, ag, _) => 2 * fl R + ag.toNat)
        (R, true, _) ⟨hRl, hRr1, B1, fun h => by cases h⟩ (ent_of _ [] rfl rfl (by
          simp only [VC0, VC1, VC2, VC3, VC4, VC5, VC6, VC7, reduceIte, reduceCtorEq, Nat.reduceEqDiff, Nat.reduceAdd, Nat.reduceMul, Nat.reduceBEq, Nat.reduceLT, Nat.reduceLeDiff, Int.reduceEq, Int.reduceLT, Int.reduceLE, Int.reduceNeg, Int.reduceToNat, Int.reduceAdd, Nat.reduceDiv, Nat.reduceSub, Nat.reduceMod, encL, MC0, MC1, MC2, rsI_len, hRl, lp_imv]
          refine rowsAt_same (f := cB) (d := 3) (esz := 1) (R := R) rfl (fun j h => ?_) (lb_imv 8) (by decide) hRl.symm (by simp) (fun j _ => by simp) ?_
          · simp only [VC0, VC1, VC2, VC3, VC4, VC5, VC6, VC7, reduceIte, reduceCtorEq, Nat.reduceEqDiff, Nat.reduceAdd, Nat.reduceMul, Nat.reduceBEq, Nat.reduceLT, Nat.reduceLeDiff, Int.reduceEq, Int.reduceLT, Int.reduceLE, Int.reduceNeg, Int.reduceToNat, Int.reduceAdd, Nat.reduceDiv, Nat.reduceSub, Nat.reduceMod, encL, MC0, MC1, MC2, rsI_get cB h]
          · simp only [VC0, VC1, VC2, VC3, VC4, VC5, VC6, VC7, reduceIte, reduceCtorEq, Nat.reduceEqDiff, Nat.reduceAdd, Nat.reduceMul, Nat.reduceBEq, Nat.reduceLT, Nat.reduceLeDiff, Int.reduceEq, Int.reduceLT, Int.reduceLE, Int.reduceNeg, Int.reduceToNat, Int.reduceAdd, Nat.reduceDiv, Nat.reduceSub, Nat.reduceMod, encL, MC0, MC1, MC2])) ?_
      clear hRl hRr1 B1 h hi hrsl
      rintro ⟨R, ag, c⟩ ⟨hRl, hRr, B, hok⟩
      cases ag with
      | false =>
        have hs : ∀ (H : Heap) (r : List Bool), (r.flatMap cB).map (snap H 6) = r.flatMap cB := fun H r => lb_snap H 5 r
        have hfin : R = livTab m := by
          apply List.ext_getElem
          · simp [livTab, hRl]
          intro j h1 h2
          apply List.ext_getElem
          · rw [hRr j h1]; simp [livTab]
          intro u h3 h4
          rw [tget_at h1 h3]
          rw [Bool.eq_iff_iff, B.fin (v := u) (fun i _ => hok rfl i u (by rw [hRr j h1] at h3; exact h3)) j, livTab_at]
        simp only [VC0, VC1, VC2, VC3, VC4, VC5, VC6, VC7, reduceIte, reduceCtorEq, Nat.reduceEqDiff, Nat.reduceAdd, Nat.reduceMul, Nat.reduceBEq, Nat.reduceLT, Nat.reduceLeDiff, Int.reduceEq, Int.reduceLT, Int.reduceLE, Int.reduceNeg, Int.reduceToNat, Int.reduceAdd, Nat.reduceDiv, Nat.reduceSub, Nat.reduceMod, encL, MC0, MC1, MC2, rowV_len, rsI_len, hRl]
        rw [List.take_of_length_le (by rw [rowV_len, rsI_len, hRl]; exact Nat.le_refl _), rowV_snap (f := cB) (fun j h => ?_) cB_len (fun r => hs _ r)]
        · rw [← hfin, hRl]
          try simp [slOf]
        · simp only [VC0, VC1, VC2, VC3, VC4, VC5, VC6, VC7, reduceIte, reduceCtorEq, Nat.reduceEqDiff, Nat.reduceAdd, Nat.reduceMul, Nat.reduceBEq, Nat.reduceLT, Nat.reduceLeDiff, Int.reduceEq, Int.reduceLT, Int.reduceLE, Int.reduceNeg, Int.reduceToNat, Int.reduceAdd, Nat.reduceDiv, Nat.reduceSub, Nat.reduceMod, encL, MC0, MC1, MC2, rsI_get cB h]
      | true =>
        simp only [VC0, VC1, VC2, VC3, VC4, VC5, VC6, VC7, reduceIte, reduceCtorEq, Nat.reduceEqDiff, Nat.reduceAdd, Nat.reduceMul, Nat.reduceBEq, Nat.reduceLT, Nat.reduceLeDiff, Int.reduceEq, Int.reduceLT, Int.reduceLE, Int.reduceNeg, Int.reduceToNat, Int.reduceAdd, Nat.reduceDiv, Nat.reduceSub, Nat.reduceMod, encL, MC0, MC1, MC2]
        refine And.intro (by unfold InI64; omega) ?_
        refine loop_vcg (ι := Nat × List (List Bool) × Bool × (Nat → Nat)) (fun (i, R, ag, c) => stO [(1, .box m.cells), (7, .val (.bool ag)), (8, .val (.int .i64 ((i : Int) - 1))), (3, .rows 1 (rsI cB R))] c)
          (fun (i, R', ag, _) => i ≤ m.code.length ∧ LZ m R R' ag (fun j _ _ => i ≤ j)) (fun (i, _, _, _) => i)
          (m.code.length, R, false, _) ⟨Nat.le_refl _, LZ.start hRl hRr B fun _ _ _ h => h⟩ (ent_of _ [] rfl rfl (by
              simp only [VC0, VC1, VC2, VC3, VC4, VC5, VC6, VC7, reduceIte, reduceCtorEq, Nat.reduceEqDiff, Nat.reduceAdd, Nat.reduceMul, Nat.reduceBEq, Nat.reduceLT, Nat.reduceLeDiff, Int.reduceEq, Int.reduceLT, Int.reduceLE, Int.reduceNeg, Int.reduceToNat, Int.reduceAdd, Nat.reduceDiv, Nat.reduceSub, Nat.reduceMod, encL, MC0, MC1, MC2, rsI_len, hRl, lp_imv]
              refine rowsAt_same (f := cB) (d := 3) (esz := 1) (R := R) rfl (fun j h => ?_) (lb_imv 8) (by decide) hRl.symm (by simp) (fun j _ => by simp) ?_
              · simp only [VC0, VC1, VC2, VC3, VC4, VC5, VC6, VC7, reduceIte, reduceCtorEq, Nat.reduceEqDiff, Nat.reduceAdd, Nat.reduceMul, Nat.reduceBEq, Nat.reduceLT, Nat.reduceLeDiff, Int.reduceEq, Int.reduceLT, Int.reduceLE, Int.reduceNeg, Int.reduceToNat, Int.reduceAdd, Nat.reduceDiv, Nat.reduceSub, Nat.reduceMod, encL, MC0, MC1, MC2, rsI_get cB h]
              · simp only [VC0, VC1, VC2, VC3, VC4, VC5, VC6, VC7, reduceIte, reduceCtorEq, Nat.reduceEqDiff, Nat.reduceAdd, Nat.reduceMul, Nat.reduceBEq, Nat.reduceLT, Nat.reduceLeDiff, Int.reduceEq, Int.reduceLT, Int.reduceLE, Int.reduceNeg, Int.reduceToNat, Int.reduceAdd, Nat.reduceDiv, Nat.reduceSub, Nat.reduceMod, encL, MC0, MC1, MC2])) ?_
        rintro ⟨i, R1, ag1, c1⟩ ⟨hi, Z⟩
        have hRl1 := Z.n
        simp only [VC0, VC1, VC2, VC3, VC4, VC5, VC6, VC7, reduceIte, reduceCtorEq, Nat.reduceEqDiff, Nat.reduceAdd, Nat.reduceMul, Nat.reduceBEq, Nat.reduceLT, Nat.reduceLeDiff, Int.reduceEq, Int.reduceLT, Int.reduceLE, Int.reduceNeg, Int.reduceToNat, Int.reduceAdd, Nat.reduceDiv, Nat.reduceSub, Nat.reduceMod, encL, MC0, MC1, MC2]
        refine condD_of (fun h => ?_) (fun h => ?_)
        · obtain ⟨i, rfl⟩ : ∃ j, i = j + 1 := ⟨i - 1, by omega⟩
          have hi' : i < m.code.length := by omega
          have hin : 0 ≤ (i : Int) ∧ (i : Int) < m.code.length := by omega
          have e1 : ((i + 1 : Nat) : Int) - 1 = (i : Int) := by omega
          obtain ⟨hnl, hnb⟩ := hg.nx _ (List.getElem_mem hi')
          have hsc := sc_at hi'
          simp only [e1, VC0, VC1, VC2, VC3, VC4, VC5, VC6, VC7, reduceIte, reduceCtorEq, Nat.reduceEqDiff, Nat.reduceAdd, Nat.reduceMul, Nat.reduceBEq, Nat.reduceLT, Nat.reduceLeDiff, Int.reduceEq, Int.reduceLT, Int.reduceLE, Int.reduceNeg, Int.reduceToNat, Int.reduceAdd, Nat.reduceDiv, Nat.reduceSub, Nat.reduceMod, encL, MC0, MC1, MC2, hi', hin]
          refine callX_of (sets18_ret m.code[i]) (.inr rfl) ?_
          generalize hS : setsL m.code[i] = s at hsc
          obtain ⟨sv, sb⟩ := s
          simp only [VC0, VC1, VC2, VC3, VC4, VC5, VC6, VC7, reduceIte, reduceCtorEq, Nat.reduceEqDiff, Nat.reduceAdd, Nat.reduceMul, Nat.reduceBEq, Nat.reduceLT, Nat.reduceLeDiff, Int.reduceEq, Int.reduceLT, Int.reduceLE, Int.reduceNeg, Int.reduceToNat, Int.reduceAdd, Nat.reduceDiv, Nat.reduceSub, Nat.reduceMod, encL, MC0, MC1, MC2, List.getElem?_cons_zero, List.getElem?_cons_succ]
          refine loop_vcg (ι := Nat × List (List Bool) × Bool × (Nat → Nat)) (fun (k, R, ag, c) => stO [(1, .box m.cells), (7, .val (.bool ag)), (8, .val (.int .i64 i)), (9, .val (.int .i64 sv)), (10, .val (.bool sb)), (11, .val (.int .i64 k)), (3, .rows 1 (rsI cB R))] c)
            (fun (k, R', ag, _) => k ≤ m.code[i].next.length ∧ LZ m R R' ag (fun j a _ => i + 1 ≤ j ∨ (j = i ∧ a < k))) (fun (k, _, _, _) => m.code[i].next.length - k)
            (0, R1, ag1, _) ⟨Nat.zero_le _, Z.imp fun j a v h _ _ _ => by omega⟩ (ent_of _ [] rfl rfl (by
                simp only [VC0, VC1, VC2, VC3, VC4, VC5, VC6, VC7, reduceIte, reduceCtorEq, Nat.reduceEqDiff, Nat.reduceAdd, Nat.reduceMul, Nat.reduceBEq, Nat.reduceLT, Nat.reduceLeDiff, Int.reduceEq, Int.reduceLT, Int.reduceLE, Int.reduceNeg, Int.reduceToNat, Int.reduceAdd, Nat.reduceDiv, Nat.reduceSub, Nat.reduceMod, encL, MC0, MC1, MC2, rsI_len, hRl1, lp_imv]
                refine rowsAt_same (f := cB) (d := 3) (esz := 1) (R := R1) rfl (fun j h => ?_) (lb_imv 8) (by decide) hRl1.symm (by simp) (fun j _ => by simp) ?_
                · simp only [VC0, VC1, VC2, VC3, VC4, VC5, VC6, VC7, reduceIte, reduceCtorEq, Nat.reduceEqDiff, Nat.reduceAdd, Nat.reduceMul, Nat.reduceBEq, Nat.reduceLT, Nat.reduceLeDiff, Int.reduceEq, Int.reduceLT, Int.reduceLE, Int.reduceNeg, Int.reduceToNat, Int.reduceAdd, Nat.reduceDiv, Nat.reduceSub, Nat.reduceMod, encL, MC0, MC1, MC2, rsI_get cB h]
                · simp only [VC0, VC1, VC2, VC3, VC4, VC5, VC6, VC7, reduceIte, reduceCtorEq, Nat.reduceEqDiff, Nat.reduceAdd, Nat.reduceMul, Nat.reduceBEq, Nat.reduceLT, Nat.reduceLeDiff, Int.reduceEq, Int.reduceLT, Int.reduceLE, Int.reduceNeg, Int.reduceToNat, Int.reduceAdd, Nat.reduceDiv, Nat.reduceSub, Nat.reduceMod, encL, MC0, MC1, MC2])) ?_
          clear Z hRl1
          rintro ⟨k, R2, ag2, c2⟩ ⟨hk, Z⟩
          have hRl2 := Z.n
          simp only [VC0, VC1, VC2, VC3, VC4, VC5, VC6, VC7, reduceIte, reduceCtorEq, Nat.reduceEqDiff, Nat.reduceAdd, Nat.reduceMul, Nat.reduceBEq, Nat.reduceLT, Nat.reduceLeDiff, Int.reduceEq, Int.reduceLT, Int.reduceLE, Int.reduceNeg, Int.reduceToNat, Int.reduceAdd, Nat.reduceDiv, Nat.reduceSub, Nat.reduceMod, encL, MC0, MC1, MC2, hi', hin]
          refine condD_of (fun h => ?_) (fun h => ?_)
          · have hk' : k < m.code[i].next.length := by omega
            have hkin : 0 ≤ (k : Int) ∧ (k : Int) < m.code[i].next.length := by omega
            obtain ⟨y, hy⟩ : ∃ y : Nat, m.code[i].next[k] = (y : Int) := ⟨(m.code[i].next[k]).toNat, by have := hnb _ (List.getElem_mem hk'); omega⟩
            have hyN : y < m.code.length := by have := hnb _ (List.getElem_mem hk'); omega
            have hyin : 0 ≤ (y : Int) ∧ (y : Int) < m.code.length := by omega
            have hyT : (m.code[i].next[k]).toNat = y := by omega
            simp only [VC0, VC1, VC2, VC3, VC4, VC5, VC6, VC7, reduceIte, reduceCtorEq, Nat.reduceEqDiff, Nat.reduceAdd, Nat.reduceMul, Nat.reduceBEq, Nat.reduceLT, Nat.reduceLeDiff, Int.reduceEq, Int.reduceLT, Int.reduceLE, Int.reduceNeg, Int.reduceToNat, Int.reduceAdd, Nat.reduceDiv, Nat.reduceSub, Nat.reduceMod, encL, MC0, MC1, MC2, hi', hin]
            refine loop_vcg (ι := Nat × List (List Bool) × Bool × (Nat → Nat)) (fun (v, R, ag, c) => stO [(1, .box m.cells), (7, .val (.bool ag)), (8, .val (.int .i64 i)), (9, .val (.int .i64 sv)), (10, .val (.bool sb)), (11, .val (.int .i64 k)), (12, .val (.int .i64 v)), (3, .rows 1 (rsI cB R))] c)
              (fun (v, R', ag, _) => v ≤ m.locals.length ∧ LZ m R R' ag (fun j a u => i + 1 ≤ j ∨ (j = i ∧ (a < k ∨ (a = k ∧ u < v))))) (fun (v, _, _, _) => m.locals.length - v)
              (0, R2, ag2, _) ⟨Nat.zero_le _, Z.imp fun j a v h _ _ _ => by omega⟩ (ent_of _ [] rfl rfl (by
                  simp only [VC0, VC1, VC2, VC3, VC4, VC5, VC6, VC7, reduceIte, reduceCtorEq, Nat.reduceEqDiff, Nat.reduceAdd, Nat.reduceMul, Nat.reduceBEq, Nat.reduceLT, Nat.reduceLeDiff, Int.reduceEq, Int.reduceLT, Int.reduceLE, Int.reduceNeg, Int.reduceToNat, Int.reduceAdd, Nat.reduceDiv, Nat.reduceSub, Nat.reduceMod, encL, MC0, MC1, MC2, rsI_len, hRl2, lp_imv]
                  refine rowsAt_same (f := cB) (d := 3) (esz := 1) (R := R2) rfl (fun j h => ?_) (lb_imv 8) (by decide) hRl2.symm (by simp) (fun j _ => by simp) ?_
                  · simp only [VC0, VC1, VC2, VC3, VC4, VC5, VC6, VC7, reduceIte, reduceCtorEq, Nat.reduceEqDiff, Nat.reduceAdd, Nat.reduceMul, Nat.reduceBEq, Nat.reduceLT, Nat.reduceLeDiff, Int.reduceEq, Int.reduceLT, Int.reduceLE, Int.reduceNeg, Int.reduceToNat, Int.reduceAdd, Nat.reduceDiv, Nat.reduceSub, Nat.reduceMod, encL, MC0, MC1, MC2, rsI_get cB h]
                  · simp only [VC0, VC1, VC2, VC3, VC4, VC5, VC6, VC7, reduceIte, reduceCtorEq, Nat.reduceEqDiff, Nat.reduceAdd, Nat.reduceMul, Nat.reduceBEq, Nat.reduceLT, Nat.reduceLeDiff, Int.reduceEq, Int.reduceLT, Int.reduceLE, Int.reduceNeg, Int.reduceToNat, Int.reduceAdd, Nat.reduceDiv, Nat.reduceSub, Nat.reduceMod, encL, MC0, MC1, MC2])) ?_
            clear Z hRl2
            rintro ⟨v, R3, ag3, c3⟩ ⟨hv, Z⟩
            have hRl3 := Z.n
            simp only [VC0, VC1, VC2, VC3, VC4, VC5, VC6, VC7, reduceIte, reduceCtorEq, Nat.reduceEqDiff, Nat.reduceAdd, Nat.reduceMul, Nat.reduceBEq, Nat.reduceLT, Nat.reduceLeDiff, Int.reduceEq, Int.reduceLT, Int.reduceLE, Int.reduceNeg, Int.reduceToNat, Int.reduceAdd, Nat.reduceDiv, Nat.reduceSub, Nat.reduceMod, encL, MC0, MC1, MC2]
            refine condD_of (fun h => ?_) (fun h => ?_)
            · have hvL : v < m.locals.length := by omega
              have hvin : 0 ≤ (v : Int) ∧ (v : Int) < m.locals.length := by omega
              have hvle : v + 1 ≤ m.locals.length := hvL
              have hiR : i < R3.length := by omega
              have hyR : y < R3.length := by omega
              have hiR2 : i < (rsI cB R3).length := by rw [rsI_len]; exact hiR
              have hyR2 : y < (rsI cB R3).length := by rw [rsI_len]; exact hyR
              have hgi := rsI_get cB hiR
              have hgy := rsI_get cB hyR
              have hrsl := rsI_len cB R3
              have hrowi := Z.r i hiR
              have hrowy := Z.r y hyR
              have hvi : v < R3[i].length := by omega
              have hvy : v < R3[y].length := by omega
              have hgty := tget_at hyR hvy
              have hgti := tget_at hiR hvi
              have hvI : InI64 ((v : Int) + 1) := by unfold InI64; omega
              simp only [VC0, VC1, VC2, VC3, VC4, VC5, VC6, VC7, reduceIte, reduceCtorEq, Nat.reduceEqDiff, Nat.reduceAdd, Nat.reduceMul, Nat.reduceBEq, Nat.reduceLT, Nat.reduceLeDiff, Int.reduceEq, Int.reduceLT, Int.reduceLE, Int.reduceNeg, Int.reduceToNat, Int.reduceAdd, Nat.reduceDiv, Nat.reduceSub, Nat.reduceMod, encL, MC0, MC1, MC2, hi', hin, hk', hkin, hy, hyin, rowV_ld hiR2, rowV_ld hyR2, rowV_len, hrsl, hRl3, hgi, hgy, rsI_at, hrowi, hrowy, hvin, hvle, hvi, hvy, ld_cB hvi, ld_cB hvy]
              cases b1 : R3[y][v] with
              | false =>
                simp only [VC0, VC1, VC2, VC3, VC4, VC5, VC6, VC7, reduceIte, reduceCtorEq, Nat.reduceEqDiff, Nat.reduceAdd, Nat.reduceMul, Nat.reduceBEq, Nat.reduceLT, Nat.reduceLeDiff, Int.reduceEq, Int.reduceLT, Int.reduceLE, Int.reduceNeg, Int.reduceToNat, Int.reduceAdd, Nat.reduceDiv, Nat.reduceSub, Nat.reduceMod, encL, MC0, MC1, MC2, hvI]
                have hok : ok3 m (tget R3) i k v := fun _ _ _ hT => by rw [hyT, ← hgty, b1] at hT; cases hT
                exact backTo_of (v + 1, R3, ag3, _) ⟨hvL, Z.skip hok fun j a u h => by omega⟩ (by simp only []; omega) (ent_of _ [] rfl rfl (by
                    simp only [VC0, VC1, VC2, VC3, VC4, VC5, VC6, VC7, reduceIte, reduceCtorEq, Nat.reduceEqDiff, Nat.reduceAdd, Nat.reduceMul, Nat.reduceBEq, Nat.reduceLT, Nat.reduceLeDiff, Int.reduceEq, Int.reduceLT, Int.reduceLE, Int.reduceNeg, Int.reduceToNat, Int.reduceAdd, Nat.reduceDiv, Nat.reduceSub, Nat.reduceMod, encL, MC0, MC1, MC2, rsI_len, hRl3, lp_imv]
                    refine rowsAt_same (f := cB) (d := 3) (esz := 1) (R := R3) rfl (fun j h => ?_) (lb_imv 8) (by decide) hRl3.symm (by simp) (fun j _ => by simp) ?_
                    · simp only [VC0, VC1, VC2, VC3, VC4, VC5, VC6, VC7, reduceIte, reduceCtorEq, Nat.reduceEqDiff, Nat.reduceAdd, Nat.reduceMul, Nat.reduceBEq, Nat.reduceLT, Nat.reduceLeDiff, Int.reduceEq, Int.reduceLT, Int.reduceLE, Int.reduceNeg, Int.reduceToNat, Int.reduceAdd, Nat.reduceDiv, Nat.reduceSub, Nat.reduceMod, encL, MC0, MC1, MC2, rsI_get cB h]
                    · simp only [VC0, VC1, VC2, VC3, VC4, VC5, VC6, VC7, reduceIte, reduceCtorEq, Nat.reduceEqDiff, Nat.reduceAdd, Nat.reduceMul, Nat.reduceBEq, Nat.reduceLT, Nat.reduceLeDiff, Int.reduceEq, Int.reduceLT, Int.reduceLE, Int.reduceNeg, Int.reduceToNat, Int.reduceAdd, Nat.reduceDiv, Nat.reduceSub, Nat.reduceMod, encL, MC0, MC1, MC2]))
              | true =>
                cases b2 : R3[i][v] with
                | true =>
                  simp only [VC0, VC1, VC2, VC3, VC4, VC5, VC6, VC7, reduceIte, reduceCtorEq, Nat.reduceEqDiff, Nat.reduceAdd, Nat.reduceMul, Nat.reduceBEq, Nat.reduceLT, Nat.reduceLeDiff, Int.reduceEq, Int.reduceLT, Int.reduceLE, Int.reduceNeg, Int.reduceToNat, Int.reduceAdd, Nat.reduceDiv, Nat.reduceSub, Nat.reduceMod, encL, MC0, MC1, MC2, hi', hin, hk', hkin, hy, hyin, rowV_ld hiR2, rowV_ld hyR2, rowV_len, hrsl, hRl3, hgi, hgy, rsI_at, hrowi, hrowy, hvin, hvle, hvi, hvy, ld_cB hvi, ld_cB hvy, b2, hvI]
                  have hok : ok3 m (tget R3) i k v := fun _ _ _ hT => .inl (by rw [← hgti, b2])
                  exact backTo_of (v + 1, R3, ag3, _) ⟨hvL, Z.skip hok fun j a u h => by omega⟩ (by simp only []; omega) (ent_of _ [] rfl rfl (by
                      simp only [VC0, VC1, VC2, VC3, VC4, VC5, VC6, VC7, reduceIte, reduceCtorEq, Nat.reduceEqDiff, Nat.reduceAdd, Nat.reduceMul, Nat.reduceBEq, Nat.reduceLT, Nat.reduceLeDiff, Int.reduceEq, Int.reduceLT, Int.reduceLE, Int.reduceNeg, Int.reduceToNat, Int.reduceAdd, Nat.reduceDiv, Nat.reduceSub, Nat.reduceMod, encL, MC0, MC1, MC2, rsI_len, hRl3, lp_imv]
                      refine rowsAt_same (f := cB) (d := 3) (esz := 1) (R := R3) rfl (fun j h => ?_) (lb_imv 8) (by decide) hRl3.symm (by simp) (fun j _ => by simp) ?_
                      · simp only [VC0, VC1, VC2, VC3, VC4, VC5, VC6, VC7, reduceIte, reduceCtorEq, Nat.reduceEqDiff, Nat.reduceAdd, Nat.reduceMul, Nat.reduceBEq, Nat.reduceLT, Nat.reduceLeDiff, Int.reduceEq, Int.reduceLT, Int.reduceLE, Int.reduceNeg, Int.reduceToNat, Int.reduceAdd, Nat.reduceDiv, Nat.reduceSub, Nat.reduceMod, encL, MC0, MC1, MC2, rsI_get cB h]
                      · simp only [VC0, VC1, VC2, VC3, VC4, VC5, VC6, VC7, reduceIte, reduceCtorEq, Nat.reduceEqDiff, Nat.reduceAdd, Nat.reduceMul, Nat.reduceBEq, Nat.reduceLT, Nat.reduceLeDiff, Int.reduceEq, Int.reduceLT, Int.reduceLE, Int.reduceNeg, Int.reduceToNat, Int.reduceAdd, Nat.reduceDiv, Nat.reduceSub, Nat.reduceMod, encL, MC0, MC1, MC2]))
                | false =>
                  simp only [VC0, VC1, VC2, VC3, VC4, VC5, VC6, VC7, reduceIte, reduceCtorEq, Nat.reduceEqDiff, Nat.reduceAdd, Nat.reduceMul, Nat.reduceBEq, Nat.reduceLT, Nat.reduceLeDiff, Int.reduceEq, Int.reduceLT, Int.reduceLE, Int.reduceNeg, Int.reduceToNat, Int.reduceAdd, Nat.reduceDiv, Nat.reduceSub, Nat.reduceMod, encL, MC0, MC1, MC2, hi', hin, hk', hkin, hy, hyin, rowV_ld hiR2, rowV_ld hyR2, rowV_len, hrsl, hRl3, hgi, hgy, rsI_at, hrowi, hrowy, hvin, hvle, hvi, hvy, ld_cB hvi, ld_cB hvy, b2, hvI]
                  by_cases hss : sb = true ∧ sv = (v : Int)
                  · obtain ⟨rfl, rfl⟩ := hss
                    simp only [VC0, VC1, VC2, VC3, VC4, VC5, VC6, VC7, reduceIte, reduceCtorEq, Nat.reduceEqDiff, Nat.reduceAdd, Nat.reduceMul, Nat.reduceBEq, Nat.reduceLT, Nat.reduceLeDiff, Int.reduceEq, Int.reduceLT, Int.reduceLE, Int.reduceNeg, Int.reduceToNat, Int.reduceAdd, Nat.reduceDiv, Nat.reduceSub, Nat.reduceMod, encL, MC0, MC1, MC2, hvI]
                    have hok : ok3 m (tget R3) i k v := fun _ _ _ hT => .inr hsc
                    exact backTo_of (v + 1, R3, ag3, _) ⟨hvL, Z.skip hok fun j a u h => by omega⟩ (by simp only []; omega) (ent_of _ [] rfl rfl (by
                        simp only [VC0, VC1, VC2, VC3, VC4, VC5, VC6, VC7, reduceIte, reduceCtorEq, Nat.reduceEqDiff, Nat.reduceAdd, Nat.reduceMul, Nat.reduceBEq, Nat.reduceLT, Nat.reduceLeDiff, Int.reduceEq, Int.reduceLT, Int.reduceLE, Int.reduceNeg, Int.reduceToNat, Int.reduceAdd, Nat.reduceDiv, Nat.reduceSub, Nat.reduceMod, encL, MC0, MC1, MC2, rsI_len, hRl3, lp_imv]
                        refine rowsAt_same (f := cB) (d := 3) (esz := 1) (R := R3) rfl (fun j h => ?_) (lb_imv 8) (by decide) hRl3.symm (by simp) (fun j _ => by simp) ?_
                        · simp only [VC0, VC1, VC2, VC3, VC4, VC5, VC6, VC7, reduceIte, reduceCtorEq, Nat.reduceEqDiff, Nat.reduceAdd, Nat.reduceMul, Nat.reduceBEq, Nat.reduceLT, Nat.reduceLeDiff, Int.reduceEq, Int.reduceLT, Int.reduceLE, Int.reduceNeg, Int.reduceToNat, Int.reduceAdd, Nat.reduceDiv, Nat.reduceSub, Nat.reduceMod, encL, MC0, MC1, MC2, rsI_get cB h]
                        · simp only [VC0, VC1, VC2, VC3, VC4, VC5, VC6, VC7, reduceIte, reduceCtorEq, Nat.reduceEqDiff, Nat.reduceAdd, Nat.reduceMul, Nat.reduceBEq, Nat.reduceLT, Nat.reduceLeDiff, Int.reduceEq, Int.reduceLT, Int.reduceLE, Int.reduceNeg, Int.reduceToNat, Int.reduceAdd, Nat.reduceDiv, Nat.reduceSub, Nat.reduceMod, encL, MC0, MC1, MC2]))
                  · have hne : sc m i ≠ ((v : Int), true) := by
                      rw [hsc]; intro e
                      exact hss ⟨congrArg Prod.snd e, congrArg Prod.fst e⟩
                    have Z' : LZ m R (R3.set i (R3[i].set v true)) true (fun j a u => i + 1 ≤ j ∨ (j = i ∧ (a < k ∨ (a = k ∧ u < v + 1)))) :=
                      Z.put hi' hk' hiR hvi (by rw [hyT, ← hgty, b1]) b2 hne
                    cases sb with
                    | false =>
                      simp only [VC0, VC1, VC2, VC3, VC4, VC5, VC6, VC7, reduceIte, reduceCtorEq, Nat.reduceEqDiff, Nat.reduceAdd, Nat.reduceMul, Nat.reduceBEq, Nat.reduceLT, Nat.reduceLeDiff, Int.reduceEq, Int.reduceLT, Int.reduceLE, Int.reduceNeg, Int.reduceToNat, Int.reduceAdd, Nat.reduceDiv, Nat.reduceSub, Nat.reduceMod, encL, MC0, MC1, MC2, hi', hin, hk', hkin, hy, hyin, rowV_ld hiR2, rowV_ld hyR2, rowV_len, hrsl, hRl3, hgi, hgy, rsI_at, hrowi, hrowy, hvin, hvle, hvi, hvy, ld_cB hvi, ld_cB hvy, b2, hvI, lb_set hvi]
                      exact backTo_of (v + 1, R3.set i (R3[i].set v true), true, _) ⟨hvL, Z'⟩ (by simp only []; omega) (ent_of _ [] rfl rfl (by
                        simp only [VC0, VC1, VC2, VC3, VC4, VC5, VC6, VC7, reduceIte, reduceCtorEq, Nat.reduceEqDiff, Nat.reduceAdd, Nat.reduceMul, Nat.reduceBEq, Nat.reduceLT, Nat.reduceLeDiff, Int.reduceEq, Int.reduceLT, Int.reduceLE, Int.reduceNeg, Int.reduceToNat, Int.reduceAdd, Nat.reduceDiv, Nat.reduceSub, Nat.reduceMod, encL, MC0, MC1, MC2, hrsl, hRl3, lp_imv]
                        refine rowsAt_upd (f := cB) (d := 3) (esz := 1) (t := i) (R := R3) (r := R3[i].set v true) hiR (by simp) rfl ?_ (fun j h hne => ?_) (lb_imv 8) (by decide) hRl3.symm (by simp) (fun j _ => by simp) ?_
                        · simp only [VC0, VC1, VC2, VC3, VC4, VC5, VC6, VC7, reduceIte, reduceCtorEq, Nat.reduceEqDiff, Nat.reduceAdd, Nat.reduceMul, Nat.reduceBEq, Nat.reduceLT, Nat.reduceLeDiff, Int.reduceEq, Int.reduceLT, Int.reduceLE, Int.reduceNeg, Int.reduceToNat, Int.reduceAdd, Nat.reduceDiv, Nat.reduceSub, Nat.reduceMod, encL, MC0, MC1, MC2]
                          try simp
                        · simp only [VC0, VC1, VC2, VC3, VC4, VC5, VC6, VC7, reduceIte, reduceCtorEq, Nat.reduceEqDiff, Nat.reduceAdd, Nat.reduceMul, Nat.reduceBEq, Nat.reduceLT, Nat.reduceLeDiff, Int.reduceEq, Int.reduceLT, Int.reduceLE, Int.reduceNeg, Int.reduceToNat, Int.reduceAdd, Nat.reduceDiv, Nat.reduceSub, Nat.reduceMod, encL, MC0, MC1, MC2, hne, rsI_get cB h]
                          try simp [hne]
                        · simp only [VC0, VC1, VC2, VC3, VC4, VC5, VC6, VC7, reduceIte, reduceCtorEq, Nat.reduceEqDiff, Nat.reduceAdd, Nat.reduceMul, Nat.reduceBEq, Nat.reduceLT, Nat.reduceLeDiff, Int.reduceEq, Int.reduceLT, Int.reduceLE, Int.reduceNeg, Int.reduceToNat, Int.reduceAdd, Nat.reduceDiv, Nat.reduceSub, Nat.reduceMod, encL, MC0, MC1, MC2]))
                    | true =>
                      have hsv : ¬ sv = (v : Int) := fun e => hss ⟨rfl, e⟩
                      simp only [VC0, VC1, VC2, VC3, VC4, VC5, VC6, VC7, reduceIte, reduceCtorEq, Nat.reduceEqDiff, Nat.reduceAdd, Nat.reduceMul, Nat.reduceBEq, Nat.reduceLT, Nat.reduceLeDiff, Int.reduceEq, Int.reduceLT, Int.reduceLE, Int.reduceNeg, Int.reduceToNat, Int.reduceAdd, Nat.reduceDiv, Nat.reduceSub, Nat.reduceMod, encL, MC0, MC1, MC2, hsv, hi', hin, hk', hkin, hy, hyin, rowV_ld hiR2, rowV_ld hyR2, rowV_len, hrsl, hRl3, hgi, hgy, rsI_at, hrowi, hrowy, hvin, hvle, hvi, hvy, ld_cB hvi, ld_cB hvy, b2, hvI, lb_set hvi]
                      exact backTo_of (v + 1, R3.set i (R3[i].set v true), true, _) ⟨hvL, Z'⟩ (by simp only []; omega) (ent_of _ [] rfl rfl (by
                        simp only [VC0, VC1, VC2, VC3, VC4, VC5, VC6, VC7, reduceIte, reduceCtorEq, Nat.reduceEqDiff, Nat.reduceAdd, Nat.reduceMul, Nat.reduceBEq, Nat.reduceLT, Nat.reduceLeDiff, Int.reduceEq, Int.reduceLT, Int.reduceLE, Int.reduceNeg, Int.reduceToNat, Int.reduceAdd, Nat.reduceDiv, Nat.reduceSub, Nat.reduceMod, encL, MC0, MC1, MC2, hrsl, hRl3, lp_imv]
                        refine rowsAt_upd (f := cB) (d := 3) (esz := 1) (t := i) (R := R3) (r := R3[i].set v true) hiR (by simp) rfl ?_ (fun j h hne => ?_) (lb_imv 8) (by decide) hRl3.symm (by simp) (fun j _ => by simp) ?_
                        · simp only [VC0, VC1, VC2, VC3, VC4, VC5, VC6, VC7, reduceIte, reduceCtorEq, Nat.reduceEqDiff, Nat.reduceAdd, Nat.reduceMul, Nat.reduceBEq, Nat.reduceLT, Nat.reduceLeDiff, Int.reduceEq, Int.reduceLT, Int.reduceLE, Int.reduceNeg, Int.reduceToNat, Int.reduceAdd, Nat.reduceDiv, Nat.reduceSub, Nat.reduceMod, encL, MC0, MC1, MC2]
                          try simp
                        · simp only [VC0, VC1, VC2, VC3, VC4, VC5, VC6, VC7, reduceIte, reduceCtorEq, Nat.reduceEqDiff, Nat.reduceAdd, Nat.reduceMul, Nat.reduceBEq, Nat.reduceLT, Nat.reduceLeDiff, Int.reduceEq, Int.reduceLT, Int.reduceLE, Int.reduceNeg, Int.reduceToNat, Int.reduceAdd, Nat.reduceDiv, Nat.reduceSub, Nat.reduceMod, encL, MC0, MC1, MC2, hne, rsI_get cB h]
                          try simp [hne]
                        · simp only [VC0, VC1, VC2, VC3, VC4, VC5, VC6, VC7, reduceIte, reduceCtorEq, Nat.reduceEqDiff, Nat.reduceAdd, Nat.reduceMul, Nat.reduceBEq, Nat.reduceLT, Nat.reduceLeDiff, Int.reduceEq, Int.reduceLT, Int.reduceLE, Int.reduceNeg, Int.reduceToNat, Int.reduceAdd, Nat.reduceDiv, Nat.reduceSub, Nat.reduceMod, encL, MC0, MC1, MC2]))
            · have hv' : v = m.locals.length := by omega
              subst hv'
              simp only [VC0, VC1, VC2, VC3, VC4, VC5, VC6, VC7, reduceIte, reduceCtorEq, Nat.reduceEqDiff, Nat.reduceAdd, Nat.reduceMul, Nat.reduceBEq, Nat.reduceLT, Nat.reduceLeDiff, Int.reduceEq, Int.reduceLT, Int.reduceLE, Int.reduceNeg, Int.reduceToNat, Int.reduceAdd, Nat.reduceDiv, Nat.reduceSub, Nat.reduceMod, encL, MC0, MC1, MC2]
              refine And.intro (by unfold InI64; omega) (backTo_of (k + 1, R3, ag3, _) ⟨hk', Z.imp fun j a u h _ _ _ => by omega⟩ (by simp only []; omega) (ent_of _ [] rfl rfl (by
                simp only [VC0, VC1, VC2, VC3, VC4, VC5, VC6, VC7, reduceIte, reduceCtorEq, Nat.reduceEqDiff, Nat.reduceAdd, Nat.reduceMul, Nat.reduceBEq, Nat.reduceLT, Nat.reduceLeDiff, Int.reduceEq, Int.reduceLT, Int.reduceLE, Int.reduceNeg, Int.reduceToNat, Int.reduceAdd, Nat.reduceDiv, Nat.reduceSub, Nat.reduceMod, encL, MC0, MC1, MC2, rsI_len, hRl3, lp_imv]
                refine rowsAt_same (f := cB) (d := 3) (esz := 1) (R := R3) rfl (fun j h => ?_) (lb_imv 8) (by decide) hRl3.symm (by simp) (fun j _ => by simp) ?_
                · simp only [VC0, VC1, VC2, VC3, VC4, VC5, VC6, VC7, reduceIte, reduceCtorEq, Nat.reduceEqDiff, Nat.reduceAdd, Nat.reduceMul, Nat.reduceBEq, Nat.reduceLT, Nat.reduceLeDiff, Int.reduceEq, Int.reduceLT, Int.reduceLE, Int.reduceNeg, Int.reduceToNat, Int.reduceAdd, Nat.reduceDiv, Nat.reduceSub, Nat.reduceMod, encL, MC0, MC1, MC2, rsI_get cB h]
                · simp only [VC0, VC1, VC2, VC3, VC4, VC5, VC6, VC7, reduceIte, reduceCtorEq, Nat.reduceEqDiff, Nat.reduceAdd, Nat.reduceMul, Nat.reduceBEq, Nat.reduceLT, Nat.reduceLeDiff, Int.reduceEq, Int.reduceLT, Int.reduceLE, Int.reduceNeg, Int.reduceToNat, Int.reduceAdd, Nat.reduceDiv, Nat.reduceSub, Nat.reduceMod, encL, MC0, MC1, MC2])))
          · have hk' : k = m.code[i].next.length := by omega
            subst hk'
            simp only [VC0, VC1, VC2, VC3, VC4, VC5, VC6, VC7, reduceIte, reduceCtorEq, Nat.reduceEqDiff, Nat.reduceAdd, Nat.reduceMul, Nat.reduceBEq, Nat.reduceLT, Nat.reduceLeDiff, Int.reduceEq, Int.reduceLT, Int.reduceLE, Int.reduceNeg, Int.reduceToNat, Int.reduceAdd, Nat.reduceDiv, Nat.reduceSub, Nat.reduceMod, encL, MC0, MC1, MC2]
            refine And.intro (by unfold InI64; omega) (backTo_of (i, R2, ag2, _) ⟨by simp only []; omega, Z.imp fun j a u h hj ha hu => ?_⟩ (by simp only []; omega) (ent_of _ [] rfl rfl (by
              simp only [VC0, VC1, VC2, VC3, VC4, VC5, VC6, VC7, reduceIte, reduceCtorEq, Nat.reduceEqDiff, Nat.reduceAdd, Nat.reduceMul, Nat.reduceBEq, Nat.reduceLT, Nat.reduceLeDiff, Int.reduceEq, Int.reduceLT, Int.reduceLE, Int.reduceNeg, Int.reduceToNat, Int.reduceAdd, Nat.reduceDiv, Nat.reduceSub, Nat.reduceMod, encL, MC0, MC1, MC2, rsI_len, hRl2, lp_imv]
              refine rowsAt_same (f := cB) (d := 3) (esz := 1) (R := R2) rfl (fun j h => ?_) (lb_imv 8) (by decide) hRl2.symm (by simp) (fun j _ => by simp) ?_
              · simp only [VC0, VC1, VC2, VC3, VC4, VC5, VC6, VC7, reduceIte, reduceCtorEq, Nat.reduceEqDiff, Nat.reduceAdd, Nat.reduceMul, Nat.reduceBEq, Nat.reduceLT, Nat.reduceLeDiff, Int.reduceEq, Int.reduceLT, Int.reduceLE, Int.reduceNeg, Int.reduceToNat, Int.reduceAdd, Nat.reduceDiv, Nat.reduceSub, Nat.reduceMod, encL, MC0, MC1, MC2, rsI_get cB h]
              · simp only [VC0, VC1, VC2, VC3, VC4, VC5, VC6, VC7, reduceIte, reduceCtorEq, Nat.reduceEqDiff, Nat.reduceAdd, Nat.reduceMul, Nat.reduceBEq, Nat.reduceLT, Nat.reduceLeDiff, Int.reduceEq, Int.reduceLT, Int.reduceLE, Int.reduceNeg, Int.reduceToNat, Int.reduceAdd, Nat.reduceDiv, Nat.reduceSub, Nat.reduceMod, encL, MC0, MC1, MC2])))
            by_cases e : j = i
            · subst e; exact .inr ⟨rfl, ha⟩
            · exact .inl (by have h : i ≤ j := h; omega)
        · have hi0 : i = 0 := by omega
          subst hi0
          simp only [VC0, VC1, VC2, VC3, VC4, VC5, VC6, VC7, reduceIte, reduceCtorEq, Nat.reduceEqDiff, Nat.reduceAdd, Nat.reduceMul, Nat.reduceBEq, Nat.reduceLT, Nat.reduceLeDiff, Int.reduceEq, Int.reduceLT, Int.reduceLE, Int.reduceNeg, Int.reduceToNat, Int.reduceAdd, Nat.reduceDiv, Nat.reduceSub, Nat.reduceMod, encL, MC0, MC1, MC2]
          refine backTo_of (R1, ag1, _) ⟨Z.n, Z.r, Z.p, fun h => ?_⟩ ?_ (ent_of _ [] rfl rfl (by
            simp only [VC0, VC1, VC2, VC3, VC4, VC5, VC6, VC7, reduceIte, reduceCtorEq, Nat.reduceEqDiff, Nat.reduceAdd, Nat.reduceMul, Nat.reduceBEq, Nat.reduceLT, Nat.reduceLeDiff, Int.reduceEq, Int.reduceLT, Int.reduceLE, Int.reduceNeg, Int.reduceToNat, Int.reduceAdd, Nat.reduceDiv, Nat.reduceSub, Nat.reduceMod, encL, MC0, MC1, MC2, rsI_len, hRl1, lp_imv]
            refine rowsAt_same (f := cB) (d := 3) (esz := 1) (R := R1) rfl (fun j h => ?_) (lb_imv 8) (by decide) hRl1.symm (by simp) (fun j _ => by simp) ?_
            · simp only [VC0, VC1, VC2, VC3, VC4, VC5, VC6, VC7, reduceIte, reduceCtorEq, Nat.reduceEqDiff, Nat.reduceAdd, Nat.reduceMul, Nat.reduceBEq, Nat.reduceLT, Nat.reduceLeDiff, Int.reduceEq, Int.reduceLT, Int.reduceLE, Int.reduceNeg, Int.reduceToNat, Int.reduceAdd, Nat.reduceDiv, Nat.reduceSub, Nat.reduceMod, encL, MC0, MC1, MC2, rsI_get cB h]
            · simp only [VC0, VC1, VC2, VC3, VC4, VC5, VC6, VC7, reduceIte, reduceCtorEq, Nat.reduceEqDiff, Nat.reduceAdd, Nat.reduceMul, Nat.reduceBEq, Nat.reduceLT, Nat.reduceLeDiff, Int.reduceEq, Int.reduceLT, Int.reduceLE, Int.reduceNeg, Int.reduceToNat, Int.reduceAdd, Nat.reduceDiv, Nat.reduceSub, Nat.reduceMod, encL, MC0, MC1, MC2]))
          · have h : ag1 = false := h
            subst h
            exact Z.fin fun _ _ _ => Nat.zero_le _
          · have h1 := Z.f
            have h2 := Z.a
            cases ag1 with
            | false => simp only [Bool.toNat_false, Bool.toNat_true]; omega
            | true => have := h2 rfl; simp only [Bool.toNat_true]; omega

end Go.Proofs.Ytobhpkagbmadlaa

set_option linter.unusedSimpArgs false
set_option linter.unusedVariables false
namespace Go.Proofs.Ytobhpkagbmadlaa
open Go Go.Lg Go.RowKit
set_option maxRecDepth 20000

set_option maxHeartbeats 2000000 in
theorem liveAsks_ret (m : Mir) (hm : m.ok) (x : MInst) : PRet Try.prog 9 [.agg m.cells, .agg x.cells] (.bool true) := by
  refine pret_intro fd9 (by simp) ?_
  simp only [lc9, VC0, VC1, VC2, VC3, VC4, VC5, VC6, VC7, reduceIte, reduceCtorEq, Nat.reduceEqDiff, Nat.reduceAdd, Nat.reduceMul, Nat.reduceBEq, Nat.reduceLT, Nat.reduceLeDiff, Int.reduceEq, Int.reduceLT, Int.reduceLE, Int.reduceNeg, Int.reduceToNat, Int.reduceAdd, Nat.reduceDiv, Nat.reduceSub, Nat.reduceMod, encL, MC0, MC1, MC2]
  refine callX_of (great_ret m hm) (.inr rfl) ?_
  cases hgr : greatB m with
  | true =>
    simp only [VC0, VC1, VC2, VC3, VC4, VC5, VC6, VC7, reduceIte, reduceCtorEq, Nat.reduceEqDiff, Nat.reduceAdd, Nat.reduceMul, Nat.reduceBEq, Nat.reduceLT, Nat.reduceLeDiff, Int.reduceEq, Int.reduceLT, Int.reduceLE, Int.reduceNeg, Int.reduceToNat, Int.reduceAdd, Nat.reduceDiv, Nat.reduceSub, Nat.reduceMod, encL, MC0, MC1, MC2]
    refine callX_of told19_ret (.inr rfl) ?_
    simp only [VC0, VC1, VC2, VC3, VC4, VC5, VC6, VC7, reduceIte, reduceCtorEq, Nat.reduceEqDiff, Nat.reduceAdd, Nat.reduceMul, Nat.reduceBEq, Nat.reduceLT, Nat.reduceLeDiff, Int.reduceEq, Int.reduceLT, Int.reduceLE, Int.reduceNeg, Int.reduceToNat, Int.reduceAdd, Nat.reduceDiv, Nat.reduceSub, Nat.reduceMod, encL, MC0, MC1, MC2]
  | false =>
  simp only [VC0, VC1, VC2, VC3, VC4, VC5, VC6, VC7, reduceIte, reduceCtorEq, Nat.reduceEqDiff, Nat.reduceAdd, Nat.reduceMul, Nat.reduceBEq, Nat.reduceLT, Nat.reduceLeDiff, Int.reduceEq, Int.reduceLT, Int.reduceLE, Int.reduceNeg, Int.reduceToNat, Int.reduceAdd, Nat.reduceDiv, Nat.reduceSub, Nat.reduceMod, encL, MC0, MC1, MC2]
  refine condD_of (fun h => ?_) (fun h => ?_)
  · simp only [VC0, VC1, VC2, VC3, VC4, VC5, VC6, VC7, reduceIte, reduceCtorEq, Nat.reduceEqDiff, Nat.reduceAdd, Nat.reduceMul, Nat.reduceBEq, Nat.reduceLT, Nat.reduceLeDiff, Int.reduceEq, Int.reduceLT, Int.reduceLE, Int.reduceNeg, Int.reduceToNat, Int.reduceAdd, Nat.reduceDiv, Nat.reduceSub, Nat.reduceMod, encL, MC0, MC1, MC2]
    refine callX_of told19_ret (.inr rfl) ?_
    simp only [VC0, VC1, VC2, VC3, VC4, VC5, VC6, VC7, reduceIte, reduceCtorEq, Nat.reduceEqDiff, Nat.reduceAdd, Nat.reduceMul, Nat.reduceBEq, Nat.reduceLT, Nat.reduceLeDiff, Int.reduceEq, Int.reduceLT, Int.reduceLE, Int.reduceNeg, Int.reduceToNat, Int.reduceAdd, Nat.reduceDiv, Nat.reduceSub, Nat.reduceMod, encL, MC0, MC1, MC2]
  have hxa : x.val.args.length ≤ 20 := by omega
  have hul := usesL_len x
  have hu1 := (uses_own x (by omega)).ret
  have hu2 := uses18_ret x (by omega)
  have hui := ints_ret (usesL x) (usesL x) (by omega)
  have hin := livein_ret m hm hgr
  simp only [VC0, VC1, VC2, VC3, VC4, VC5, VC6, VC7, reduceIte, reduceCtorEq, Nat.reduceEqDiff, Nat.reduceAdd, Nat.reduceMul, Nat.reduceBEq, Nat.reduceLT, Nat.reduceLeDiff, Int.reduceEq, Int.reduceLT, Int.reduceLE, Int.reduceNeg, Int.reduceToNat, Int.reduceAdd, Nat.reduceDiv, Nat.reduceSub, Nat.reduceMod, encL, MC0, MC1, MC2]
  refine callX_of (sets_ret x) (.inr rfl) ?_
  simp only [VC0, VC1, VC2, VC3, VC4, VC5, VC6, VC7, reduceIte, reduceCtorEq, Nat.reduceEqDiff, Nat.reduceAdd, Nat.reduceMul, Nat.reduceBEq, Nat.reduceLT, Nat.reduceLeDiff, Int.reduceEq, Int.reduceLT, Int.reduceLE, Int.reduceNeg, Int.reduceToNat, Int.reduceAdd, Nat.reduceDiv, Nat.reduceSub, Nat.reduceMod, encL, MC0, MC1, MC2, List.getElem?_cons_zero, List.getElem?_cons_succ]
  refine callX_of (sets18_ret x) (.inr rfl) ?_
  simp only [VC0, VC1, VC2, VC3, VC4, VC5, VC6, VC7, reduceIte, reduceCtorEq, Nat.reduceEqDiff, Nat.reduceAdd, Nat.reduceMul, Nat.reduceBEq, Nat.reduceLT, Nat.reduceLeDiff, Int.reduceEq, Int.reduceLT, Int.reduceLE, Int.reduceNeg, Int.reduceToNat, Int.reduceAdd, Nat.reduceDiv, Nat.reduceSub, Nat.reduceMod, encL, MC0, MC1, MC2, List.getElem?_cons_zero, List.getElem?_cons_succ, bne_self_eq_false]
  generalize usesL x = U at hul hu1 hu2 hui
  simp only [encL, eq_self, decide_true] at hui hu2
  refine callV_of hu1 (.inl rfl) ?_
  simp only [VC0, VC1, VC2, VC3, VC4, VC5, VC6, VC7, reduceIte, reduceCtorEq, Nat.reduceEqDiff, Nat.reduceAdd, Nat.reduceMul, Nat.reduceBEq, Nat.reduceLT, Nat.reduceLeDiff, Int.reduceEq, Int.reduceLT, Int.reduceLE, Int.reduceNeg, Int.reduceToNat, Int.reduceAdd, Nat.reduceDiv, Nat.reduceSub, Nat.reduceMod, encL, MC0, MC1, MC2]
  refine callV_of hu2 (.inl rfl) ?_
  simp only [VC0, VC1, VC2, VC3, VC4, VC5, VC6, VC7, reduceIte, reduceCtorEq, Nat.reduceEqDiff, Nat.reduceAdd, Nat.reduceMul, Nat.reduceBEq, Nat.reduceLT, Nat.reduceLeDiff, Int.reduceEq, Int.reduceLT, Int.reduceLE, Int.reduceNeg, Int.reduceToNat, Int.reduceAdd, Nat.reduceDiv, Nat.reduceSub, Nat.reduceMod, encL, MC0, MC1, MC2]
  refine callV_of hui (.inr rfl) ?_
  simp only [VC0, VC1, VC2, VC3, VC4, VC5, VC6, VC7, reduceIte, reduceCtorEq, Nat.reduceEqDiff, Nat.reduceAdd, Nat.reduceMul, Nat.reduceBEq, Nat.reduceLT, Nat.reduceLeDiff, Int.reduceEq, Int.reduceLT, Int.reduceLE, Int.reduceNeg, Int.reduceToNat, Int.reduceAdd, Nat.reduceDiv, Nat.reduceSub, Nat.reduceMod, encL, MC0, MC1, MC2]
  refine callX_of hin (.inl rfl) ?_
  simp only [VC0, VC1, VC2, VC3, VC4, VC5, VC6, VC7, reduceIte, reduceCtorEq, Nat.reduceEqDiff, Nat.reduceAdd, Nat.reduceMul, Nat.reduceBEq, Nat.reduceLT, Nat.reduceLeDiff, Int.reduceEq, Int.reduceLT, Int.reduceLE, Int.reduceNeg, Int.reduceToNat, Int.reduceAdd, Nat.reduceDiv, Nat.reduceSub, Nat.reduceMod, encL, MC0, MC1, MC2]
  refine callX_of (may16_ret m hm) (.inr rfl) ?_
  cases hmay : mayB m with
  | false =>
    simp only [VC0, VC1, VC2, VC3, VC4, VC5, VC6, VC7, reduceIte, reduceCtorEq, Nat.reduceEqDiff, Nat.reduceAdd, Nat.reduceMul, Nat.reduceBEq, Nat.reduceLT, Nat.reduceLeDiff, Int.reduceEq, Int.reduceLT, Int.reduceLE, Int.reduceNeg, Int.reduceToNat, Int.reduceAdd, Nat.reduceDiv, Nat.reduceSub, Nat.reduceMod, encL, MC0, MC1, MC2, hmay]
    refine callX_of told19_ret (.inr rfl) ?_
    simp only [VC0, VC1, VC2, VC3, VC4, VC5, VC6, VC7, reduceIte, reduceCtorEq, Nat.reduceEqDiff, Nat.reduceAdd, Nat.reduceMul, Nat.reduceBEq, Nat.reduceLT, Nat.reduceLeDiff, Int.reduceEq, Int.reduceLT, Int.reduceLE, Int.reduceNeg, Int.reduceToNat, Int.reduceAdd, Nat.reduceDiv, Nat.reduceSub, Nat.reduceMod, encL, MC0, MC1, MC2, hmay, encLL]
    try simp
  | true =>
  have hsm := small_of hgr
  have hsn := hsm.n
  have hsl := hsm.l
  have hli := live18_ret m hgr hmay
  have hTl := livTab_len m
  have hTr : ∀ (j : Nat) (h : j < (livTab m).length), ((livTab m)[j]).length = m.locals.length := fun j h => livTab_row h
  simp only [VC0, VC1, VC2, VC3, VC4, VC5, VC6, VC7, reduceIte, reduceCtorEq, Nat.reduceEqDiff, Nat.reduceAdd, Nat.reduceMul, Nat.reduceBEq, Nat.reduceLT, Nat.reduceLeDiff, Int.reduceEq, Int.reduceLT, Int.reduceLE, Int.reduceNeg, Int.reduceToNat, Int.reduceAdd, Nat.reduceDiv, Nat.reduceSub, Nat.reduceMod, encL, MC0, MC1, MC2, hmay]
  generalize livTab m = T at hli hTl hTr
  refine callX_of hli (.inl rfl) ?_
  simp only [VC0, VC1, VC2, VC3, VC4, VC5, VC6, VC7, reduceIte, reduceCtorEq, Nat.reduceEqDiff, Nat.reduceAdd, Nat.reduceMul, Nat.reduceBEq, Nat.reduceLT, Nat.reduceLeDiff, Int.reduceEq, Int.reduceLT, Int.reduceLE, Int.reduceNeg, Int.reduceToNat, Int.reduceAdd, Nat.reduceDiv, Nat.reduceSub, Nat.reduceMod, encL, MC0, MC1, MC2, hTl]
  refine loop_vcg (ι := Nat × (Nat → Nat)) (fun (i, c) => stO [(9, .val (encL (cL cB) T)), (10, .val (encL (cL cB) T)), (11, .val (.int .i64 i))] c)
    (fun (i, _) => i ≤ m.code.length) (fun (i, _) => m.code.length - i) (0, _) (Nat.zero_le _) (ent_of _ [] rfl rfl (by simp only [VC0, VC1, VC2, VC3, VC4, VC5, VC6, VC7, reduceIte, reduceCtorEq, Nat.reduceEqDiff, Nat.reduceAdd, Nat.reduceMul, Nat.reduceBEq, Nat.reduceLT, Nat.reduceLeDiff, Int.reduceEq, Int.reduceLT, Int.reduceLE, Int.reduceNeg, Int.reduceToNat, Int.reduceAdd, Nat.reduceDiv, Nat.reduceSub, Nat.reduceMod, encL, MC0, MC1, MC2, hTl])) ?_
  rintro ⟨i, c⟩ hi
  simp only [VC0, VC1, VC2, VC3, VC4, VC5, VC6, VC7, reduceIte, reduceCtorEq, Nat.reduceEqDiff, Nat.reduceAdd, Nat.reduceMul, Nat.reduceBEq, Nat.reduceLT, Nat.reduceLeDiff, Int.reduceEq, Int.reduceLT, Int.reduceLE, Int.reduceNeg, Int.reduceToNat, Int.reduceAdd, Nat.reduceDiv, Nat.reduceSub, Nat.reduceMod, encL, MC0, MC1, MC2, hTl]
  refine condD_of (fun h => ?_) (fun h => ?_)
  · have hi' : i < m.code.length := by omega
    have hin' : 0 ≤ (i : Int) ∧ (i : Int) < m.code.length := by omega
    have hiT : i < T.length := by omega
    have hrow := hTr i hiT
    simp only [VC0, VC1, VC2, VC3, VC4, VC5, VC6, VC7, reduceIte, reduceCtorEq, Nat.reduceEqDiff, Nat.reduceAdd, Nat.reduceMul, Nat.reduceBEq, Nat.reduceLT, Nat.reduceLeDiff, Int.reduceEq, Int.reduceLT, Int.reduceLE, Int.reduceNeg, Int.reduceToNat, Int.reduceAdd, Nat.reduceDiv, Nat.reduceSub, Nat.reduceMod, encL, MC0, MC1, MC2, hi', hin', hTl, ld_cLB hiT, hrow]
    refine loop_vcg (ι := Nat × (Nat → Nat)) (fun (k, c) => stO [(9, .val (encL (cL cB) T)), (10, .val (encL (cL cB) T)), (11, .val (.int .i64 i)), (12, .val (.int .i64 k))] c)
      (fun (k, _) => k ≤ m.locals.length) (fun (k, _) => m.locals.length - k) (0, _) (Nat.zero_le _) (ent_of _ [] rfl rfl (by simp only [VC0, VC1, VC2, VC3, VC4, VC5, VC6, VC7, reduceIte, reduceCtorEq, Nat.reduceEqDiff, Nat.reduceAdd, Nat.reduceMul, Nat.reduceBEq, Nat.reduceLT, Nat.reduceLeDiff, Int.reduceEq, Int.reduceLT, Int.reduceLE, Int.reduceNeg, Int.reduceToNat, Int.reduceAdd, Nat.reduceDiv, Nat.reduceSub, Nat.reduceMod, encL, MC0, MC1, MC2, hTl])) ?_
    rintro ⟨k, c⟩ hk
    simp only [VC0, VC1, VC2, VC3, VC4, VC5, VC6, VC7, reduceIte, reduceCtorEq, Nat.reduceEqDiff, Nat.reduceAdd, Nat.reduceMul, Nat.reduceBEq, Nat.reduceLT, Nat.reduceLeDiff, Int.reduceEq, Int.reduceLT, Int.reduceLE, Int.reduceNeg, Int.reduceToNat, Int.reduceAdd, Nat.reduceDiv, Nat.reduceSub, Nat.reduceMod, encL, MC0, MC1, MC2, hi', hin', hTl, ld_cLB hiT, hrow]
    refine condD_of (fun h => ?_) (fun h => ?_)
    · have hk' : k < m.locals.length := by omega
      have hkin : 0 ≤ (k : Int) ∧ (k : Int) < m.locals.length := by omega
      have hkT : k < T[i].length := by omega
      simp only [VC0, VC1, VC2, VC3, VC4, VC5, VC6, VC7, reduceIte, reduceCtorEq, Nat.reduceEqDiff, Nat.reduceAdd, Nat.reduceMul, Nat.reduceBEq, Nat.reduceLT, Nat.reduceLeDiff, Int.reduceEq, Int.reduceLT, Int.reduceLE, Int.reduceNeg, Int.reduceToNat, Int.reduceAdd, Nat.reduceDiv, Nat.reduceSub, Nat.reduceMod, encL, MC0, MC1, MC2, hi', hin', hTl, ld_cLB hiT, hrow, hk', hkin, ld_cB hkT, bne_self_eq_false]
      exact And.intro (by unfold InI64; omega) (backTo_of (k + 1, _) hk' (by simp only []; omega) (ent_of _ [] rfl rfl (by simp only [VC0, VC1, VC2, VC3, VC4, VC5, VC6, VC7, reduceIte, reduceCtorEq, Nat.reduceEqDiff, Nat.reduceAdd, Nat.reduceMul, Nat.reduceBEq, Nat.reduceLT, Nat.reduceLeDiff, Int.reduceEq, Int.reduceLT, Int.reduceLE, Int.reduceNeg, Int.reduceToNat, Int.reduceAdd, Nat.reduceDiv, Nat.reduceSub, Nat.reduceMod, encL, MC0, MC1, MC2, hTl])))
    · simp only [VC0, VC1, VC2, VC3, VC4, VC5, VC6, VC7, reduceIte, reduceCtorEq, Nat.reduceEqDiff, Nat.reduceAdd, Nat.reduceMul, Nat.reduceBEq, Nat.reduceLT, Nat.reduceLeDiff, Int.reduceEq, Int.reduceLT, Int.reduceLE, Int.reduceNeg, Int.reduceToNat, Int.reduceAdd, Nat.reduceDiv, Nat.reduceSub, Nat.reduceMod, encL, MC0, MC1, MC2]
      exact And.intro (by unfold InI64; omega) (backTo_of (i + 1, _) hi' (by simp only []; omega) (ent_of _ [] rfl rfl (by simp only [VC0, VC1, VC2, VC3, VC4, VC5, VC6, VC7, reduceIte, reduceCtorEq, Nat.reduceEqDiff, Nat.reduceAdd, Nat.reduceMul, Nat.reduceBEq, Nat.reduceLT, Nat.reduceLeDiff, Int.reduceEq, Int.reduceLT, Int.reduceLE, Int.reduceNeg, Int.reduceToNat, Int.reduceAdd, Nat.reduceDiv, Nat.reduceSub, Nat.reduceMod, encL, MC0, MC1, MC2, hTl])))
  · simp only [VC0, VC1, VC2, VC3, VC4, VC5, VC6, VC7, reduceIte, reduceCtorEq, Nat.reduceEqDiff, Nat.reduceAdd, Nat.reduceMul, Nat.reduceBEq, Nat.reduceLT, Nat.reduceLeDiff, Int.reduceEq, Int.reduceLT, Int.reduceLE, Int.reduceNeg, Int.reduceToNat, Int.reduceAdd, Nat.reduceDiv, Nat.reduceSub, Nat.reduceMod, encL, MC0, MC1, MC2]
    refine callX_of told19_ret (.inr rfl) ?_
    simp only [VC0, VC1, VC2, VC3, VC4, VC5, VC6, VC7, reduceIte, reduceCtorEq, Nat.reduceEqDiff, Nat.reduceAdd, Nat.reduceMul, Nat.reduceBEq, Nat.reduceLT, Nat.reduceLeDiff, Int.reduceEq, Int.reduceLT, Int.reduceLE, Int.reduceNeg, Int.reduceToNat, Int.reduceAdd, Nat.reduceDiv, Nat.reduceSub, Nat.reduceMod, encL, MC0, MC1, MC2]

end Go.Proofs.Ytobhpkagbmadlaa
