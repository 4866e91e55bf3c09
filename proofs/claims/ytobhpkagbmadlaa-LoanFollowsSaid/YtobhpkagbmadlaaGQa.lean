/-
  Texts Cu1, Cu2, Cu3 of this claim, put together.
-/
import Derived.Test.YtobhpkagbmadlaaGH
import Derived.Test.YtobhpkagbmadlaaGFl
import Derived.Test.YtobhpkagbmadlaaGP
import Derived.Test.YtobhpkagbmadlaaGI
/-
  Taken: the loans that a function's points take.
-/
set_option linter.unusedSimpArgs false
set_option linter.unusedVariables false
namespace Go.Proofs.Ytobhpkagbmadlaa
open Go Go.Lg Go.RowKit
set_option linter.unusedVariables false
set_option linter.unusedSimpArgs false

theorem path_of {m : Mir} (h : greatB m = false) : ∀ x ∈ m.code, x.val.path.steps.length ≤ 20 ∧ x.to.steps.length ≤ 20 := by
  simp only [greatB, Bool.or_eq_false_iff, List.any_eq_false, greatI] at h
  intro x hx
  have := h.2 x hx
  simp at this
  omega
set_option maxHeartbeats 1000000 in
theorem taken_ret (m : Mir) (hm : m.ok) (hgr : greatB m = false) : PRet Try.prog 28 [.agg m.cells] (encL MLoan.cells (if mayB m = true then loansOf m else [])) := by
  refine pret_intro_l fd28 (by simp) ?_
  simp only [lc28, VC0, VC1, VC2, VC3, VC4, VC5, VC6, VC7, VC8, reduceIte, reduceCtorEq, Nat.reduceEqDiff, Nat.reduceAdd, Nat.reduceMul, Nat.reduceBEq, Nat.reduceLT, Nat.reduceLeDiff, Int.reduceEq, Int.reduceLT, Int.reduceLE, Int.reduceNeg, Int.reduceToNat, Int.reduceAdd, Nat.reduceDiv, Nat.reduceSub, Nat.reduceMod, encL, MC0, MC1, MC2]
  refine callX_of (may_ret m hm) (.inr rfl) ?_
  by_cases hmay : mayB m = true
  case neg =>
    have hmay : mayB m = false := by simpa using hmay
    simp only [VC0, VC1, VC2, VC3, VC4, VC5, VC6, VC7, VC8, reduceIte, reduceCtorEq, Nat.reduceEqDiff, Nat.reduceAdd, Nat.reduceMul, Nat.reduceBEq, Nat.reduceLT, Nat.reduceLeDiff, Int.reduceEq, Int.reduceLT, Int.reduceLE, Int.reduceNeg, Int.reduceToNat, Int.reduceAdd, Nat.reduceDiv, Nat.reduceSub, Nat.reduceMod, encL, MC0, MC1, MC2, hmay]
    rfl
  simp only [VC0, VC1, VC2, VC3, VC4, VC5, VC6, VC7, VC8, reduceIte, reduceCtorEq, Nat.reduceEqDiff, Nat.reduceAdd, Nat.reduceMul, Nat.reduceBEq, Nat.reduceLT, Nat.reduceLeDiff, Int.reduceEq, Int.reduceLT, Int.reduceLE, Int.reduceNeg, Int.reduceToNat, Int.reduceAdd, Nat.reduceDiv, Nat.reduceSub, Nat.reduceMod, encL, MC0, MC1, MC2, hmay]
  have hn : m.code.length ≤ 6000 := by
    simp only [mayB, Bool.and_eq_true] at hmay
    obtain ⟨⟨⟨h1, _⟩, _⟩, _⟩ := hmay
    simp only [mayHead, inB, Bool.and_eq_true, decide_eq_true_eq] at h1
    omega
  have hpath := path_of hgr
  refine loop_vcg (ι := Nat × (Nat → Nat)) (fun (k, c) => stO [(3, .ownF 5 (loansS 0 (m.code.take k)).length ((loansS 0 (m.code.take k)).flatMap MLoan.cells)), (12, .val (encL MInst.cells m.code)), (13, .val (.int .i64 m.code.length)), (14, .val (.int .i64 k))] c)
    (fun (k, _) => k ≤ m.code.length) (fun (k, _) => m.code.length - k) (0, _) (Nat.zero_le _) (ent_of _ [] rfl rfl (by simp only [VC0, VC1, VC2, VC3, VC4, VC5, VC6, VC7, VC8, reduceIte, reduceCtorEq, Nat.reduceEqDiff, Nat.reduceAdd, Nat.reduceMul, Nat.reduceBEq, Nat.reduceLT, Nat.reduceLeDiff, Int.reduceEq, Int.reduceLT, Int.reduceLE, Int.reduceNeg, Int.reduceToNat, Int.reduceAdd, Nat.reduceDiv, Nat.reduceSub, Nat.reduceMod, encL, MC0, MC1, MC2, List.take_zero, loansS, List.flatMap_nil])) ?_
  rintro ⟨k, c⟩ hk
  have hk : k ≤ m.code.length := hk
  simp only [VC0, VC1, VC2, VC3, VC4, VC5, VC6, VC7, VC8, reduceIte, reduceCtorEq, Nat.reduceEqDiff, Nat.reduceAdd, Nat.reduceMul, Nat.reduceBEq, Nat.reduceLT, Nat.reduceLeDiff, Int.reduceEq, Int.reduceLT, Int.reduceLE, Int.reduceNeg, Int.reduceToNat, Int.reduceAdd, Nat.reduceDiv, Nat.reduceSub, Nat.reduceMod, encL, MC0, MC1, MC2]
  refine condD_of (fun h => ?_) (fun h => ?_)
  · have hk' : k < m.code.length := by omega
    have i1 : 0 ≤ (k : Int) ∧ (k : Int) < m.code.length := by omega
    have i2 : InI64 ((k : Int) + 1) := by unfold InI64; omega
    have hl : (loansS 0 (m.code.take k)).length ≤ k := Nat.le_trans (loansS_len _ _) (by simp; omega)
    have hst := hpath _ (List.getElem_mem hk')
    have hnx := loans_next hk'
    simp only [VC0, VC1, VC2, VC3, VC4, VC5, VC6, VC7, VC8, reduceIte, reduceCtorEq, Nat.reduceEqDiff, Nat.reduceAdd, Nat.reduceMul, Nat.reduceBEq, Nat.reduceLT, Nat.reduceLeDiff, Int.reduceEq, Int.reduceLT, Int.reduceLE, Int.reduceNeg, Int.reduceToNat, Int.reduceAdd, Nat.reduceDiv, Nat.reduceSub, Nat.reduceMod, encL, MC0, MC1, MC2, hk', i1]
    cases b1 : decide (m.code[k].kind = 1) <;> simp only [VC0, VC1, VC2, VC3, VC4, VC5, VC6, VC7, VC8, reduceIte, reduceCtorEq, Nat.reduceEqDiff, Nat.reduceAdd, Nat.reduceMul, Nat.reduceBEq, Nat.reduceLT, Nat.reduceLeDiff, Int.reduceEq, Int.reduceLT, Int.reduceLE, Int.reduceNeg, Int.reduceToNat, Int.reduceAdd, Nat.reduceDiv, Nat.reduceSub, Nat.reduceMod, encL, MC0, MC1, MC2, b1, i2]
    · have ht : takes m.code[k] = false := by rw [takes, b1]; rfl
      exact backTo_of (k + 1, _) hk' (by simp only []; omega) (ent_of _ [] rfl rfl (by simp only [VC0, VC1, VC2, VC3, VC4, VC5, VC6, VC7, VC8, reduceIte, reduceCtorEq, Nat.reduceEqDiff, Nat.reduceAdd, Nat.reduceMul, Nat.reduceBEq, Nat.reduceLT, Nat.reduceLeDiff, Int.reduceEq, Int.reduceLT, Int.reduceLE, Int.reduceNeg, Int.reduceToNat, Int.reduceAdd, Nat.reduceDiv, Nat.reduceSub, Nat.reduceMod, encL, MC0, MC1, MC2, lo_snap, hnx, ht, List.append_nil]))
    · cases b2 : decide (m.code[k].val.kind = 2) <;> simp only [VC0, VC1, VC2, VC3, VC4, VC5, VC6, VC7, VC8, reduceIte, reduceCtorEq, Nat.reduceEqDiff, Nat.reduceAdd, Nat.reduceMul, Nat.reduceBEq, Nat.reduceLT, Nat.reduceLeDiff, Int.reduceEq, Int.reduceLT, Int.reduceLE, Int.reduceNeg, Int.reduceToNat, Int.reduceAdd, Nat.reduceDiv, Nat.reduceSub, Nat.reduceMod, encL, MC0, MC1, MC2, b2, i2]
      · cases b3 : decide (m.code[k].val.kind = 3) <;> simp only [VC0, VC1, VC2, VC3, VC4, VC5, VC6, VC7, VC8, reduceIte, reduceCtorEq, Nat.reduceEqDiff, Nat.reduceAdd, Nat.reduceMul, Nat.reduceBEq, Nat.reduceLT, Nat.reduceLeDiff, Int.reduceEq, Int.reduceLT, Int.reduceLE, Int.reduceNeg, Int.reduceToNat, Int.reduceAdd, Nat.reduceDiv, Nat.reduceSub, Nat.reduceMod, encL, MC0, MC1, MC2, b3, i2]
        · have ht : takes m.code[k] = false := by rw [takes, b1, b2, b3]; rfl
          exact backTo_of (k + 1, _) hk' (by simp only []; omega) (ent_of _ [] rfl rfl (by simp only [VC0, VC1, VC2, VC3, VC4, VC5, VC6, VC7, VC8, reduceIte, reduceCtorEq, Nat.reduceEqDiff, Nat.reduceAdd, Nat.reduceMul, Nat.reduceBEq, Nat.reduceLT, Nat.reduceLeDiff, Int.reduceEq, Int.reduceLT, Int.reduceLE, Int.reduceNeg, Int.reduceToNat, Int.reduceAdd, Nat.reduceDiv, Nat.reduceSub, Nat.reduceMod, encL, MC0, MC1, MC2, lo_snap, hnx, ht, List.append_nil]))
        · have ht : takes m.code[k] = true := by rw [takes, b1, b2, b3]; rfl
          simp only [VC0, VC1, VC2, VC3, VC4, VC5, VC6, VC7, VC8, reduceIte, reduceCtorEq, Nat.reduceEqDiff, Nat.reduceAdd, Nat.reduceMul, Nat.reduceBEq, Nat.reduceLT, Nat.reduceLeDiff, Int.reduceEq, Int.reduceLT, Int.reduceLE, Int.reduceNeg, Int.reduceToNat, Int.reduceAdd, Nat.reduceDiv, Nat.reduceSub, Nat.reduceMod, encL, MC0, MC1, MC2, b3, sc_0, sc_1, sc_2, sc_32, sc_20, sc_50, ld_20, List.all_cons, List.all_nil, List.length_cons, List.length_nil, Bool.and_true, ls_take, ls_snap, lo_len, List.take_succ_cons, List.take_zero, i2]
          refine ⟨⟨by omega, by omega⟩, ⟨by omega, by omega⟩, backTo_of (k + 1, _) hk' (by simp only []; omega) (ent_of _ [(36870, 0)] rfl rfl ?_)⟩
          simp only [VC0, VC1, VC2, VC3, VC4, VC5, VC6, VC7, VC8, reduceIte, reduceCtorEq, Nat.reduceEqDiff, Nat.reduceAdd, Nat.reduceMul, Nat.reduceBEq, Nat.reduceLT, Nat.reduceLeDiff, Int.reduceEq, Int.reduceLT, Int.reduceLE, Int.reduceNeg, Int.reduceToNat, Int.reduceAdd, Nat.reduceDiv, Nat.reduceSub, Nat.reduceMod, encL, MC0, MC1, MC2, lo_snap, ls_snap, ls_take (Nat.le_of_eq rfl), hnx, ht, b3, if_true, loanAt, lo_app, List.map_append, List.map_cons, List.map_nil, List.take_length, List.mem_cons, List.not_mem_nil, or_false, or_true, true_or, false_or, List.take_succ_cons, List.take_zero]
      · have ht : takes m.code[k] = true := by rw [takes, b1, b2]; rfl
        simp only [VC0, VC1, VC2, VC3, VC4, VC5, VC6, VC7, VC8, reduceIte, reduceCtorEq, Nat.reduceEqDiff, Nat.reduceAdd, Nat.reduceMul, Nat.reduceBEq, Nat.reduceLT, Nat.reduceLeDiff, Int.reduceEq, Int.reduceLT, Int.reduceLE, Int.reduceNeg, Int.reduceToNat, Int.reduceAdd, Nat.reduceDiv, Nat.reduceSub, Nat.reduceMod, encL, MC0, MC1, MC2, sc_0, sc_1, sc_2, sc_32, sc_20, sc_50, ld_20, List.all_cons, List.all_nil, List.length_cons, List.length_nil, Bool.and_true, ls_take, ls_snap, lo_len, List.take_succ_cons, List.take_zero, i2]
        refine ⟨⟨by omega, by omega⟩, ⟨by omega, by omega⟩, backTo_of (k + 1, _) hk' (by simp only []; omega) (ent_of _ [(36870, 0)] rfl rfl ?_)⟩
        simp only [VC0, VC1, VC2, VC3, VC4, VC5, VC6, VC7, VC8, reduceIte, reduceCtorEq, Nat.reduceEqDiff, Nat.reduceAdd, Nat.reduceMul, Nat.reduceBEq, Nat.reduceLT, Nat.reduceLeDiff, Int.reduceEq, Int.reduceLT, Int.reduceLE, Int.reduceNeg, Int.reduceToNat, Int.reduceAdd, Nat.reduceDiv, Nat.reduceSub, Nat.reduceMod, encL, MC0, MC1, MC2, lo_snap, ls_snap, ls_take (Nat.le_of_eq rfl), hnx, ht, if_true, loanAt, lo_app, List.map_append, List.map_cons, List.map_nil, List.take_length, List.mem_cons, List.not_mem_nil, or_false, or_true, true_or, false_or, List.take_succ_cons, List.take_zero]
  · have hk' : k = m.code.length := by omega
    subst hk'
    simp only [VC0, VC1, VC2, VC3, VC4, VC5, VC6, VC7, VC8, reduceIte, reduceCtorEq, Nat.reduceEqDiff, Nat.reduceAdd, Nat.reduceMul, Nat.reduceBEq, Nat.reduceLT, Nat.reduceLeDiff, Int.reduceEq, Int.reduceLT, Int.reduceLE, Int.reduceNeg, Int.reduceToNat, Int.reduceAdd, Nat.reduceDiv, Nat.reduceSub, Nat.reduceMod, encL, MC0, MC1, MC2, List.take_length, lo_snap, lo_len]
    rw [List.take_of_length_le (by rw [lo_len]; exact Nat.le_refl _), lo_snap]
    exact ⟨rfl, rfl⟩
end Go.Proofs.Ytobhpkagbmadlaa

/-
  What ends a loan: paths that begin alike. Has.
-/
set_option linter.unusedSimpArgs false
set_option linter.unusedVariables false
namespace Go.Proofs.Ytobhpkagbmadlaa
open Go Go.Lg Go.RowKit
set_option linter.unusedVariables false
set_option linter.unusedSimpArgs false

theorem str_eq (a b : ByteArray) : (a.toList == b.toList) = decide (a = b) := by
  rw [ByteArray.toList_eq, ByteArray.toList_eq, Bool.eq_iff_iff]
  simp only [beq_iff_eq, decide_eq_true_eq]
  constructor
  · intro h
    cases a; cases b
    simp only at h
    congr 1
    exact Array.toList_inj.1 h
  · rintro rfl; rfl

theorem equalS_ret (a b : List ByteArray) (ha : a.length ≤ 1000000) : PRet Try.prog 62 [encL cS a, encL cS b] (.bool (decide (a = b))) := by
  refine pret_intro fd62 (by simp) ?_
  simp only [lc62, VC0, VC1, VC2, VC3, VC4, VC5, VC6, VC7, VC8, reduceIte, reduceCtorEq, Nat.reduceEqDiff, Nat.reduceAdd, Nat.reduceMul, Nat.reduceBEq, Nat.reduceLT, Nat.reduceLeDiff, Int.reduceEq, Int.reduceLT, Int.reduceLE, Int.reduceNeg, Int.reduceToNat, Int.reduceAdd, Nat.reduceDiv, Nat.reduceSub, Nat.reduceMod, encL, MC0, MC1, MC2]
  cases b0 : decide ((a.length : Int) = b.length) <;> simp only [VC0, VC1, VC2, VC3, VC4, VC5, VC6, VC7, VC8, reduceIte, reduceCtorEq, Nat.reduceEqDiff, Nat.reduceAdd, Nat.reduceMul, Nat.reduceBEq, Nat.reduceLT, Nat.reduceLeDiff, Int.reduceEq, Int.reduceLT, Int.reduceLE, Int.reduceNeg, Int.reduceToNat, Int.reduceAdd, Nat.reduceDiv, Nat.reduceSub, Nat.reduceMod, encL, MC0, MC1, MC2, b0]
  · have : decide (a = b) = false := decide_eq_false (by rintro rfl; simp at b0)
    rw [this]
  have hab : a.length = b.length := by have := of_decide_eq_true b0; omega
  refine loop_vcg (ι := Nat × (Nat → Nat)) (fun (k, c) => stO [(0, .val (encL cS a)), (1, .val (encL cS b)), (12, .val (.int .i64 a.length)), (13, .val (.int .i64 k))] c)
    (fun (k, _) => k ≤ a.length ∧ decide (a.drop k = b.drop k) = decide (a = b)) (fun (k, _) => a.length - k) (0, _) ⟨Nat.zero_le _, rfl⟩ (ent_of _ [] rfl rfl (by simp only [VC0, VC1, VC2, VC3, VC4, VC5, VC6, VC7, VC8, reduceIte, reduceCtorEq, Nat.reduceEqDiff, Nat.reduceAdd, Nat.reduceMul, Nat.reduceBEq, Nat.reduceLT, Nat.reduceLeDiff, Int.reduceEq, Int.reduceLT, Int.reduceLE, Int.reduceNeg, Int.reduceToNat, Int.reduceAdd, Nat.reduceDiv, Nat.reduceSub, Nat.reduceMod, encL, MC0, MC1, MC2])) ?_
  rintro ⟨k, c⟩ hk
  obtain ⟨hk, hb⟩ : k ≤ a.length ∧ decide (a.drop k = b.drop k) = decide (a = b) := hk
  simp only [VC0, VC1, VC2, VC3, VC4, VC5, VC6, VC7, VC8, reduceIte, reduceCtorEq, Nat.reduceEqDiff, Nat.reduceAdd, Nat.reduceMul, Nat.reduceBEq, Nat.reduceLT, Nat.reduceLeDiff, Int.reduceEq, Int.reduceLT, Int.reduceLE, Int.reduceNeg, Int.reduceToNat, Int.reduceAdd, Nat.reduceDiv, Nat.reduceSub, Nat.reduceMod, encL, MC0, MC1, MC2]
  refine condD_of (fun h => ?_) (fun h => ?_)
  · have ha' : k < a.length := by omega
    have hb' : k < b.length := by omega
    have h1 : 0 ≤ (k : Int) ∧ (k : Int) < a.length := by omega
    have h2 : 0 ≤ (k : Int) ∧ (k : Int) < b.length := by omega
    have i2 : InI64 ((k : Int) + 1) := by unfold InI64; omega
    rw [List.drop_eq_getElem_cons ha', List.drop_eq_getElem_cons hb'] at hb
    simp only [VC0, VC1, VC2, VC3, VC4, VC5, VC6, VC7, VC8, reduceIte, reduceCtorEq, Nat.reduceEqDiff, Nat.reduceAdd, Nat.reduceMul, Nat.reduceBEq, Nat.reduceLT, Nat.reduceLeDiff, Int.reduceEq, Int.reduceLT, Int.reduceLE, Int.reduceNeg, Int.reduceToNat, Int.reduceAdd, Nat.reduceDiv, Nat.reduceSub, Nat.reduceMod, encL, MC0, MC1, MC2, ha', hb', h1, h2, str_eq]
    cases b1 : decide (a[k] = b[k]) <;> simp only [VC0, VC1, VC2, VC3, VC4, VC5, VC6, VC7, VC8, reduceIte, reduceCtorEq, Nat.reduceEqDiff, Nat.reduceAdd, Nat.reduceMul, Nat.reduceBEq, Nat.reduceLT, Nat.reduceLeDiff, Int.reduceEq, Int.reduceLT, Int.reduceLE, Int.reduceNeg, Int.reduceToNat, Int.reduceAdd, Nat.reduceDiv, Nat.reduceSub, Nat.reduceMod, encL, MC0, MC1, MC2, b1, i2]
    · have : decide (a = b) = false := by
        rw [← hb]
        exact decide_eq_false (by intro e; injection e with e1; exact of_decide_eq_false b1 e1)
      rw [this]
    · refine backTo_of (k + 1, _) ⟨ha', ?_⟩ (by simp only []; omega) (ent_of _ [] rfl rfl (by simp only [VC0, VC1, VC2, VC3, VC4, VC5, VC6, VC7, VC8, reduceIte, reduceCtorEq, Nat.reduceEqDiff, Nat.reduceAdd, Nat.reduceMul, Nat.reduceBEq, Nat.reduceLT, Nat.reduceLeDiff, Int.reduceEq, Int.reduceLT, Int.reduceLE, Int.reduceNeg, Int.reduceToNat, Int.reduceAdd, Nat.reduceDiv, Nat.reduceSub, Nat.reduceMod, encL, MC0, MC1, MC2]))
      have e := of_decide_eq_true b1
      rw [← hb, e, Bool.eq_iff_iff, decide_eq_true_eq, decide_eq_true_eq]
      exact ⟨fun q => congrArg _ q, fun q => by injection q⟩
  · have hk' : k = a.length := by omega
    subst hk'
    rw [List.drop_length, hab, List.drop_length] at hb
    simp only [VC0, VC1, VC2, VC3, VC4, VC5, VC6, VC7, VC8, reduceIte, reduceCtorEq, Nat.reduceEqDiff, Nat.reduceAdd, Nat.reduceMul, Nat.reduceBEq, Nat.reduceLT, Nat.reduceLeDiff, Int.reduceEq, Int.reduceLT, Int.reduceLE, Int.reduceNeg, Int.reduceToNat, Int.reduceAdd, Nat.reduceDiv, Nat.reduceSub, Nat.reduceMod, encL, MC0, MC1, MC2, ← hb]

theorem ls_tk (n : Nat) : ∀ (l : List ByteArray), (l.flatMap cS).take n = (l.take n).flatMap cS := by
  induction n with
  | zero => intro l; simp
  | succ n ih => intro l; cases l with
    | nil => simp
    | cons x l => simp only [List.flatMap_cons, cS, List.take_succ_cons, List.singleton_append]; rw [ih]
theorem pref_ret (a b : MPath) (ha : a.steps.length ≤ 1000) : PRet Try.prog 49 [.agg a.cells, .agg b.cells] (.bool (prefS a b)) := by
  refine pret_intro fd49 (by simp) ?_
  simp only [lc49, VC0, VC1, VC2, VC3, VC4, VC5, VC6, VC7, VC8, reduceIte, reduceCtorEq, Nat.reduceEqDiff, Nat.reduceAdd, Nat.reduceMul, Nat.reduceBEq, Nat.reduceLT, Nat.reduceLeDiff, Int.reduceEq, Int.reduceLT, Int.reduceLE, Int.reduceNeg, Int.reduceToNat, Int.reduceAdd, Nat.reduceDiv, Nat.reduceSub, Nat.reduceMod, encL, MC0, MC1, MC2]
  cases b1 : decide (a.loc = b.loc) <;> simp only [VC0, VC1, VC2, VC3, VC4, VC5, VC6, VC7, VC8, reduceIte, reduceCtorEq, Nat.reduceEqDiff, Nat.reduceAdd, Nat.reduceMul, Nat.reduceBEq, Nat.reduceLT, Nat.reduceLeDiff, Int.reduceEq, Int.reduceLT, Int.reduceLE, Int.reduceNeg, Int.reduceToNat, Int.reduceAdd, Nat.reduceDiv, Nat.reduceSub, Nat.reduceMod, encL, MC0, MC1, MC2, b1]
  · rw [prefS, b1, Bool.false_and]
  cases b2 : decide ((a.steps.length : Int) ≤ b.steps.length) <;> simp only [VC0, VC1, VC2, VC3, VC4, VC5, VC6, VC7, VC8, reduceIte, reduceCtorEq, Nat.reduceEqDiff, Nat.reduceAdd, Nat.reduceMul, Nat.reduceBEq, Nat.reduceLT, Nat.reduceLeDiff, Int.reduceEq, Int.reduceLT, Int.reduceLE, Int.reduceNeg, Int.reduceToNat, Int.reduceAdd, Nat.reduceDiv, Nat.reduceSub, Nat.reduceMod, encL, MC0, MC1, MC2, b2]
  · have : decide (a.steps.length ≤ b.steps.length) = false := decide_eq_false (by have := of_decide_eq_false b2; omega)
    rw [prefS, this]; simp
  have hle : a.steps.length ≤ b.steps.length := by have := of_decide_eq_true b2; omega
  have hlen : (b.steps.take a.steps.length).length = a.steps.length := by simp; omega
  have h := equalS_ret a.steps (b.steps.take a.steps.length) (by omega)
  simp only [encL, hlen] at h
  rw [ls_tk]
  refine And.intro ⟨by omega, by omega, by omega⟩ ?_
  refine callV_of h (.inl rfl) ?_
  have b3 : decide (a.steps.length ≤ b.steps.length) = true := decide_eq_true hle
  simp only [VC0, VC1, VC2, VC3, VC4, VC5, VC6, VC7, VC8, reduceIte, reduceCtorEq, Nat.reduceEqDiff, Nat.reduceAdd, Nat.reduceMul, Nat.reduceBEq, Nat.reduceLT, Nat.reduceLeDiff, Int.reduceEq, Int.reduceLT, Int.reduceLE, Int.reduceNeg, Int.reduceToNat, Int.reduceAdd, Nat.reduceDiv, Nat.reduceSub, Nat.reduceMod, encL, MC0, MC1, MC2]
  rw [prefS, b1, b3, Bool.true_and, Bool.true_and]

theorem ends_ret (l : MLoan) (x : MInst) (hx : x.to.steps.length ≤ 1000) : PRet Try.prog 31 [.agg l.cells, .agg x.cells] (.bool (endsS l x)) := by
  refine pret_intro fd31 (by simp) ?_
  simp only [lc31, VC0, VC1, VC2, VC3, VC4, VC5, VC6, VC7, VC8, reduceIte, reduceCtorEq, Nat.reduceEqDiff, Nat.reduceAdd, Nat.reduceMul, Nat.reduceBEq, Nat.reduceLT, Nat.reduceLeDiff, Int.reduceEq, Int.reduceLT, Int.reduceLE, Int.reduceNeg, Int.reduceToNat, Int.reduceAdd, Nat.reduceDiv, Nat.reduceSub, Nat.reduceMod, encL, MC0, MC1, MC2]
  cases b1 : decide (x.kind = 1) <;> simp only [VC0, VC1, VC2, VC3, VC4, VC5, VC6, VC7, VC8, reduceIte, reduceCtorEq, Nat.reduceEqDiff, Nat.reduceAdd, Nat.reduceMul, Nat.reduceBEq, Nat.reduceLT, Nat.reduceLeDiff, Int.reduceEq, Int.reduceLT, Int.reduceLE, Int.reduceNeg, Int.reduceToNat, Int.reduceAdd, Nat.reduceDiv, Nat.reduceSub, Nat.reduceMod, encL, MC0, MC1, MC2, b1]
  · rw [endsS, b1, Bool.false_and]
  cases b2 : x.has <;> simp only [VC0, VC1, VC2, VC3, VC4, VC5, VC6, VC7, VC8, reduceIte, reduceCtorEq, Nat.reduceEqDiff, Nat.reduceAdd, Nat.reduceMul, Nat.reduceBEq, Nat.reduceLT, Nat.reduceLeDiff, Int.reduceEq, Int.reduceLT, Int.reduceLE, Int.reduceNeg, Int.reduceToNat, Int.reduceAdd, Nat.reduceDiv, Nat.reduceSub, Nat.reduceMod, encL, MC0, MC1, MC2, b2]
  · rw [endsS, b2]; simp
  simp only [VC0, VC1, VC2, VC3, VC4, VC5, VC6, VC7, VC8, reduceIte, reduceCtorEq, Nat.reduceEqDiff, Nat.reduceAdd, Nat.reduceMul, Nat.reduceBEq, Nat.reduceLT, Nat.reduceLeDiff, Int.reduceEq, Int.reduceLT, Int.reduceLE, Int.reduceNeg, Int.reduceToNat, Int.reduceAdd, Nat.reduceDiv, Nat.reduceSub, Nat.reduceMod, encL, MC0, MC1, MC2, MLoan.s3_2]
  refine callX_of (pref_ret x.to l.path hx) (.inl rfl) ?_
  simp only [VC0, VC1, VC2, VC3, VC4, VC5, VC6, VC7, VC8, reduceIte, reduceCtorEq, Nat.reduceEqDiff, Nat.reduceAdd, Nat.reduceMul, Nat.reduceBEq, Nat.reduceLT, Nat.reduceLeDiff, Int.reduceEq, Int.reduceLT, Int.reduceLE, Int.reduceNeg, Int.reduceToNat, Int.reduceAdd, Nat.reduceDiv, Nat.reduceSub, Nat.reduceMod, encL, MC0, MC1, MC2]
  rw [endsS, b1, b2, Bool.true_and, Bool.true_and]

theorem has22_ret (l : List Int) (x : Int) (hl : l.length ≤ 1000000) : PRet Try.prog 30 [encL cI l, .int .i64 x] (.bool (l.any fun y => decide (y = x))) := by
  refine pret_intro fd30 (by simp) ?_
  simp only [lc30, VC0, VC1, VC2, VC3, VC4, VC5, VC6, VC7, VC8, reduceIte, reduceCtorEq, Nat.reduceEqDiff, Nat.reduceAdd, Nat.reduceMul, Nat.reduceBEq, Nat.reduceLT, Nat.reduceLeDiff, Int.reduceEq, Int.reduceLT, Int.reduceLE, Int.reduceNeg, Int.reduceToNat, Int.reduceAdd, Nat.reduceDiv, Nat.reduceSub, Nat.reduceMod, encL, MC0, MC1, MC2]
  refine loop_vcg (ι := Nat × (Nat → Nat)) (fun (k, c) => stO [(0, .val (encL cI l)), (1, .val (.int .i64 x)), (5, .val (.int .i64 k))] c)
    (fun (k, _) => k ≤ l.length ∧ (l.drop k).any (fun y => decide (y = x)) = l.any fun y => decide (y = x)) (fun (k, _) => l.length - k) (0, _) ⟨by omega, rfl⟩ (ent_of _ [] rfl rfl (by simp only [VC0, VC1, VC2, VC3, VC4, VC5, VC6, VC7, VC8, reduceIte, reduceCtorEq, Nat.reduceEqDiff, Nat.reduceAdd, Nat.reduceMul, Nat.reduceBEq, Nat.reduceLT, Nat.reduceLeDiff, Int.reduceEq, Int.reduceLT, Int.reduceLE, Int.reduceNeg, Int.reduceToNat, Int.reduceAdd, Nat.reduceDiv, Nat.reduceSub, Nat.reduceMod, encL, MC0, MC1, MC2])) ?_
  rintro ⟨k, c⟩ ⟨hk, hb⟩
  simp only [VC0, VC1, VC2, VC3, VC4, VC5, VC6, VC7, VC8, reduceIte, reduceCtorEq, Nat.reduceEqDiff, Nat.reduceAdd, Nat.reduceMul, Nat.reduceBEq, Nat.reduceLT, Nat.reduceLeDiff, Int.reduceEq, Int.reduceLT, Int.reduceLE, Int.reduceNeg, Int.reduceToNat, Int.reduceAdd, Nat.reduceDiv, Nat.reduceSub, Nat.reduceMod, encL, MC0, MC1, MC2]
  refine condD_of (fun h => ?_) (fun h => ?_)
  · have ha' : k < l.length := by omega
    have hin : 0 ≤ (k : Int) ∧ (k : Int) < l.length := by omega
    rw [any_drop _ _ _ ha'] at hb
    simp only [VC0, VC1, VC2, VC3, VC4, VC5, VC6, VC7, VC8, reduceIte, reduceCtorEq, Nat.reduceEqDiff, Nat.reduceAdd, Nat.reduceMul, Nat.reduceBEq, Nat.reduceLT, Nat.reduceLeDiff, Int.reduceEq, Int.reduceLT, Int.reduceLE, Int.reduceNeg, Int.reduceToNat, Int.reduceAdd, Nat.reduceDiv, Nat.reduceSub, Nat.reduceMod, encL, MC0, MC1, MC2, ha', hin]
    refine condD_of (fun h => ?_) (fun h => ?_)
    · rw [decide_eq_true h, Bool.true_or] at hb
      simp only [VC0, VC1, VC2, VC3, VC4, VC5, VC6, VC7, VC8, reduceIte, reduceCtorEq, Nat.reduceEqDiff, Nat.reduceAdd, Nat.reduceMul, Nat.reduceBEq, Nat.reduceLT, Nat.reduceLeDiff, Int.reduceEq, Int.reduceLT, Int.reduceLE, Int.reduceNeg, Int.reduceToNat, Int.reduceAdd, Nat.reduceDiv, Nat.reduceSub, Nat.reduceMod, encL, MC0, MC1, MC2, ← hb]
    · rw [decide_eq_false h, Bool.false_or] at hb
      simp only [VC0, VC1, VC2, VC3, VC4, VC5, VC6, VC7, VC8, reduceIte, reduceCtorEq, Nat.reduceEqDiff, Nat.reduceAdd, Nat.reduceMul, Nat.reduceBEq, Nat.reduceLT, Nat.reduceLeDiff, Int.reduceEq, Int.reduceLT, Int.reduceLE, Int.reduceNeg, Int.reduceToNat, Int.reduceAdd, Nat.reduceDiv, Nat.reduceSub, Nat.reduceMod, encL, MC0, MC1, MC2]
      exact And.intro (by unfold InI64; omega) (backTo_of (k + 1, _) ⟨by omega, hb⟩ (by simp only []; omega) (ent_of _ [] rfl rfl (by simp only [VC0, VC1, VC2, VC3, VC4, VC5, VC6, VC7, VC8, reduceIte, reduceCtorEq, Nat.reduceEqDiff, Nat.reduceAdd, Nat.reduceMul, Nat.reduceBEq, Nat.reduceLT, Nat.reduceLeDiff, Int.reduceEq, Int.reduceLT, Int.reduceLE, Int.reduceNeg, Int.reduceToNat, Int.reduceAdd, Nat.reduceDiv, Nat.reduceSub, Nat.reduceMod, encL, MC0, MC1, MC2])))
  · have hk' : k = l.length := by omega
    subst hk'
    simp only [List.drop_length, List.any_nil] at hb
    simp only [VC0, VC1, VC2, VC3, VC4, VC5, VC6, VC7, VC8, reduceIte, reduceCtorEq, Nat.reduceEqDiff, Nat.reduceAdd, Nat.reduceMul, Nat.reduceBEq, Nat.reduceLT, Nat.reduceLeDiff, Int.reduceEq, Int.reduceLT, Int.reduceLE, Int.reduceNeg, Int.reduceToNat, Int.reduceAdd, Nat.reduceDiv, Nat.reduceSub, Nat.reduceMod, encL, MC0, MC1, MC2, ← hb]
end Go.Proofs.Ytobhpkagbmadlaa

/-
  Where regions last, out of any bits: rows of bools.
-/
set_option linter.unusedSimpArgs false
set_option linter.unusedVariables false
namespace Go.Proofs.Ytobhpkagbmadlaa
open Go Go.Lg Go.RowKit
set_option linter.unusedVariables false
set_option linter.unusedSimpArgs false

def fitRow (N : Nat) (bits : List Bool) (r : Nat) : List Bool := (List.range N).map fun p => bits.getD (r * N + p) false
def fitRows (N : Nat) (bits : List Bool) (r : Nat) : List (List Bool) := (List.range r).map (fitRow N bits)
theorem fitRows_succ (N : Nat) (bits : List Bool) (r : Nat) : fitRows N bits (r + 1) = fitRows N bits r ++ [fitRow N bits r] := by simp [fitRows, List.range_succ]
theorem fitRows_len (N : Nat) (bits : List Bool) (r : Nat) : (fitRows N bits r).length = r := by simp [fitRows]
theorem fitRow_len (N : Nat) (bits : List Bool) (r : Nat) : (fitRow N bits r).length = N := by simp [fitRow]
/-- A row under way. -/
def fitP (N : Nat) (bits : List Bool) (r p : Nat) : List Bool := (List.range N).map fun j => if j < p then bits.getD (r * N + j) false else false
theorem fitP_len (N : Nat) (bits : List Bool) (r p : Nat) : (fitP N bits r p).length = N := by simp [fitP]
theorem fitP_zero (N : Nat) (bits : List Bool) (r : Nat) : fitP N bits r 0 = List.replicate N false := by
  apply List.ext_getElem <;> simp [fitP]
theorem fitP_full (N : Nat) (bits : List Bool) (r : Nat) : fitP N bits r N = fitRow N bits r := by
  apply List.ext_getElem
  · simp [fitP, fitRow]
  · intro j h1 h2
    have : j < N := by simpa [fitP] using h1
    simp [fitP, fitRow, this]
theorem fitP_succ {N : Nat} {bits : List Bool} {r p : Nat} (h : p < N) : (fitP N bits r p).set p (bits.getD (r * N + p) false) = fitP N bits r (p + 1) := by
  apply List.ext_getElem
  · simp [fitP]
  · intro j h1 h2
    simp only [fitP, List.getElem_set, List.getElem_map, List.getElem_range]
    by_cases e : p = j
    · subst e; simp
    · rw [if_neg e]
      by_cases h3 : j < p
      · rw [if_pos h3, if_pos (by omega)]
      · rw [if_neg h3, if_neg (by omega)]

theorem fitc_len (R : List (List Bool)) : (R.flatMap (cL cB)).length = R.length := by
  induction R with
  | nil => rfl
  | cons x r ih => rw [List.flatMap_cons, List.length_append, ih]; simp [cL]; omega
theorem fitc_snap (H : Heap) (d : Nat) (R : List (List Bool)) : (R.flatMap (cL cB)).map (snap H (d + 1)) = R.flatMap (cL cB) := by
  induction R with
  | nil => rfl
  | cons x r ih => rw [List.flatMap_cons, List.map_append, ih]; rfl
theorem fitc_app (R : List (List Bool)) (x : List Bool) : R.flatMap (cL cB) ++ [.sl x.length (x.flatMap cB)] = (R ++ [x]).flatMap (cL cB) := by
  rw [List.flatMap_append]; rfl

set_option maxHeartbeats 1000000 in
theorem fit_ret (m : Mir) (hgr : greatB m = false) (hmay : mayB m = true) (bits : List Bool) (hb : bits.length ≤ maxLen) : PRet Try.prog 27 [.agg m.cells, encL cB bits] (encL (cL cB) (fitRows m.code.length bits m.regions.toNat)) := by
  have hN : m.code.length ≤ 60 := by simp [greatB] at hgr; omega
  have hR : m.regions ≤ 200 := by simp [greatB] at hgr; omega
  have hR0 : 0 ≤ m.regions := by
    simp only [mayB, Bool.and_eq_true] at hmay
    obtain ⟨⟨⟨h1, _⟩, _⟩, _⟩ := hmay
    simp [mayHead, inB] at h1
    omega
  rw [maxLen_eq] at hb
  generalize hNN : m.code.length = N at *
  obtain ⟨R, hRR⟩ : ∃ R : Nat, m.regions = R := ⟨m.regions.toNat, by omega⟩
  refine pret_intro_l fd27 (by simp) ?_
  simp only [lc27, VC0, VC1, VC2, VC3, VC4, VC5, VC6, VC7, VC8, reduceIte, reduceCtorEq, Nat.reduceEqDiff, Nat.reduceAdd, Nat.reduceMul, Nat.reduceBEq, Nat.reduceLT, Nat.reduceLeDiff, Int.reduceEq, Int.reduceLT, Int.reduceLE, Int.reduceNeg, Int.reduceToNat, Int.reduceAdd, Nat.reduceDiv, Nat.reduceSub, Nat.reduceMod, encL, MC0, MC1, MC2]
  refine loop_vcg (ι := Nat × (Nat → Nat)) (fun (r, c) => stO [(1, .val (encL cB bits)), (2, .box m.cells), (5, .ownF 1 r ((fitRows N bits r).flatMap (cL cB))), (6, .val (.int .i64 (r * N : Nat))), (7, .val (.int .i64 r))] c)
    (fun (r, _) => r ≤ R) (fun (r, _) => R - r) (0, _) (Nat.zero_le _) (ent_of _ [] rfl rfl (by simp only [VC0, VC1, VC2, VC3, VC4, VC5, VC6, VC7, VC8, reduceIte, reduceCtorEq, Nat.reduceEqDiff, Nat.reduceAdd, Nat.reduceMul, Nat.reduceBEq, Nat.reduceLT, Nat.reduceLeDiff, Int.reduceEq, Int.reduceLT, Int.reduceLE, Int.reduceNeg, Int.reduceToNat, Int.reduceAdd, Nat.reduceDiv, Nat.reduceSub, Nat.reduceMod, encL, MC0, MC1, MC2, fitRows, List.range_zero, List.map_nil, List.flatMap_nil, Nat.zero_mul])) ?_
  rintro ⟨r, c⟩ hr
  have hr : r ≤ R := hr
  simp only [VC0, VC1, VC2, VC3, VC4, VC5, VC6, VC7, VC8, reduceIte, reduceCtorEq, Nat.reduceEqDiff, Nat.reduceAdd, Nat.reduceMul, Nat.reduceBEq, Nat.reduceLT, Nat.reduceLeDiff, Int.reduceEq, Int.reduceLT, Int.reduceLE, Int.reduceNeg, Int.reduceToNat, Int.reduceAdd, Nat.reduceDiv, Nat.reduceSub, Nat.reduceMod, encL, MC0, MC1, MC2, hRR]
  refine condD_of (fun h => ?_) (fun h => ?_)
  · have hr' : r < R := by omega
    have hrn : r * N ≤ 200 * 60 := Nat.mul_le_mul (by omega) hN
    have i2 : InI64 ((r : Int) + 1) := by unfold InI64; omega
    simp only [VC0, VC1, VC2, VC3, VC4, VC5, VC6, VC7, VC8, reduceIte, reduceCtorEq, Nat.reduceEqDiff, Nat.reduceAdd, Nat.reduceMul, Nat.reduceBEq, Nat.reduceLT, Nat.reduceLeDiff, Int.reduceEq, Int.reduceLT, Int.reduceLE, Int.reduceNeg, Int.reduceToNat, Int.reduceAdd, Nat.reduceDiv, Nat.reduceSub, Nat.reduceMod, encL, MC0, MC1, MC2, hNN]
    refine And.intro (by omega) ?_
    refine loop_vcg (ι := Nat × (Nat → Nat)) (fun (p, c) => stO [(1, .val (encL cB bits)), (2, .box m.cells), (5, .ownF 1 r ((fitRows N bits r).flatMap (cL cB))), (6, .val (.int .i64 (r * N + p : Nat))), (7, .val (.int .i64 r)), (8, .own 1 N ((fitP N bits r p).flatMap cB)), (9, .val (.int .i64 p))] c)
      (fun (p, _) => p ≤ N) (fun (p, _) => N - p) (0, _) (Nat.zero_le _) (ent_of _ [] rfl rfl (by simp only [VC0, VC1, VC2, VC3, VC4, VC5, VC6, VC7, VC8, reduceIte, reduceCtorEq, Nat.reduceEqDiff, Nat.reduceAdd, Nat.reduceMul, Nat.reduceBEq, Nat.reduceLT, Nat.reduceLeDiff, Int.reduceEq, Int.reduceLT, Int.reduceLE, Int.reduceNeg, Int.reduceToNat, Int.reduceAdd, Nat.reduceDiv, Nat.reduceSub, Nat.reduceMod, encL, MC0, MC1, MC2, fitc_snap, fitP_zero])) ?_
    rintro ⟨p, c⟩ hp
    have hp : p ≤ N := hp
    simp only [VC0, VC1, VC2, VC3, VC4, VC5, VC6, VC7, VC8, reduceIte, reduceCtorEq, Nat.reduceEqDiff, Nat.reduceAdd, Nat.reduceMul, Nat.reduceBEq, Nat.reduceLT, Nat.reduceLeDiff, Int.reduceEq, Int.reduceLT, Int.reduceLE, Int.reduceNeg, Int.reduceToNat, Int.reduceAdd, Nat.reduceDiv, Nat.reduceSub, Nat.reduceMod, encL, MC0, MC1, MC2]
    refine condD_of (fun h => ?_) (fun h => ?_)
    · have hp' : p < N := by omega
      obtain ⟨q, hqe⟩ : ∃ q, q = r * N + p := ⟨_, rfl⟩
      have hq : q ≤ 12060 := by omega
      have hqI : ((r * N : Nat) : Int) + (p : Int) = (q : Int) := by omega
      have hl : (fitP N bits r p).length = N := fitP_len N bits r p
      have hpl : p < (fitP N bits r p).length := by omega
      have hpl' : p + 1 ≤ (fitP N bits r p).length := by omega
      have h1 : 0 ≤ (p : Int) ∧ (p : Int) < N := by omega
      have j2 : InI64 ((p : Int) + 1) := by unfold InI64; omega
      have j3 : InI64 ((q : Int) + 1) := by unfold InI64; omega
      have hset := fitP_succ (bits := bits) (r := r) hp'
      rw [← hqe] at hset
      simp only [VC0, VC1, VC2, VC3, VC4, VC5, VC6, VC7, VC8, reduceIte, reduceCtorEq, Nat.reduceEqDiff, Nat.reduceAdd, Nat.reduceMul, Nat.reduceBEq, Nat.reduceLT, Nat.reduceLeDiff, Int.reduceEq, Int.reduceLT, Int.reduceLE, Int.reduceNeg, Int.reduceToNat, Int.reduceAdd, Nat.reduceDiv, Nat.reduceSub, Nat.reduceMod, encL, MC0, MC1, MC2, hqI]
      cases b1 : decide ((q : Int) < bits.length) <;> simp only [VC0, VC1, VC2, VC3, VC4, VC5, VC6, VC7, VC8, reduceIte, reduceCtorEq, Nat.reduceEqDiff, Nat.reduceAdd, Nat.reduceMul, Nat.reduceBEq, Nat.reduceLT, Nat.reduceLeDiff, Int.reduceEq, Int.reduceLT, Int.reduceLE, Int.reduceNeg, Int.reduceToNat, Int.reduceAdd, Nat.reduceDiv, Nat.reduceSub, Nat.reduceMod, encL, MC0, MC1, MC2, hqI, b1, h1, j2, j3]
      · have hv : bits.getD q false = false := by
          have := of_decide_eq_false b1
          rw [List.getD_eq_getElem?_getD, List.getElem?_eq_none (by omega)]; rfl
        rw [hv] at hset
        try simp only [VC0, VC1, VC2, VC3, VC4, VC5, VC6, VC7, VC8, reduceIte, reduceCtorEq, Nat.reduceEqDiff, Nat.reduceAdd, Nat.reduceMul, Nat.reduceBEq, Nat.reduceLT, Nat.reduceLeDiff, Int.reduceEq, Int.reduceLT, Int.reduceLE, Int.reduceNeg, Int.reduceToNat, Int.reduceAdd, Nat.reduceDiv, Nat.reduceSub, Nat.reduceMod, encL, MC0, MC1, MC2, hpl', h1, j2, j3, lb_set hpl, hset]
        refine backTo_of (p + 1, _) hp' (by simp only []; omega) (ent_of _ [] rfl rfl ?_)
        simp only [VC0, VC1, VC2, VC3, VC4, VC5, VC6, VC7, VC8, reduceIte, reduceCtorEq, Nat.reduceEqDiff, Nat.reduceAdd, Nat.reduceMul, Nat.reduceBEq, Nat.reduceLT, Nat.reduceLeDiff, Int.reduceEq, Int.reduceLT, Int.reduceLE, Int.reduceNeg, Int.reduceToNat, Int.reduceAdd, Nat.reduceDiv, Nat.reduceSub, Nat.reduceMod, encL, MC0, MC1, MC2, fitc_snap, lb_set hpl, hset]
        omega
      · have hql : q < bits.length := by have := of_decide_eq_true b1; omega
        have h2 : 0 ≤ (q : Int) ∧ (q : Int) < bits.length := by omega
        have hv : bits.getD q false = bits[q] := by simp [hql]
        rw [hv] at hset
        try simp only [VC0, VC1, VC2, VC3, VC4, VC5, VC6, VC7, VC8, reduceIte, reduceCtorEq, Nat.reduceEqDiff, Nat.reduceAdd, Nat.reduceMul, Nat.reduceBEq, Nat.reduceLT, Nat.reduceLeDiff, Int.reduceEq, Int.reduceLT, Int.reduceLE, Int.reduceNeg, Int.reduceToNat, Int.reduceAdd, Nat.reduceDiv, Nat.reduceSub, Nat.reduceMod, encL, MC0, MC1, MC2, hpl', h1, h2, j2, j3, hql, lb_set hpl, hset]
        refine backTo_of (p + 1, _) hp' (by simp only []; omega) (ent_of _ [] rfl rfl ?_)
        simp only [VC0, VC1, VC2, VC3, VC4, VC5, VC6, VC7, VC8, reduceIte, reduceCtorEq, Nat.reduceEqDiff, Nat.reduceAdd, Nat.reduceMul, Nat.reduceBEq, Nat.reduceLT, Nat.reduceLeDiff, Int.reduceEq, Int.reduceLT, Int.reduceLE, Int.reduceNeg, Int.reduceToNat, Int.reduceAdd, Nat.reduceDiv, Nat.reduceSub, Nat.reduceMod, encL, MC0, MC1, MC2, fitc_snap, lb_set hpl, hset]
        omega
    · have hp' : p = N := by omega
      subst hp'
      have hlr : (fitRow p bits r).length = p := fitRow_len p bits r
      have happ : (fitRows p bits r).flatMap (cL cB) ++ [V.sl p ((fitRow p bits r).flatMap cB)] = (fitRows p bits r ++ [fitRow p bits r]).flatMap (cL cB) := by rw [← fitc_app, hlr]
      simp only [VC0, VC1, VC2, VC3, VC4, VC5, VC6, VC7, VC8, reduceIte, reduceCtorEq, Nat.reduceEqDiff, Nat.reduceAdd, Nat.reduceMul, Nat.reduceBEq, Nat.reduceLT, Nat.reduceLeDiff, Int.reduceEq, Int.reduceLT, Int.reduceLE, Int.reduceNeg, Int.reduceToNat, Int.reduceAdd, Nat.reduceDiv, Nat.reduceSub, Nat.reduceMod, encL, MC0, MC1, MC2, fitP_full, i2, fitc_len, fitRows_len, List.take_succ_cons, List.take_zero, List.all_cons, List.all_nil, Bool.and_true]
      refine And.intro (by omega) (backTo_of (r + 1, _) hr' (by simp only []; omega) (ent_of _ [(2199023255560, 0)] rfl rfl ?_))
      simp only [VC0, VC1, VC2, VC3, VC4, VC5, VC6, VC7, VC8, reduceIte, reduceCtorEq, Nat.reduceEqDiff, Nat.reduceAdd, Nat.reduceMul, Nat.reduceBEq, Nat.reduceLT, Nat.reduceLeDiff, Int.reduceEq, Int.reduceLT, Int.reduceLE, Int.reduceNeg, Int.reduceToNat, Int.reduceAdd, Nat.reduceDiv, Nat.reduceSub, Nat.reduceMod, encL, MC0, MC1, MC2, fitc_snap, List.map_append, List.map_cons, List.map_nil, List.take_succ_cons, List.take_zero, List.mem_cons, List.not_mem_nil, or_false, or_true, true_or, false_or, lb_snap, fitRows_succ, hlr, Nat.le_refl, lb_take (Nat.le_of_eq hlr), happ]
      rw [Nat.add_mul]; omega
  · have hr' : r = R := by omega
    subst hr'
    simp only [VC0, VC1, VC2, VC3, VC4, VC5, VC6, VC7, VC8, reduceIte, reduceCtorEq, Nat.reduceEqDiff, Nat.reduceAdd, Nat.reduceMul, Nat.reduceBEq, Nat.reduceLT, Nat.reduceLeDiff, Int.reduceEq, Int.reduceLT, Int.reduceLE, Int.reduceNeg, Int.reduceToNat, Int.reduceAdd, Nat.reduceDiv, Nat.reduceSub, Nat.reduceMod, encL, MC0, MC1, MC2, fitc_len, fitRows_len]
    rw [List.take_of_length_le (by rw [fitc_len, fitRows_len]; exact Nat.le_refl _), fitc_snap]
    try simp only [Int.toNat_natCast, VC0, VC1, VC2, VC3, VC4, VC5, VC6, VC7, VC8, reduceIte, reduceCtorEq, Nat.reduceEqDiff, Nat.reduceAdd, Nat.reduceMul, Nat.reduceBEq, Nat.reduceLT, Nat.reduceLeDiff, Int.reduceEq, Int.reduceLT, Int.reduceLE, Int.reduceNeg, Int.reduceToNat, Int.reduceAdd, Nat.reduceDiv, Nat.reduceSub, Nat.reduceMod, encL, MC0, MC1, MC2, fitRows_len]
end Go.Proofs.Ytobhpkagbmadlaa
