/-
  Texts Csa, Csb, Csc, Csd, Cse of this claim, put together.
-/
import Derived.Test.YthpffaofpcikiaaGFc
import Derived.Test.YthpffaofpcikiaaGBb
import Derived.Test.YthpffaofpcikiaaGE
set_option linter.unusedSimpArgs false
set_option linter.unusedVariables false
namespace Go.Proofs.Ythpffaofpcikiaa
open Go Go.Lg Go.RowKit
set_option maxRecDepth 20000

theorem rotl_ret (x : Int) (n : Nat) (h0 : 0 < n) (h : n < 32) : PRet Try.prog 52 [.int .u32 x, .int .i64 (-(n : Int))] (.int .u32 (rot32 x n)) := by
  have h1 := rot_ix ⟨n, h⟩ h0
  refine pret_intro fd52 (by simp) ?_
  simp only [lc52, VC0, VC1, VC2, VC3, VC4, VC5, VC6, VC7, VC8, reduceIte, reduceCtorEq, Nat.reduceEqDiff, Nat.reduceAdd, Nat.reduceMul, Nat.reduceBEq, Nat.reduceLT, Nat.reduceLeDiff, Int.reduceEq, Int.reduceLT, Int.reduceLE, Int.reduceNeg, Int.reduceToNat, Int.reduceAdd, Nat.reduceDiv, Nat.reduceSub, Nat.reduceMod, encL]
  simp only [] at h1
  have h2 : IntKind.u64.wrap (32 - ((32 - n : Nat) : Int)) = n := by rw [wrap_u64] <;> omega
  simp only [h1, h2, Int.toNat_natCast]
  exact ⟨by omega, by omega, or32_comm _ _⟩

theorem rturn_ret (x : Int) (n : Nat) (h0 : 0 < n) (h : n < 32) : PRet Try.prog 26 [.int .u32 x, .int .i64 n] (.int .u32 (rot32 x n)) := by
  refine pret_intro fd26 (by simp) ?_
  simp only [lc26, VC0, VC1, VC2, VC3, VC4, VC5, VC6, VC7, VC8, reduceIte, reduceCtorEq, Nat.reduceEqDiff, Nat.reduceAdd, Nat.reduceMul, Nat.reduceBEq, Nat.reduceLT, Nat.reduceLeDiff, Int.reduceEq, Int.reduceLT, Int.reduceLE, Int.reduceNeg, Int.reduceToNat, Int.reduceAdd, Nat.reduceDiv, Nat.reduceSub, Nat.reduceMod, encL]
  have h1 : IntKind.u64.wrap (n : Int) = n := by rw [wrap_u64] <;> omega
  have h2 : (32 : Int) - n = ((32 - n : Nat) : Int) := by omega
  have h3 : IntKind.u64.wrap ((32 - n : Nat) : Int) = ((32 - n : Nat) : Int) := by rw [wrap_u64] <;> omega
  simp only [h2, h1, h3, Int.toNat_natCast]
  exact ⟨by omega, by unfold InI64; omega, by omega, rfl⟩

theorem turn_ret (x : Int) (n : Nat) (h0 : 0 < n) (h : n < 32) : PRet Try.prog 41 [.int .u32 x, .int .i64 n] (.int .u32 (rot32 x n)) := by
  refine pret_intro fd41 (by simp) ?_
  simp only [lc41, VC0, VC1, VC2, VC3, VC4, VC5, VC6, VC7, VC8, reduceIte, reduceCtorEq, Nat.reduceEqDiff, Nat.reduceAdd, Nat.reduceMul, Nat.reduceBEq, Nat.reduceLT, Nat.reduceLeDiff, Int.reduceEq, Int.reduceLT, Int.reduceLE, Int.reduceNeg, Int.reduceToNat, Int.reduceAdd, Nat.reduceDiv, Nat.reduceSub, Nat.reduceMod, encL]
  have h1 : (0 : Int) - n = -(n : Int) := by omega
  simp only [h1]
  refine And.intro (by unfold InI64; omega) ?_
  refine callX_of (rotl_ret x n h0 h) (.inr rfl) ?_
  simp only [VC0, VC1, VC2, VC3, VC4, VC5, VC6, VC7, VC8, reduceIte, reduceCtorEq, Nat.reduceEqDiff, Nat.reduceAdd, Nat.reduceMul, Nat.reduceBEq, Nat.reduceLT, Nat.reduceLeDiff, Int.reduceEq, Int.reduceLT, Int.reduceLE, Int.reduceNeg, Int.reduceToNat, Int.reduceAdd, Nat.reduceDiv, Nat.reduceSub, Nat.reduceMod, encL]

theorem turn_lit (x : Int) (n : Nat) (k : Int) (hk : k = n) (h0 : 0 < n) (h : n < 32) : PRet Try.prog 41 [.int .u32 x, .int .i64 k] (.int .u32 (rot32 x n)) := by
  subst hk; exact turn_ret x n h0 h
theorem rturn_lit (x : Int) (n : Nat) (k : Int) (hk : k = n) (h0 : 0 < n) (h : n < 32) : PRet Try.prog 26 [.int .u32 x, .int .i64 k] (.int .u32 (rot32 x n)) := by
  subst hk; exact rturn_ret x n h0 h

end Go.Proofs.Ythpffaofpcikiaa

set_option linter.unusedSimpArgs false
set_option linter.unusedVariables false
namespace Go.Proofs.Ythpffaofpcikiaa
open Go Go.Lg Go.RowKit
set_option maxRecDepth 20000

set_option maxHeartbeats 4000000 in
theorem words_ret : PRet Try.prog 35 [] (.agg (Kc.flatMap (cK .u32))) := by
  refine pret_intro fd35 (by simp) ?_
  simp only [lc35, VC0, VC1, VC2, VC3, VC4, VC5, VC6, VC7, VC8, reduceIte, reduceCtorEq, Nat.reduceEqDiff, Nat.reduceAdd, Nat.reduceMul, Nat.reduceBEq, Nat.reduceLT, Nat.reduceLeDiff, Int.reduceEq, Int.reduceLT, Int.reduceLE, Int.reduceNeg, Int.reduceToNat, Int.reduceAdd, Nat.reduceDiv, Nat.reduceSub, Nat.reduceMod, encL]
  repeat' (first | kernel_rfl | refine And.intro ?_ ?_)
  exact ⟨.agg (Kc.flatMap (cK .u32)), by kernel_rfl, by kernel_rfl⟩

set_option maxHeartbeats 4000000 in
theorem spread_ret (p : List Int) (hp : p.length = 64) : PRet Try.prog 40 [encL (cK .u8) p] (.agg ((spreadS p).flatMap (cK .u32))) := by
  refine pret_intro fd40 (by simp) ?_
  simp only [lc40, VC0, VC1, VC2, VC3, VC4, VC5, VC6, VC7, VC8, reduceIte, reduceCtorEq, Nat.reduceEqDiff, Nat.reduceAdd, Nat.reduceMul, Nat.reduceBEq, Nat.reduceLT, Nat.reduceLeDiff, Int.reduceEq, Int.reduceLT, Int.reduceLE, Int.reduceNeg, Int.reduceToNat, Int.reduceAdd, Nat.reduceDiv, Nat.reduceSub, Nat.reduceMod, encL, encL]
  have hz : ∀ n, (List.replicate n (V.int .u32 0)) = (List.replicate n (0:Int)).flatMap (cK .u32) := fun n => lk_mk n
  refine loop_vcg (ι := Nat × (Nat → Nat)) (fun (t, c) => stO [(0, .val (encL (cK .u8) p)), (2, .box ((List.replicate 64 0).flatMap (cK .u32))), (3, .box ((fillA (wordS p) t).flatMap (cK .u32))), (8, .val (.int .i64 t))] c)
    (fun (t, _) => t ≤ 16) (fun (t, _) => 16 - t) (0, _) (Nat.zero_le _) (ent_of _ [] rfl rfl (by
      simp only [VC0, VC1, VC2, VC3, VC4, VC5, VC6, VC7, VC8, reduceIte, reduceCtorEq, Nat.reduceEqDiff, Nat.reduceAdd, Nat.reduceMul, Nat.reduceBEq, Nat.reduceLT, Nat.reduceLeDiff, Int.reduceEq, Int.reduceLT, Int.reduceLE, Int.reduceNeg, Int.reduceToNat, Int.reduceAdd, Nat.reduceDiv, Nat.reduceSub, Nat.reduceMod, encL, lk_len, lk_ld, lk_set, lk_app, lk_imv, lk_snap, lk_sok, lk_one, lk_ldall, lk_setall, lk_mk, List.length_set, List.length_append, List.length_singleton, List.length_replicate, fold_or32, fold_xor32, fold_and32, fold_shl32, fold_shr32, fold_add32, fold_not32, sc_one, fillA, encL]
      rfl)) ?_
  rintro ⟨t, c⟩ ht
  have hA := fillA_len (wordS p) t
  simp only [VC0, VC1, VC2, VC3, VC4, VC5, VC6, VC7, VC8, reduceIte, reduceCtorEq, Nat.reduceEqDiff, Nat.reduceAdd, Nat.reduceMul, Nat.reduceBEq, Nat.reduceLT, Nat.reduceLeDiff, Int.reduceEq, Int.reduceLT, Int.reduceLE, Int.reduceNeg, Int.reduceToNat, Int.reduceAdd, Nat.reduceDiv, Nat.reduceSub, Nat.reduceMod, encL, encL]
  refine condD_of (fun h => ?_) (fun h => ?_)
  · have ht' : t < 16 := by omega
    have t0 : (4 * (t : Int)).toNat = 4 * t := by omega
    have t1 : (4 * (t : Int) + 1).toNat = 4 * t + 1 := by omega
    have t2 : (4 * (t : Int) + 2).toNat = 4 * t + 2 := by omega
    have t3 : (4 * (t : Int) + 3).toNat = 4 * t + 3 := by omega
    have b0 : 4 * t < p.length := by omega
    have b1 : 4 * t + 1 < p.length := by omega
    have b2 : 4 * t + 2 < p.length := by omega
    have b3 : 4 * t + 3 < p.length := by omega
    have i0 : InI64 (4 * (t : Int)) ∧ InI64 (4 * (t : Int) + 1) ∧ InI64 (4 * (t : Int) + 2) ∧ InI64 (4 * (t : Int) + 3) ∧ InI64 ((t : Int) + 1) := by unfold InI64; omega
    have i1 : (0 ≤ 4 * (t : Int) ∧ 4 * (t : Int) < p.length) ∧ (0 ≤ 4 * (t : Int) + 1 ∧ 4 * (t : Int) + 1 < p.length) ∧ (0 ≤ 4 * (t : Int) + 2 ∧ 4 * (t : Int) + 2 < p.length) ∧ (0 ≤ 4 * (t : Int) + 3 ∧ 4 * (t : Int) + 3 < p.length) := by omega
    have i2 : 0 ≤ (t : Int) ∧ (t : Int) < 64 := by omega
    have i3 : t < (fillA (wordS p) t).length := by omega
    have i4 : t + 1 ≤ (fillA (wordS p) t).length := by omega
    simp only [VC0, VC1, VC2, VC3, VC4, VC5, VC6, VC7, VC8, reduceIte, reduceCtorEq, Nat.reduceEqDiff, Nat.reduceAdd, Nat.reduceMul, Nat.reduceBEq, Nat.reduceLT, Nat.reduceLeDiff, Int.reduceEq, Int.reduceLT, Int.reduceLE, Int.reduceNeg, Int.reduceToNat, Int.reduceAdd, Nat.reduceDiv, Nat.reduceSub, Nat.reduceMod, encL, lk_len, lk_ld, lk_set, lk_app, lk_imv, lk_snap, lk_sok, lk_one, lk_ldall, lk_setall, lk_mk, List.length_set, List.length_append, List.length_singleton, List.length_replicate, fold_or32, fold_xor32, fold_and32, fold_shl32, fold_shr32, fold_add32, fold_not32, sc_one, encL, t0, t1, t2, t3, b0, b1, b2, b3, i0, i1, i2, i3, i4]
    exact backTo_of (t + 1, _) ht' (by simp only []; omega) (ent_of _ [] rfl rfl (by simp only [VC0, VC1, VC2, VC3, VC4, VC5, VC6, VC7, VC8, reduceIte, reduceCtorEq, Nat.reduceEqDiff, Nat.reduceAdd, Nat.reduceMul, Nat.reduceBEq, Nat.reduceLT, Nat.reduceLeDiff, Int.reduceEq, Int.reduceLT, Int.reduceLE, Int.reduceNeg, Int.reduceToNat, Int.reduceAdd, Nat.reduceDiv, Nat.reduceSub, Nat.reduceMod, encL, lk_len, lk_ld, lk_set, lk_app, lk_imv, lk_snap, lk_sok, lk_one, lk_ldall, lk_setall, lk_mk, List.length_set, List.length_append, List.length_singleton, List.length_replicate, fold_or32, fold_xor32, fold_and32, fold_shl32, fold_shr32, fold_add32, fold_not32, sc_one, encL, fillA, wordS]))
  have ht' : t = 16 := by omega
  subst ht'
  have hA16 := fillA_len (wordS p) 16
  clear h ht hA
  simp only [VC0, VC1, VC2, VC3, VC4, VC5, VC6, VC7, VC8, reduceIte, reduceCtorEq, Nat.reduceEqDiff, Nat.reduceAdd, Nat.reduceMul, Nat.reduceBEq, Nat.reduceLT, Nat.reduceLeDiff, Int.reduceEq, Int.reduceLT, Int.reduceLE, Int.reduceNeg, Int.reduceToNat, Int.reduceAdd, Nat.reduceDiv, Nat.reduceSub, Nat.reduceMod, encL, encL]
  unfold spreadS
  generalize fillA (wordS p) 16 = W at hA16
  refine loop_vcg (ι := Nat × (Nat → Nat)) (fun (n, c) => stO [(2, .box ((List.replicate 64 0).flatMap (cK .u32))), (3, .box ((fillB W n).flatMap (cK .u32))), (5, .val (.int .i64 (16 + (n : Int))))] c)
    (fun (n, _) => n ≤ 48) (fun (n, _) => 48 - n) (0, _) (Nat.zero_le _) (ent_of _ [] rfl rfl (by simp only [VC0, VC1, VC2, VC3, VC4, VC5, VC6, VC7, VC8, reduceIte, reduceCtorEq, Nat.reduceEqDiff, Nat.reduceAdd, Nat.reduceMul, Nat.reduceBEq, Nat.reduceLT, Nat.reduceLeDiff, Int.reduceEq, Int.reduceLT, Int.reduceLE, Int.reduceNeg, Int.reduceToNat, Int.reduceAdd, Nat.reduceDiv, Nat.reduceSub, Nat.reduceMod, encL, lk_len, lk_ld, lk_set, lk_app, lk_imv, lk_snap, lk_sok, lk_one, lk_ldall, lk_setall, lk_mk, List.length_set, List.length_append, List.length_singleton, List.length_replicate, fold_or32, fold_xor32, fold_and32, fold_shl32, fold_shr32, fold_add32, fold_not32, sc_one, fillB, encL])) ?_
  rintro ⟨n, c⟩ hn
  have hB := fillB_len hA16 n
  simp only [VC0, VC1, VC2, VC3, VC4, VC5, VC6, VC7, VC8, reduceIte, reduceCtorEq, Nat.reduceEqDiff, Nat.reduceAdd, Nat.reduceMul, Nat.reduceBEq, Nat.reduceLT, Nat.reduceLeDiff, Int.reduceEq, Int.reduceLT, Int.reduceLE, Int.reduceNeg, Int.reduceToNat, Int.reduceAdd, Nat.reduceDiv, Nat.reduceSub, Nat.reduceMod, encL]
  refine condD_of (fun h => ?_) (fun h => ?_)
  · have hn' : n < 48 := by omega
    have s2 : (16 + (n : Int) - 2).toNat = 16 + n - 2 := by omega
    have s7 : (16 + (n : Int) - 7).toNat = 16 + n - 7 := by omega
    have s15 : (16 + (n : Int) - 15).toNat = 16 + n - 15 := by omega
    have s16 : (16 + (n : Int) - 16).toNat = 16 + n - 16 := by omega
    have s0 : (16 + (n : Int)).toNat = 16 + n := by omega
    have c2 : 16 + n - 2 < (fillB W n).length := by omega
    have c7 : 16 + n - 7 < (fillB W n).length := by omega
    have c15 : 16 + n - 15 < (fillB W n).length := by omega
    have c16 : 16 + n - 16 < (fillB W n).length := by omega
    have c0 : 16 + n < (fillB W n).length := by omega
    have c1 : 16 + (n + 1) ≤ (fillB W n).length := by omega
    have c1' : 16 + n + 1 ≤ (fillB W n).length := by omega
    have i0 : InI64 (16 + (n : Int) - 2) ∧ InI64 (16 + (n : Int) - 7) ∧ InI64 (16 + (n : Int) - 15) ∧ InI64 (16 + (n : Int) - 16) ∧ InI64 (16 + (n : Int) + 1) := by unfold InI64; omega
    have i1 : (0 ≤ 16 + (n : Int) - 2 ∧ 16 + (n : Int) - 2 < 64) ∧ (0 ≤ 16 + (n : Int) - 7 ∧ 16 + (n : Int) - 7 < 64) ∧ (0 ≤ 16 + (n : Int) - 15 ∧ 16 + (n : Int) - 15 < 64) ∧ (0 ≤ 16 + (n : Int) - 16 ∧ 16 + (n : Int) - 16 < 64) := by omega
    have i2 : 0 ≤ 16 + (n : Int) ∧ 16 + (n : Int) < 64 := by omega
    simp only [VC0, VC1, VC2, VC3, VC4, VC5, VC6, VC7, VC8, reduceIte, reduceCtorEq, Nat.reduceEqDiff, Nat.reduceAdd, Nat.reduceMul, Nat.reduceBEq, Nat.reduceLT, Nat.reduceLeDiff, Int.reduceEq, Int.reduceLT, Int.reduceLE, Int.reduceNeg, Int.reduceToNat, Int.reduceAdd, Nat.reduceDiv, Nat.reduceSub, Nat.reduceMod, encL, lk_len, lk_ld, lk_set, lk_app, lk_imv, lk_snap, lk_sok, lk_one, lk_ldall, lk_setall, lk_mk, List.length_set, List.length_append, List.length_singleton, List.length_replicate, fold_or32, fold_xor32, fold_and32, fold_shl32, fold_shr32, fold_add32, fold_not32, sc_one, encL, i0, i1, i2, s2, s7, s15, s16, c2, c7, c15, c16]
    refine callV_of (turn_lit _ 17 _ rfl (by decide) (by decide)) (.inr rfl) ?_
    simp only [VC0, VC1, VC2, VC3, VC4, VC5, VC6, VC7, VC8, reduceIte, reduceCtorEq, Nat.reduceEqDiff, Nat.reduceAdd, Nat.reduceMul, Nat.reduceBEq, Nat.reduceLT, Nat.reduceLeDiff, Int.reduceEq, Int.reduceLT, Int.reduceLE, Int.reduceNeg, Int.reduceToNat, Int.reduceAdd, Nat.reduceDiv, Nat.reduceSub, Nat.reduceMod, encL, lk_len, lk_ld, lk_set, lk_app, lk_imv, lk_snap, lk_sok, lk_one, lk_ldall, lk_setall, lk_mk, List.length_set, List.length_append, List.length_singleton, List.length_replicate, fold_or32, fold_xor32, fold_and32, fold_shl32, fold_shr32, fold_add32, fold_not32, sc_one, encL, i0, i1, i2, s2, s7, s15, s16, c2, c7, c15, c16]
    refine callV_of (turn_lit _ 19 _ rfl (by decide) (by decide)) (.inr rfl) ?_
    simp only [VC0, VC1, VC2, VC3, VC4, VC5, VC6, VC7, VC8, reduceIte, reduceCtorEq, Nat.reduceEqDiff, Nat.reduceAdd, Nat.reduceMul, Nat.reduceBEq, Nat.reduceLT, Nat.reduceLeDiff, Int.reduceEq, Int.reduceLT, Int.reduceLE, Int.reduceNeg, Int.reduceToNat, Int.reduceAdd, Nat.reduceDiv, Nat.reduceSub, Nat.reduceMod, encL, lk_len, lk_ld, lk_set, lk_app, lk_imv, lk_snap, lk_sok, lk_one, lk_ldall, lk_setall, lk_mk, List.length_set, List.length_append, List.length_singleton, List.length_replicate, fold_or32, fold_xor32, fold_and32, fold_shl32, fold_shr32, fold_add32, fold_not32, sc_one, encL, i0, i1, i2, s2, s7, s15, s16, c2, c7, c15, c16]
    refine callV_of (turn_lit _ 7 _ rfl (by decide) (by decide)) (.inr rfl) ?_
    simp only [VC0, VC1, VC2, VC3, VC4, VC5, VC6, VC7, VC8, reduceIte, reduceCtorEq, Nat.reduceEqDiff, Nat.reduceAdd, Nat.reduceMul, Nat.reduceBEq, Nat.reduceLT, Nat.reduceLeDiff, Int.reduceEq, Int.reduceLT, Int.reduceLE, Int.reduceNeg, Int.reduceToNat, Int.reduceAdd, Nat.reduceDiv, Nat.reduceSub, Nat.reduceMod, encL, lk_len, lk_ld, lk_set, lk_app, lk_imv, lk_snap, lk_sok, lk_one, lk_ldall, lk_setall, lk_mk, List.length_set, List.length_append, List.length_singleton, List.length_replicate, fold_or32, fold_xor32, fold_and32, fold_shl32, fold_shr32, fold_add32, fold_not32, sc_one, encL, i0, i1, i2, s2, s7, s15, s16, c2, c7, c15, c16]
    refine callV_of (turn_lit _ 18 _ rfl (by decide) (by decide)) (.inr rfl) ?_
    simp only [VC0, VC1, VC2, VC3, VC4, VC5, VC6, VC7, VC8, reduceIte, reduceCtorEq, Nat.reduceEqDiff, Nat.reduceAdd, Nat.reduceMul, Nat.reduceBEq, Nat.reduceLT, Nat.reduceLeDiff, Int.reduceEq, Int.reduceLT, Int.reduceLE, Int.reduceNeg, Int.reduceToNat, Int.reduceAdd, Nat.reduceDiv, Nat.reduceSub, Nat.reduceMod, encL, lk_len, lk_ld, lk_set, lk_app, lk_imv, lk_snap, lk_sok, lk_one, lk_ldall, lk_setall, lk_mk, List.length_set, List.length_append, List.length_singleton, List.length_replicate, fold_or32, fold_xor32, fold_and32, fold_shl32, fold_shr32, fold_add32, fold_not32, sc_one, encL, i0, i1, i2, s2, s7, s15, s16, s0, c2, c7, c15, c16, c0, c1, c1']
    exact backTo_of (n + 1, _) hn' (by simp only []; omega) (ent_of _ [] rfl rfl (by simp only [VC0, VC1, VC2, VC3, VC4, VC5, VC6, VC7, VC8, reduceIte, reduceCtorEq, Nat.reduceEqDiff, Nat.reduceAdd, Nat.reduceMul, Nat.reduceBEq, Nat.reduceLT, Nat.reduceLeDiff, Int.reduceEq, Int.reduceLT, Int.reduceLE, Int.reduceNeg, Int.reduceToNat, Int.reduceAdd, Nat.reduceDiv, Nat.reduceSub, Nat.reduceMod, encL, lk_len, lk_ld, lk_set, lk_app, lk_imv, lk_snap, lk_sok, lk_one, lk_ldall, lk_setall, lk_mk, List.length_set, List.length_append, List.length_singleton, List.length_replicate, fold_or32, fold_xor32, fold_and32, fold_shl32, fold_shr32, fold_add32, fold_not32, sc_one, fillB, nextW]; omega))
  · have hn' : n = 48 := by omega
    subst hn'
    simp only [VC0, VC1, VC2, VC3, VC4, VC5, VC6, VC7, VC8, reduceIte, reduceCtorEq, Nat.reduceEqDiff, Nat.reduceAdd, Nat.reduceMul, Nat.reduceBEq, Nat.reduceLT, Nat.reduceLeDiff, Int.reduceEq, Int.reduceLT, Int.reduceLE, Int.reduceNeg, Int.reduceToNat, Int.reduceAdd, Nat.reduceDiv, Nat.reduceSub, Nat.reduceMod, encL, lk_len, lk_ld, lk_set, lk_app, lk_imv, lk_snap, lk_sok, lk_one, lk_ldall, lk_setall, lk_mk, List.length_set, List.length_append, List.length_singleton, List.length_replicate, fold_or32, fold_xor32, fold_and32, fold_shl32, fold_shr32, fold_add32, fold_not32, sc_one, lk_ldall hB, hB]

end Go.Proofs.Ythpffaofpcikiaa

set_option linter.unusedSimpArgs false
set_option linter.unusedVariables false
namespace Go.Proofs.Ythpffaofpcikiaa
open Go Go.Lg Go.RowKit
set_option maxRecDepth 20000

theorem bld8 (a b c d e f g h : Int) : setCells (setCells (setCells (setCells (setCells (setCells (setCells (setCells [V.int .u32 0, .int .u32 0, .int .u32 0, .int .u32 0, .int .u32 0, .int .u32 0, .int .u32 0, .int .u32 0] 0 [.int .u32 a]) 1 [.int .u32 b]) 2 [.int .u32 c]) 3 [.int .u32 d]) 4 [.int .u32 e]) 5 [.int .u32 f]) 6 [.int .u32 g]) 7 [.int .u32 h] = ([a, b, c, d, e, f, g, h] : List Int).flatMap (cK .u32) := rfl
set_option maxHeartbeats 4000000 in
theorem block_ret (h k p : List Int) (hhl : h.length = 8) (hkl : k.length = 64) (hp : p.length = 64) : PRet Try.prog 36 [.agg (h.flatMap (cK .u32)), .agg (k.flatMap (cK .u32)), encL (cK .u8) p] (.agg ((blockS h k p).flatMap (cK .u32))) := by
  have hWl := spreadS_len p
  have hsp := spread_ret p hp
  unfold blockS
  refine pret_intro fd36 (by simp) ?_
  simp only [lc36, VC0, VC1, VC2, VC3, VC4, VC5, VC6, VC7, VC8, reduceIte, reduceCtorEq, Nat.reduceEqDiff, Nat.reduceAdd, Nat.reduceMul, Nat.reduceBEq, Nat.reduceLT, Nat.reduceLeDiff, Int.reduceEq, Int.reduceLT, Int.reduceLE, Int.reduceNeg, Int.reduceToNat, Int.reduceAdd, Nat.reduceDiv, Nat.reduceSub, Nat.reduceMod, encL, encL]
  refine callX_of hsp (.inl rfl) ?_
  generalize spreadS p = W at hWl
  simp only [VC0, VC1, VC2, VC3, VC4, VC5, VC6, VC7, VC8, reduceIte, reduceCtorEq, Nat.reduceEqDiff, Nat.reduceAdd, Nat.reduceMul, Nat.reduceBEq, Nat.reduceLT, Nat.reduceLeDiff, Int.reduceEq, Int.reduceLT, Int.reduceLE, Int.reduceNeg, Int.reduceToNat, Int.reduceAdd, Nat.reduceDiv, Nat.reduceSub, Nat.reduceMod, encL, lk_len, lk_ld, lk_set, lk_app, lk_imv, lk_snap, lk_sok, lk_one, lk_ldall, lk_setall, lk_mk, List.length_set, List.length_append, List.length_singleton, List.length_replicate, fold_or32, fold_xor32, fold_and32, fold_shl32, fold_shr32, fold_add32, fold_not32, sc_one, setCells_all, hWl, hhl, lk_ldall hhl]
  refine loop_vcg (ι := Nat × (Nat → Nat)) (fun (t, c) => stO [(3, .box (h.flatMap (cK .u32))), (4, .box (k.flatMap (cK .u32))), (6, .box [.int .u32 0, .int .u32 0, .int .u32 0, .int .u32 0, .int .u32 0, .int .u32 0, .int .u32 0, .int .u32 0]), (7, .box (W.flatMap (cK .u32))), (8, .box ((roundsS k W h t).flatMap (cK .u32))), (22, .val (.int .i64 t))] c)
    (fun (t, _) => t ≤ 64) (fun (t, _) => 64 - t) (0, _) (Nat.zero_le _) (ent_of _ [] rfl rfl (by simp only [VC0, VC1, VC2, VC3, VC4, VC5, VC6, VC7, VC8, reduceIte, reduceCtorEq, Nat.reduceEqDiff, Nat.reduceAdd, Nat.reduceMul, Nat.reduceBEq, Nat.reduceLT, Nat.reduceLeDiff, Int.reduceEq, Int.reduceLT, Int.reduceLE, Int.reduceNeg, Int.reduceToNat, Int.reduceAdd, Nat.reduceDiv, Nat.reduceSub, Nat.reduceMod, encL, lk_len, lk_ld, lk_set, lk_app, lk_imv, lk_snap, lk_sok, lk_one, lk_ldall, lk_setall, lk_mk, List.length_set, List.length_append, List.length_singleton, List.length_replicate, fold_or32, fold_xor32, fold_and32, fold_shl32, fold_shr32, fold_add32, fold_not32, sc_one, roundsS])) ?_
  rintro ⟨t, c⟩ ht
  have hvl := roundsS_len (k := k) (W := W) hhl t
  simp only [VC0, VC1, VC2, VC3, VC4, VC5, VC6, VC7, VC8, reduceIte, reduceCtorEq, Nat.reduceEqDiff, Nat.reduceAdd, Nat.reduceMul, Nat.reduceBEq, Nat.reduceLT, Nat.reduceLeDiff, Int.reduceEq, Int.reduceLT, Int.reduceLE, Int.reduceNeg, Int.reduceToNat, Int.reduceAdd, Nat.reduceDiv, Nat.reduceSub, Nat.reduceMod, encL]
  refine condD_of (fun hc => ?_) (fun hc => ?_)
  · have ht' : t < 64 := by omega
    have v0 : 0 < (roundsS k W h t).length := by omega
    have v1 : 1 < (roundsS k W h t).length := by omega
    have v2 : 2 < (roundsS k W h t).length := by omega
    have v3 : 3 < (roundsS k W h t).length := by omega
    have v4 : 4 < (roundsS k W h t).length := by omega
    have v5 : 5 < (roundsS k W h t).length := by omega
    have v6 : 6 < (roundsS k W h t).length := by omega
    have v7 : 7 < (roundsS k W h t).length := by omega
    have v8 : 8 ≤ (roundsS k W h t).length := by omega
    have v9 : (roundsS k W h t).length = 8 := hvl
    have w1 : t < W.length := by omega
    have k1 : t < k.length := by omega
    have i2 : 0 ≤ (t : Int) ∧ (t : Int) < 64 := by omega
    have i3 : InI64 ((t : Int) + 1) := by unfold InI64; omega
    simp only [VC0, VC1, VC2, VC3, VC4, VC5, VC6, VC7, VC8, reduceIte, reduceCtorEq, Nat.reduceEqDiff, Nat.reduceAdd, Nat.reduceMul, Nat.reduceBEq, Nat.reduceLT, Nat.reduceLeDiff, Int.reduceEq, Int.reduceLT, Int.reduceLE, Int.reduceNeg, Int.reduceToNat, Int.reduceAdd, Nat.reduceDiv, Nat.reduceSub, Nat.reduceMod, encL, lk_len, lk_ld, lk_set, lk_app, lk_imv, lk_snap, lk_sok, lk_one, lk_ldall, lk_setall, lk_mk, List.length_set, List.length_append, List.length_singleton, List.length_replicate, fold_or32, fold_xor32, fold_and32, fold_shl32, fold_shr32, fold_add32, fold_not32, sc_one, v0, v1, v2, v3, v4, v5, v6, v7, w1, k1, i2, i3]
    refine callV_of (turn_lit _ 6 _ rfl (by decide) (by decide)) (.inr rfl) ?_
    simp only [VC0, VC1, VC2, VC3, VC4, VC5, VC6, VC7, VC8, reduceIte, reduceCtorEq, Nat.reduceEqDiff, Nat.reduceAdd, Nat.reduceMul, Nat.reduceBEq, Nat.reduceLT, Nat.reduceLeDiff, Int.reduceEq, Int.reduceLT, Int.reduceLE, Int.reduceNeg, Int.reduceToNat, Int.reduceAdd, Nat.reduceDiv, Nat.reduceSub, Nat.reduceMod, encL, lk_len, lk_ld, lk_set, lk_app, lk_imv, lk_snap, lk_sok, lk_one, lk_ldall, lk_setall, lk_mk, List.length_set, List.length_append, List.length_singleton, List.length_replicate, fold_or32, fold_xor32, fold_and32, fold_shl32, fold_shr32, fold_add32, fold_not32, sc_one, v0, v1, v2, v3, v4, v5, v6, v7, w1, k1, i2, i3]
    refine callV_of (turn_lit _ 11 _ rfl (by decide) (by decide)) (.inr rfl) ?_
    simp only [VC0, VC1, VC2, VC3, VC4, VC5, VC6, VC7, VC8, reduceIte, reduceCtorEq, Nat.reduceEqDiff, Nat.reduceAdd, Nat.reduceMul, Nat.reduceBEq, Nat.reduceLT, Nat.reduceLeDiff, Int.reduceEq, Int.reduceLT, Int.reduceLE, Int.reduceNeg, Int.reduceToNat, Int.reduceAdd, Nat.reduceDiv, Nat.reduceSub, Nat.reduceMod, encL, lk_len, lk_ld, lk_set, lk_app, lk_imv, lk_snap, lk_sok, lk_one, lk_ldall, lk_setall, lk_mk, List.length_set, List.length_append, List.length_singleton, List.length_replicate, fold_or32, fold_xor32, fold_and32, fold_shl32, fold_shr32, fold_add32, fold_not32, sc_one, v0, v1, v2, v3, v4, v5, v6, v7, w1, k1, i2, i3]
    refine callV_of (turn_lit _ 25 _ rfl (by decide) (by decide)) (.inr rfl) ?_
    simp only [VC0, VC1, VC2, VC3, VC4, VC5, VC6, VC7, VC8, reduceIte, reduceCtorEq, Nat.reduceEqDiff, Nat.reduceAdd, Nat.reduceMul, Nat.reduceBEq, Nat.reduceLT, Nat.reduceLeDiff, Int.reduceEq, Int.reduceLT, Int.reduceLE, Int.reduceNeg, Int.reduceToNat, Int.reduceAdd, Nat.reduceDiv, Nat.reduceSub, Nat.reduceMod, encL, lk_len, lk_ld, lk_set, lk_app, lk_imv, lk_snap, lk_sok, lk_one, lk_ldall, lk_setall, lk_mk, List.length_set, List.length_append, List.length_singleton, List.length_replicate, fold_or32, fold_xor32, fold_and32, fold_shl32, fold_shr32, fold_add32, fold_not32, sc_one, v0, v1, v2, v3, v4, v5, v6, v7, w1, k1, i2, i3]
    refine callX_of (turn_lit _ 2 _ rfl (by decide) (by decide)) (.inr rfl) ?_
    simp only [VC0, VC1, VC2, VC3, VC4, VC5, VC6, VC7, VC8, reduceIte, reduceCtorEq, Nat.reduceEqDiff, Nat.reduceAdd, Nat.reduceMul, Nat.reduceBEq, Nat.reduceLT, Nat.reduceLeDiff, Int.reduceEq, Int.reduceLT, Int.reduceLE, Int.reduceNeg, Int.reduceToNat, Int.reduceAdd, Nat.reduceDiv, Nat.reduceSub, Nat.reduceMod, encL, lk_len, lk_ld, lk_set, lk_app, lk_imv, lk_snap, lk_sok, lk_one, lk_ldall, lk_setall, lk_mk, List.length_set, List.length_append, List.length_singleton, List.length_replicate, fold_or32, fold_xor32, fold_and32, fold_shl32, fold_shr32, fold_add32, fold_not32, sc_one, v0, v1, v2, v3, v4, v5, v6, v7, w1, k1, i2, i3]
    refine callX_of (turn_lit _ 13 _ rfl (by decide) (by decide)) (.inr rfl) ?_
    simp only [VC0, VC1, VC2, VC3, VC4, VC5, VC6, VC7, VC8, reduceIte, reduceCtorEq, Nat.reduceEqDiff, Nat.reduceAdd, Nat.reduceMul, Nat.reduceBEq, Nat.reduceLT, Nat.reduceLeDiff, Int.reduceEq, Int.reduceLT, Int.reduceLE, Int.reduceNeg, Int.reduceToNat, Int.reduceAdd, Nat.reduceDiv, Nat.reduceSub, Nat.reduceMod, encL, lk_len, lk_ld, lk_set, lk_app, lk_imv, lk_snap, lk_sok, lk_one, lk_ldall, lk_setall, lk_mk, List.length_set, List.length_append, List.length_singleton, List.length_replicate, fold_or32, fold_xor32, fold_and32, fold_shl32, fold_shr32, fold_add32, fold_not32, sc_one, v0, v1, v2, v3, v4, v5, v6, v7, w1, k1, i2, i3]
    refine callX_of (turn_lit _ 22 _ rfl (by decide) (by decide)) (.inr rfl) ?_
    simp only [VC0, VC1, VC2, VC3, VC4, VC5, VC6, VC7, VC8, reduceIte, reduceCtorEq, Nat.reduceEqDiff, Nat.reduceAdd, Nat.reduceMul, Nat.reduceBEq, Nat.reduceLT, Nat.reduceLeDiff, Int.reduceEq, Int.reduceLT, Int.reduceLE, Int.reduceNeg, Int.reduceToNat, Int.reduceAdd, Nat.reduceDiv, Nat.reduceSub, Nat.reduceMod, encL, lk_len, lk_ld, lk_set, lk_app, lk_imv, lk_snap, lk_sok, lk_one, lk_ldall, lk_setall, lk_mk, List.length_set, List.length_append, List.length_singleton, List.length_replicate, fold_or32, fold_xor32, fold_and32, fold_shl32, fold_shr32, fold_add32, fold_not32, sc_one, v0, v1, v2, v3, v4, v5, v6, v7, w1, k1, i2, i3]
    simp only [bld8, lk_len, List.length_cons, List.length_nil, v9, lk_setall]
    refine And.intro (by first | trivial | omega | decide) (backTo_of (t + 1, _) ht' (by simp only []; omega) (ent_of _ [] rfl rfl ?_))
    simp only [VC0, VC1, VC2, VC3, VC4, VC5, VC6, VC7, VC8, reduceIte, reduceCtorEq, Nat.reduceEqDiff, Nat.reduceAdd, Nat.reduceMul, Nat.reduceBEq, Nat.reduceLT, Nat.reduceLeDiff, Int.reduceEq, Int.reduceLT, Int.reduceLE, Int.reduceNeg, Int.reduceToNat, Int.reduceAdd, Nat.reduceDiv, Nat.reduceSub, Nat.reduceMod, encL, lk_len, lk_ld, lk_set, lk_app, lk_imv, lk_snap, lk_sok, lk_one, lk_ldall, lk_setall, lk_mk, List.length_set, List.length_append, List.length_singleton, List.length_replicate, fold_or32, fold_xor32, fold_and32, fold_shl32, fold_shr32, fold_add32, fold_not32, sc_one]
    rfl
  have ht' : t = 64 := by omega
  subst ht'
  simp only [VC0, VC1, VC2, VC3, VC4, VC5, VC6, VC7, VC8, reduceIte, reduceCtorEq, Nat.reduceEqDiff, Nat.reduceAdd, Nat.reduceMul, Nat.reduceBEq, Nat.reduceLT, Nat.reduceLeDiff, Int.reduceEq, Int.reduceLT, Int.reduceLE, Int.reduceNeg, Int.reduceToNat, Int.reduceAdd, Nat.reduceDiv, Nat.reduceSub, Nat.reduceMod, encL]
  generalize roundsS k W h 64 = v at hvl
  refine loop_vcg (ι := Nat × (Nat → Nat)) (fun (i, c) => stO [(3, .box ((sumsS h v i).flatMap (cK .u32))), (6, .box [.int .u32 0, .int .u32 0, .int .u32 0, .int .u32 0, .int .u32 0, .int .u32 0, .int .u32 0, .int .u32 0]), (8, .box (v.flatMap (cK .u32))), (100, .val (.int .i64 i))] c)
    (fun (i, _) => i ≤ 8) (fun (i, _) => 8 - i) (0, _) (Nat.zero_le _) (ent_of _ [] rfl rfl (by simp only [VC0, VC1, VC2, VC3, VC4, VC5, VC6, VC7, VC8, reduceIte, reduceCtorEq, Nat.reduceEqDiff, Nat.reduceAdd, Nat.reduceMul, Nat.reduceBEq, Nat.reduceLT, Nat.reduceLeDiff, Int.reduceEq, Int.reduceLT, Int.reduceLE, Int.reduceNeg, Int.reduceToNat, Int.reduceAdd, Nat.reduceDiv, Nat.reduceSub, Nat.reduceMod, encL, lk_len, lk_ld, lk_set, lk_app, lk_imv, lk_snap, lk_sok, lk_one, lk_ldall, lk_setall, lk_mk, List.length_set, List.length_append, List.length_singleton, List.length_replicate, fold_or32, fold_xor32, fold_and32, fold_shl32, fold_shr32, fold_add32, fold_not32, sc_one, sumsS])) ?_
  rintro ⟨i, c⟩ hi
  have hgl := sumsS_len (v := v) hhl i
  simp only [VC0, VC1, VC2, VC3, VC4, VC5, VC6, VC7, VC8, reduceIte, reduceCtorEq, Nat.reduceEqDiff, Nat.reduceAdd, Nat.reduceMul, Nat.reduceBEq, Nat.reduceLT, Nat.reduceLeDiff, Int.reduceEq, Int.reduceLT, Int.reduceLE, Int.reduceNeg, Int.reduceToNat, Int.reduceAdd, Nat.reduceDiv, Nat.reduceSub, Nat.reduceMod, encL]
  refine condD_of (fun hc => ?_) (fun hc => ?_)
  · have hi' : i < 8 := by omega
    have a1 : i < (sumsS h v i).length := by omega
    have a2 : i < v.length := by omega
    have a3 : i + 1 ≤ (sumsS h v i).length := by omega
    have i2 : 0 ≤ (i : Int) ∧ (i : Int) < 8 := by omega
    have i3 : InI64 ((i : Int) + 1) := by unfold InI64; omega
    simp only [VC0, VC1, VC2, VC3, VC4, VC5, VC6, VC7, VC8, reduceIte, reduceCtorEq, Nat.reduceEqDiff, Nat.reduceAdd, Nat.reduceMul, Nat.reduceBEq, Nat.reduceLT, Nat.reduceLeDiff, Int.reduceEq, Int.reduceLT, Int.reduceLE, Int.reduceNeg, Int.reduceToNat, Int.reduceAdd, Nat.reduceDiv, Nat.reduceSub, Nat.reduceMod, encL, lk_len, lk_ld, lk_set, lk_app, lk_imv, lk_snap, lk_sok, lk_one, lk_ldall, lk_setall, lk_mk, List.length_set, List.length_append, List.length_singleton, List.length_replicate, fold_or32, fold_xor32, fold_and32, fold_shl32, fold_shr32, fold_add32, fold_not32, sc_one, a1, a2, a3, i2, i3]
    exact backTo_of (i + 1, _) hi' (by simp only []; omega) (ent_of _ [] rfl rfl (by simp only [VC0, VC1, VC2, VC3, VC4, VC5, VC6, VC7, VC8, reduceIte, reduceCtorEq, Nat.reduceEqDiff, Nat.reduceAdd, Nat.reduceMul, Nat.reduceBEq, Nat.reduceLT, Nat.reduceLeDiff, Int.reduceEq, Int.reduceLT, Int.reduceLE, Int.reduceNeg, Int.reduceToNat, Int.reduceAdd, Nat.reduceDiv, Nat.reduceSub, Nat.reduceMod, encL, lk_len, lk_ld, lk_set, lk_app, lk_imv, lk_snap, lk_sok, lk_one, lk_ldall, lk_setall, lk_mk, List.length_set, List.length_append, List.length_singleton, List.length_replicate, fold_or32, fold_xor32, fold_and32, fold_shl32, fold_shr32, fold_add32, fold_not32, sc_one, sumsS]))
  · have hi' : i = 8 := by omega
    subst hi'
    simp only [VC0, VC1, VC2, VC3, VC4, VC5, VC6, VC7, VC8, reduceIte, reduceCtorEq, Nat.reduceEqDiff, Nat.reduceAdd, Nat.reduceMul, Nat.reduceBEq, Nat.reduceLT, Nat.reduceLeDiff, Int.reduceEq, Int.reduceLT, Int.reduceLE, Int.reduceNeg, Int.reduceToNat, Int.reduceAdd, Nat.reduceDiv, Nat.reduceSub, Nat.reduceMod, encL, lk_len, lk_ld, lk_set, lk_app, lk_imv, lk_snap, lk_sok, lk_one, lk_ldall, lk_setall, lk_mk, List.length_set, List.length_append, List.length_singleton, List.length_replicate, fold_or32, fold_xor32, fold_and32, fold_shl32, fold_shr32, fold_add32, fold_not32, sc_one, lk_ldall hgl, hgl, setCells_all]

end Go.Proofs.Ythpffaofpcikiaa

set_option linter.unusedSimpArgs false
set_option linter.unusedVariables false
namespace Go.Proofs.Ythpffaofpcikiaa
open Go Go.Lg Go.RowKit
set_option maxRecDepth 20000

def zs32 : List V := [.int .u8 0, .int .u8 0, .int .u8 0, .int .u8 0, .int .u8 0, .int .u8 0, .int .u8 0, .int .u8 0, .int .u8 0, .int .u8 0, .int .u8 0, .int .u8 0, .int .u8 0, .int .u8 0, .int .u8 0, .int .u8 0, .int .u8 0, .int .u8 0, .int .u8 0, .int .u8 0, .int .u8 0, .int .u8 0, .int .u8 0, .int .u8 0, .int .u8 0, .int .u8 0, .int .u8 0, .int .u8 0, .int .u8 0, .int .u8 0, .int .u8 0, .int .u8 0]

theorem H0_len : H0.length = 8 := rfl
theorem Kc_len : Kc.length = 64 := rfl
theorem zs32_eq : zs32 = (List.replicate 32 (0 : Int)).flatMap (cK .u8) := rfl
theorem zs32_len : zs32.length = 32 := rfl
theorem zs32_imv : zs32.all (imV 8) = true := rfl

/-- A piece of the message is one of what it is filled up to. -/
theorem chunk_eq (b : List Int) (n : Nat) (h : 64 * n + 64 ≤ b.length) : (b.drop (64 * n)).take 64 = ((padS b).drop (64 * n)).take 64 := by
  unfold padS
  rw [List.append_assoc, List.append_assoc, List.drop_append_of_le_length (by omega), List.take_append_of_le_length (by rw [List.length_drop]; omega)]

set_option maxHeartbeats 4000000 in
theorem sum_ret (b : List Int) (hb : b.length ≤ 1000) : PRet Try.prog 27 [encL (cK .u8) b] (.agg ((sumS b).flatMap (cK .u8))) := by
  unfold sumS
  refine pret_intro fd27 (by simp) ?_
  simp only [lc27, VC0, VC1, VC2, VC3, VC4, VC5, VC6, VC7, VC8, reduceIte, reduceCtorEq, Nat.reduceEqDiff, Nat.reduceAdd, Nat.reduceMul, Nat.reduceBEq, Nat.reduceLT, Nat.reduceLeDiff, Int.reduceEq, Int.reduceLT, Int.reduceLE, Int.reduceNeg, Int.reduceToNat, Int.reduceAdd, Nat.reduceDiv, Nat.reduceSub, Nat.reduceMod, encL, encL]
  refine callX_of words_ret (.inr rfl) ?_
  simp only [VC0, VC1, VC2, VC3, VC4, VC5, VC6, VC7, VC8, reduceIte, reduceCtorEq, Nat.reduceEqDiff, Nat.reduceAdd, Nat.reduceMul, Nat.reduceBEq, Nat.reduceLT, Nat.reduceLeDiff, Int.reduceEq, Int.reduceLT, Int.reduceLE, Int.reduceNeg, Int.reduceToNat, Int.reduceAdd, Nat.reduceDiv, Nat.reduceSub, Nat.reduceMod, encL, lk_len, lk_ld, lk_set, lk_app, lk_imv, lk_snap, lk_sok, lk_one, lk_ldall, lk_setall, lk_mk, List.length_set, List.length_append, List.length_singleton, List.length_replicate, fold_or32, fold_xor32, fold_and32, fold_shl32, fold_shr32, fold_add32, fold_not32, sc_one, setCells_all, Kc_len, bld8]
  refine loop_vcg (ι := Nat × (Nat → Nat)) (fun (n, c) => stO [(0, .val (encL (cK .u8) b)), (2, .box zs32), (3, .box (Kc.flatMap (cK .u32))), (4, .box ((blocksS H0 (padS b) n).flatMap (cK .u32))), (5, .val (.int .i64 (64 * (n : Int))))] c)
    (fun (n, _) => 64 * n ≤ b.length) (fun (n, _) => b.length - 64 * n) (0, _) (Nat.zero_le _) (ent_of _ [] rfl rfl (by
      simp only [VC0, VC1, VC2, VC3, VC4, VC5, VC6, VC7, VC8, reduceIte, reduceCtorEq, Nat.reduceEqDiff, Nat.reduceAdd, Nat.reduceMul, Nat.reduceBEq, Nat.reduceLT, Nat.reduceLeDiff, Int.reduceEq, Int.reduceLT, Int.reduceLE, Int.reduceNeg, Int.reduceToNat, Int.reduceAdd, Nat.reduceDiv, Nat.reduceSub, Nat.reduceMod, encL, lk_len, lk_ld, lk_set, lk_app, lk_imv, lk_snap, lk_sok, lk_one, lk_ldall, lk_setall, lk_mk, List.length_set, List.length_append, List.length_singleton, List.length_replicate, fold_or32, fold_xor32, fold_and32, fold_shl32, fold_shr32, fold_add32, fold_not32, sc_one, encL, blocksS, zs32, Int.mul_zero]
      rfl)) ?_
  rintro ⟨n, c⟩ hn
  have hbl := blocksS_len (m := padS b) H0_len n
  simp only [VC0, VC1, VC2, VC3, VC4, VC5, VC6, VC7, VC8, reduceIte, reduceCtorEq, Nat.reduceEqDiff, Nat.reduceAdd, Nat.reduceMul, Nat.reduceBEq, Nat.reduceLT, Nat.reduceLeDiff, Int.reduceEq, Int.reduceLT, Int.reduceLE, Int.reduceNeg, Int.reduceToNat, Int.reduceAdd, Nat.reduceDiv, Nat.reduceSub, Nat.reduceMod, encL, encL]
  refine And.intro (by unfold InI64; omega) (condD_of (fun hc => ?_) (fun hc => ?_))
  · have hn' : 64 * n + 64 ≤ b.length := by omega
    have e1 : (64 * (n : Int) + 64).toNat = 64 * n + 64 := by omega
    have e2 : (64 * (n : Int)).toNat = 64 * n := by omega
    have hX : (((padS b).drop (64 * n)).take 64).length = 64 := by rw [← chunk_eq b n hn', List.length_take, List.length_drop]; omega
    have hblk := block_ret (blocksS H0 (padS b) n) Kc (((padS b).drop (64 * n)).take 64) hbl Kc_len hX
    simp only [encL, hX] at hblk
    simp only [VC0, VC1, VC2, VC3, VC4, VC5, VC6, VC7, VC8, reduceIte, reduceCtorEq, Nat.reduceEqDiff, Nat.reduceAdd, Nat.reduceMul, Nat.reduceBEq, Nat.reduceLT, Nat.reduceLeDiff, Int.reduceEq, Int.reduceLT, Int.reduceLE, Int.reduceNeg, Int.reduceToNat, Int.reduceAdd, Nat.reduceDiv, Nat.reduceSub, Nat.reduceMod, encL, lk_len, lk_ld, lk_set, lk_app, lk_imv, lk_snap, lk_sok, lk_one, lk_ldall, lk_setall, lk_mk, List.length_set, List.length_append, List.length_singleton, List.length_replicate, fold_or32, fold_xor32, fold_and32, fold_shl32, fold_shr32, fold_add32, fold_not32, sc_one, encL, lk_ldall hbl, lk_ldall Kc_len, e1, e2, lk_take, lk_drop, List.drop_take, Nat.add_sub_cancel_left, chunk_eq b n hn']
    refine And.intro (by unfold InI64; omega) (And.intro (by omega) ?_)
    refine callV_of hblk (.inr (lk_flat 3 _)) ?_
    have hbl' := blocksS_len (m := padS b) H0_len (n + 1)
    simp only [blocksS] at hbl'
    simp only [VC0, VC1, VC2, VC3, VC4, VC5, VC6, VC7, VC8, reduceIte, reduceCtorEq, Nat.reduceEqDiff, Nat.reduceAdd, Nat.reduceMul, Nat.reduceBEq, Nat.reduceLT, Nat.reduceLeDiff, Int.reduceEq, Int.reduceLT, Int.reduceLE, Int.reduceNeg, Int.reduceToNat, Int.reduceAdd, Nat.reduceDiv, Nat.reduceSub, Nat.reduceMod, encL, lk_len, lk_ld, lk_set, lk_app, lk_imv, lk_snap, lk_sok, lk_one, lk_ldall, lk_setall, lk_mk, List.length_set, List.length_append, List.length_singleton, List.length_replicate, fold_or32, fold_xor32, fold_and32, fold_shl32, fold_shr32, fold_add32, fold_not32, sc_one, encL, hbl, hbl']
    refine And.intro (by unfold InI64; omega) (backTo_of (n + 1, _) (by simp only []; omega) (by simp only []; omega) (ent_of _ [] rfl rfl (by simp only [VC0, VC1, VC2, VC3, VC4, VC5, VC6, VC7, VC8, reduceIte, reduceCtorEq, Nat.reduceEqDiff, Nat.reduceAdd, Nat.reduceMul, Nat.reduceBEq, Nat.reduceLT, Nat.reduceLeDiff, Int.reduceEq, Int.reduceLT, Int.reduceLE, Int.reduceNeg, Int.reduceToNat, Int.reduceAdd, Nat.reduceDiv, Nat.reduceSub, Nat.reduceMod, encL, lk_len, lk_ld, lk_set, lk_app, lk_imv, lk_snap, lk_sok, lk_one, lk_ldall, lk_setall, lk_mk, List.length_set, List.length_append, List.length_singleton, List.length_replicate, fold_or32, fold_xor32, fold_and32, fold_shl32, fold_shr32, fold_add32, fold_not32, sc_one, encL, blocksS, zs32_imv]; omega)))
  have hq : b.length < 64 * n + 64 := by omega
  have e2 : (64 * (n : Int)).toNat = 64 * n := by omega
  have eP0 : (b.drop (64 * n) ++ [128]).length = b.length - 64 * n + 1 := by rw [List.length_append, List.length_drop]; rfl
  have hzc := zc_ok b.length
  have hzl := zc_lt b.length
  simp only [VC0, VC1, VC2, VC3, VC4, VC5, VC6, VC7, VC8, reduceIte, reduceCtorEq, Nat.reduceEqDiff, Nat.reduceAdd, Nat.reduceMul, Nat.reduceBEq, Nat.reduceLT, Nat.reduceLeDiff, Int.reduceEq, Int.reduceLT, Int.reduceLE, Int.reduceNeg, Int.reduceToNat, Int.reduceAdd, Nat.reduceDiv, Nat.reduceSub, Nat.reduceMod, encL, lk_len, lk_ld, lk_set, lk_app, lk_imv, lk_snap, lk_sok, lk_one, lk_ldall, lk_setall, lk_mk, List.length_set, List.length_append, List.length_singleton, List.length_replicate, fold_or32, fold_xor32, fold_and32, fold_shl32, fold_shr32, fold_add32, fold_not32, sc_one, encL, e2, lk_drop, lk_take, List.take_length, List.length_drop]
  refine And.intro (by omega) (And.intro (by omega) (And.intro (by omega) ?_))
  refine loop_vcg (ι := Nat × (Nat → Nat)) (fun (z, c) => stO [(0, .val (encL (cK .u8) b)), (2, .box zs32), (3, .box (Kc.flatMap (cK .u32))), (4, .box ((blocksS H0 (padS b) n).flatMap (cK .u32))), (6, .own 1 (b.length - 64 * n + 1 + z) ((b.drop (64 * n) ++ [128] ++ List.replicate z 0).flatMap (cK .u8)))] c)
    (fun (z, _) => z ≤ zc b.length) (fun (z, _) => zc b.length - z) (0, _) (Nat.zero_le _) (ent_of _ [] rfl rfl (by
      simp only [VC0, VC1, VC2, VC3, VC4, VC5, VC6, VC7, VC8, reduceIte, reduceCtorEq, Nat.reduceEqDiff, Nat.reduceAdd, Nat.reduceMul, Nat.reduceBEq, Nat.reduceLT, Nat.reduceLeDiff, Int.reduceEq, Int.reduceLT, Int.reduceLE, Int.reduceNeg, Int.reduceToNat, Int.reduceAdd, Nat.reduceDiv, Nat.reduceSub, Nat.reduceMod, encL, lk_len, lk_ld, lk_set, lk_app, lk_imv, lk_snap, lk_sok, lk_one, lk_ldall, lk_setall, lk_mk, List.length_set, List.length_append, List.length_singleton, List.length_replicate, fold_or32, fold_xor32, fold_and32, fold_shl32, fold_shr32, fold_add32, fold_not32, sc_one, encL, zs32_imv, List.replicate_zero, List.append_nil])) ?_
  rintro ⟨z, c⟩ hz
  have hz : z ≤ zc b.length := hz
  have hm : ((((b.length - 64 * n : Nat) : Int) + (1 + (z : Int))).tmod 64 = 56) ↔ z = zc b.length := by
    rw [Int.tmod_eq_emod_of_nonneg (by omega)]; omega
  simp only [VC0, VC1, VC2, VC3, VC4, VC5, VC6, VC7, VC8, reduceIte, reduceCtorEq, Nat.reduceEqDiff, Nat.reduceAdd, Nat.reduceMul, Nat.reduceBEq, Nat.reduceLT, Nat.reduceLeDiff, Int.reduceEq, Int.reduceLT, Int.reduceLE, Int.reduceNeg, Int.reduceToNat, Int.reduceAdd, Nat.reduceDiv, Nat.reduceSub, Nat.reduceMod, encL, encL, hm]
  refine And.intro (by decide) (condDn_of (fun hc2 => ?_) (fun hc2 => ?_))
  · have hz' : z < zc b.length := by omega
    simp only [VC0, VC1, VC2, VC3, VC4, VC5, VC6, VC7, VC8, reduceIte, reduceCtorEq, Nat.reduceEqDiff, Nat.reduceAdd, Nat.reduceMul, Nat.reduceBEq, Nat.reduceLT, Nat.reduceLeDiff, Int.reduceEq, Int.reduceLT, Int.reduceLE, Int.reduceNeg, Int.reduceToNat, Int.reduceAdd, Nat.reduceDiv, Nat.reduceSub, Nat.reduceMod, encL, lk_len, lk_ld, lk_set, lk_app, lk_imv, lk_snap, lk_sok, lk_one, lk_ldall, lk_setall, lk_mk, List.length_set, List.length_append, List.length_singleton, List.length_replicate, fold_or32, fold_xor32, fold_and32, fold_shl32, fold_shr32, fold_add32, fold_not32, sc_one, encL, List.length_drop]
    refine And.intro (by omega) (backTo_of (z + 1, _) hz' (by simp only []; omega) (ent_of _ [] rfl rfl ?_))
    simp only [VC0, VC1, VC2, VC3, VC4, VC5, VC6, VC7, VC8, reduceIte, reduceCtorEq, Nat.reduceEqDiff, Nat.reduceAdd, Nat.reduceMul, Nat.reduceBEq, Nat.reduceLT, Nat.reduceLeDiff, Int.reduceEq, Int.reduceLT, Int.reduceLE, Int.reduceNeg, Int.reduceToNat, Int.reduceAdd, Nat.reduceDiv, Nat.reduceSub, Nat.reduceMod, encL, lk_len, lk_ld, lk_set, lk_app, lk_imv, lk_snap, lk_sok, lk_one, lk_ldall, lk_setall, lk_mk, List.length_set, List.length_append, List.length_singleton, List.length_replicate, fold_or32, fold_xor32, fold_and32, fold_shl32, fold_shr32, fold_add32, fold_not32, sc_one, encL, zs32_imv, List.replicate_succ', ← List.append_assoc]
  subst hc2
  have w1 : IntKind.u64.wrap (b.length : Int) = b.length := wrap_u64 (by omega) (by omega)
  have w2 : IntKind.u64.wrap ((b.length : Int) * 8) = ((8 * b.length : Nat) : Int) := by rw [wrap_u64 (by omega) (by omega)]; omega
  simp only [VC0, VC1, VC2, VC3, VC4, VC5, VC6, VC7, VC8, reduceIte, reduceCtorEq, Nat.reduceEqDiff, Nat.reduceAdd, Nat.reduceMul, Nat.reduceBEq, Nat.reduceLT, Nat.reduceLeDiff, Int.reduceEq, Int.reduceLT, Int.reduceLE, Int.reduceNeg, Int.reduceToNat, Int.reduceAdd, Nat.reduceDiv, Nat.reduceSub, Nat.reduceMod, encL, encL, w1, w2]
  refine loop_vcg (ι := Nat × (Nat → Nat)) (fun (j, c) => stO [(2, .box zs32), (3, .box (Kc.flatMap (cK .u32))), (4, .box ((blocksS H0 (padS b) n).flatMap (cK .u32))), (6, .own 1 (b.length - 64 * n + 1 + zc b.length + j) ((b.drop (64 * n) ++ [128] ++ List.replicate (zc b.length) 0 ++ lenB b.length j).flatMap (cK .u8))),
      (7, .val (.int .u64 ((8 * b.length : Nat) : Int))), (8, .val (.int .i64 (56 - 8 * (j : Int))))] c)
    (fun (j, _) => j ≤ 8) (fun (j, _) => 8 - j) (0, _) (Nat.zero_le _) (ent_of _ [] rfl rfl (by
      simp only [VC0, VC1, VC2, VC3, VC4, VC5, VC6, VC7, VC8, reduceIte, reduceCtorEq, Nat.reduceEqDiff, Nat.reduceAdd, Nat.reduceMul, Nat.reduceBEq, Nat.reduceLT, Nat.reduceLeDiff, Int.reduceEq, Int.reduceLT, Int.reduceLE, Int.reduceNeg, Int.reduceToNat, Int.reduceAdd, Nat.reduceDiv, Nat.reduceSub, Nat.reduceMod, encL, lk_len, lk_ld, lk_set, lk_app, lk_imv, lk_snap, lk_sok, lk_one, lk_ldall, lk_setall, lk_mk, List.length_set, List.length_append, List.length_singleton, List.length_replicate, fold_or32, fold_xor32, fold_and32, fold_shl32, fold_shr32, fold_add32, fold_not32, sc_one, encL, zs32_imv, lenB, List.append_nil, Int.mul_zero, Int.sub_zero])) ?_
  rintro ⟨j, c⟩ hj
  have hj : j ≤ 8 := hj
  simp only [VC0, VC1, VC2, VC3, VC4, VC5, VC6, VC7, VC8, reduceIte, reduceCtorEq, Nat.reduceEqDiff, Nat.reduceAdd, Nat.reduceMul, Nat.reduceBEq, Nat.reduceLT, Nat.reduceLeDiff, Int.reduceEq, Int.reduceLT, Int.reduceLE, Int.reduceNeg, Int.reduceToNat, Int.reduceAdd, Nat.reduceDiv, Nat.reduceSub, Nat.reduceMod, encL]
  refine condD_of (fun hc3 => ?_) (fun hc3 => ?_)
  · have hj' : j < 8 := by omega
    have w3 : IntKind.u64.wrap (56 - 8 * (j : Int)) = ((56 - 8 * j : Nat) : Int) := by rw [wrap_u64 (by omega) (by omega)]; omega
    have i3 : InI64 (56 - 8 * (j : Int) - 8) := by unfold InI64; omega
    have i4 : 0 ≤ ((56 - 8 * j : Nat) : Int) := by omega
    simp only [VC0, VC1, VC2, VC3, VC4, VC5, VC6, VC7, VC8, reduceIte, reduceCtorEq, Nat.reduceEqDiff, Nat.reduceAdd, Nat.reduceMul, Nat.reduceBEq, Nat.reduceLT, Nat.reduceLeDiff, Int.reduceEq, Int.reduceLT, Int.reduceLE, Int.reduceNeg, Int.reduceToNat, Int.reduceAdd, Nat.reduceDiv, Nat.reduceSub, Nat.reduceMod, encL, lk_len, lk_ld, lk_set, lk_app, lk_imv, lk_snap, lk_sok, lk_one, lk_ldall, lk_setall, lk_mk, List.length_set, List.length_append, List.length_singleton, List.length_replicate, fold_or32, fold_xor32, fold_and32, fold_shl32, fold_shr32, fold_add32, fold_not32, sc_one, w3, i3, i4, List.length_drop, lenB_len]
    refine And.intro (by omega) (backTo_of (j + 1, _) hj' (by simp only []; omega) (ent_of _ [] rfl rfl ?_))
    simp only [VC0, VC1, VC2, VC3, VC4, VC5, VC6, VC7, VC8, reduceIte, reduceCtorEq, Nat.reduceEqDiff, Nat.reduceAdd, Nat.reduceMul, Nat.reduceBEq, Nat.reduceLT, Nat.reduceLeDiff, Int.reduceEq, Int.reduceLT, Int.reduceLE, Int.reduceNeg, Int.reduceToNat, Int.reduceAdd, Nat.reduceDiv, Nat.reduceSub, Nat.reduceMod, encL, lk_len, lk_ld, lk_set, lk_app, lk_imv, lk_snap, lk_sok, lk_one, lk_ldall, lk_setall, lk_mk, List.length_set, List.length_append, List.length_singleton, List.length_replicate, fold_or32, fold_xor32, fold_and32, fold_shl32, fold_shr32, fold_add32, fold_not32, sc_one, zs32_imv, lenB, byteL, ← List.append_assoc]
    omega
  have hj8 : j = 8 := by omega
  subst hj8
  simp only [VC0, VC1, VC2, VC3, VC4, VC5, VC6, VC7, VC8, reduceIte, reduceCtorEq, Nat.reduceEqDiff, Nat.reduceAdd, Nat.reduceMul, Nat.reduceBEq, Nat.reduceLT, Nat.reduceLeDiff, Int.reduceEq, Int.reduceLT, Int.reduceLE, Int.reduceNeg, Int.reduceToNat, Int.reduceAdd, Nat.reduceDiv, Nat.reduceSub, Nat.reduceMod, encL]
  have hM : b.drop (64 * n) ++ [128] ++ List.replicate (zc b.length) 0 ++ lenB b.length 8 = (padS b).drop (64 * n) := by
    unfold padS
    rw [List.append_assoc, List.append_assoc, List.append_assoc, List.append_assoc, List.drop_append_of_le_length (by omega)]
  rw [hM] at *
  have hPl := padS_len b
  have hMl : ((padS b).drop (64 * n)).length = (padS b).length - 64 * n := List.length_drop ..
  have hr : (padS b).length = 64 * n + 64 * ((padS b).length / 64 - n) := by have := padS_div b; omega
  have hfin : blocksS (blocksS H0 (padS b) n) ((padS b).drop (64 * n)) ((padS b).length / 64 - n) = blocksS H0 (padS b) ((padS b).length / 64) := by
    rw [← blocksS_add]; congr 1; omega
  have hol : b.length - 64 * n + (1 + (zc b.length + 8)) = ((padS b).drop (64 * n)).length := by omega
  generalize (padS b).length / 64 - n = r at hr hfin
  rw [← hfin]
  generalize blocksS H0 (padS b) n = h0 at hbl
  have hMl2 : ((padS b).drop (64 * n)).length = 64 * r := by omega
  generalize (padS b).drop (64 * n) = M at hMl2 hol
  clear hfin hM
  simp only [VC0, VC1, VC2, VC3, VC4, VC5, VC6, VC7, VC8, reduceIte, reduceCtorEq, Nat.reduceEqDiff, Nat.reduceAdd, Nat.reduceMul, Nat.reduceBEq, Nat.reduceLT, Nat.reduceLeDiff, Int.reduceEq, Int.reduceLT, Int.reduceLE, Int.reduceNeg, Int.reduceToNat, Int.reduceAdd, Nat.reduceDiv, Nat.reduceSub, Nat.reduceMod, encL, hol]
  refine loop_vcg (ι := Nat × (Nat → Nat)) (fun (m, c) => stO [(2, .box zs32), (3, .box (Kc.flatMap (cK .u32))), (4, .box ((blocksS h0 M m).flatMap (cK .u32))), (5, .val (.int .i64 (64 * (m : Int)))), (6, .own 1 M.length (M.flatMap (cK .u8)))] c)
    (fun (m, _) => m ≤ r) (fun (m, _) => r - m) (0, _) (Nat.zero_le _) (ent_of _ [] rfl rfl (by
      simp only [VC0, VC1, VC2, VC3, VC4, VC5, VC6, VC7, VC8, reduceIte, reduceCtorEq, Nat.reduceEqDiff, Nat.reduceAdd, Nat.reduceMul, Nat.reduceBEq, Nat.reduceLT, Nat.reduceLeDiff, Int.reduceEq, Int.reduceLT, Int.reduceLE, Int.reduceNeg, Int.reduceToNat, Int.reduceAdd, Nat.reduceDiv, Nat.reduceSub, Nat.reduceMod, encL, lk_len, lk_ld, lk_set, lk_app, lk_imv, lk_snap, lk_sok, lk_one, lk_ldall, lk_setall, lk_mk, List.length_set, List.length_append, List.length_singleton, List.length_replicate, fold_or32, fold_xor32, fold_and32, fold_shl32, fold_shr32, fold_add32, fold_not32, sc_one, zs32_imv, blocksS, Int.mul_zero])) ?_
  rintro ⟨m, c⟩ hm2
  have hm2 : m ≤ r := hm2
  have hml := blocksS_len (m := M) hbl m
  simp only [VC0, VC1, VC2, VC3, VC4, VC5, VC6, VC7, VC8, reduceIte, reduceCtorEq, Nat.reduceEqDiff, Nat.reduceAdd, Nat.reduceMul, Nat.reduceBEq, Nat.reduceLT, Nat.reduceLeDiff, Int.reduceEq, Int.reduceLT, Int.reduceLE, Int.reduceNeg, Int.reduceToNat, Int.reduceAdd, Nat.reduceDiv, Nat.reduceSub, Nat.reduceMod, encL]
  refine condD_of (fun hc4 => ?_) (fun hc4 => ?_)
  · have hm' : m < r := by omega
    have e1 : (64 * (m : Int) + 64).toNat = 64 * m + 64 := by omega
    have e2 : (64 * (m : Int)).toNat = 64 * m := by omega
    have hX : ((M.drop (64 * m)).take 64).length = 64 := by rw [List.length_take, List.length_drop]; omega
    have hblk := block_ret (blocksS h0 M m) Kc ((M.drop (64 * m)).take 64) hml Kc_len hX
    simp only [encL, hX] at hblk
    have e3 : 64 * m + 64 ≤ M.length := by omega
    have e4 : (64 * m + 64) - 64 * m = 64 := by omega
    simp only [VC0, VC1, VC2, VC3, VC4, VC5, VC6, VC7, VC8, reduceIte, reduceCtorEq, Nat.reduceEqDiff, Nat.reduceAdd, Nat.reduceMul, Nat.reduceBEq, Nat.reduceLT, Nat.reduceLeDiff, Int.reduceEq, Int.reduceLT, Int.reduceLE, Int.reduceNeg, Int.reduceToNat, Int.reduceAdd, Nat.reduceDiv, Nat.reduceSub, Nat.reduceMod, encL, lk_len, lk_ld, lk_set, lk_app, lk_imv, lk_snap, lk_sok, lk_one, lk_ldall, lk_setall, lk_mk, List.length_set, List.length_append, List.length_singleton, List.length_replicate, fold_or32, fold_xor32, fold_and32, fold_shl32, fold_shr32, fold_add32, fold_not32, sc_one, lk_ldall hml, lk_ldall Kc_len, e1, e2, lk_take, lk_drop, List.drop_take, Nat.add_sub_cancel_left, e3]
    refine And.intro (by unfold InI64; omega) (And.intro (by omega) ?_)
    refine callV_of hblk (.inr (lk_flat 3 _)) ?_
    have hml' := blocksS_len (m := M) hbl (m + 1)
    simp only [blocksS] at hml'
    simp only [VC0, VC1, VC2, VC3, VC4, VC5, VC6, VC7, VC8, reduceIte, reduceCtorEq, Nat.reduceEqDiff, Nat.reduceAdd, Nat.reduceMul, Nat.reduceBEq, Nat.reduceLT, Nat.reduceLeDiff, Int.reduceEq, Int.reduceLT, Int.reduceLE, Int.reduceNeg, Int.reduceToNat, Int.reduceAdd, Nat.reduceDiv, Nat.reduceSub, Nat.reduceMod, encL, lk_len, lk_ld, lk_set, lk_app, lk_imv, lk_snap, lk_sok, lk_one, lk_ldall, lk_setall, lk_mk, List.length_set, List.length_append, List.length_singleton, List.length_replicate, fold_or32, fold_xor32, fold_and32, fold_shl32, fold_shr32, fold_add32, fold_not32, sc_one, hml, hml']
    refine And.intro (by unfold InI64; omega) (backTo_of (m + 1, _) hm' (by simp only []; omega) (ent_of _ [] rfl rfl (by simp only [VC0, VC1, VC2, VC3, VC4, VC5, VC6, VC7, VC8, reduceIte, reduceCtorEq, Nat.reduceEqDiff, Nat.reduceAdd, Nat.reduceMul, Nat.reduceBEq, Nat.reduceLT, Nat.reduceLeDiff, Int.reduceEq, Int.reduceLT, Int.reduceLE, Int.reduceNeg, Int.reduceToNat, Int.reduceAdd, Nat.reduceDiv, Nat.reduceSub, Nat.reduceMod, encL, lk_len, lk_ld, lk_set, lk_app, lk_imv, lk_snap, lk_sok, lk_one, lk_ldall, lk_setall, lk_mk, List.length_set, List.length_append, List.length_singleton, List.length_replicate, fold_or32, fold_xor32, fold_and32, fold_shl32, fold_shr32, fold_add32, fold_not32, sc_one, blocksS, zs32_imv]; omega)))
  have hm' : m = r := by omega
  subst hm'
  generalize blocksS h0 M m = hh at hml
  simp only [VC0, VC1, VC2, VC3, VC4, VC5, VC6, VC7, VC8, reduceIte, reduceCtorEq, Nat.reduceEqDiff, Nat.reduceAdd, Nat.reduceMul, Nat.reduceBEq, Nat.reduceLT, Nat.reduceLeDiff, Int.reduceEq, Int.reduceLT, Int.reduceLE, Int.reduceNeg, Int.reduceToNat, Int.reduceAdd, Nat.reduceDiv, Nat.reduceSub, Nat.reduceMod, encL]
  refine loop_vcg (ι := Nat × (Nat → Nat)) (fun (i, c) => stO [(2, .box zs32), (4, .box (hh.flatMap (cK .u32))), (9, .box ((outF hh i).flatMap (cK .u8))), (72, .val (.int .i64 i))] c)
    (fun (i, _) => i ≤ 32) (fun (i, _) => 32 - i) (0, _) (Nat.zero_le _) (ent_of _ [] rfl rfl (by
      simp only [VC0, VC1, VC2, VC3, VC4, VC5, VC6, VC7, VC8, reduceIte, reduceCtorEq, Nat.reduceEqDiff, Nat.reduceAdd, Nat.reduceMul, Nat.reduceBEq, Nat.reduceLT, Nat.reduceLeDiff, Int.reduceEq, Int.reduceLT, Int.reduceLE, Int.reduceNeg, Int.reduceToNat, Int.reduceAdd, Nat.reduceDiv, Nat.reduceSub, Nat.reduceMod, encL, lk_len, lk_ld, lk_set, lk_app, lk_imv, lk_snap, lk_sok, lk_one, lk_ldall, lk_setall, lk_mk, List.length_set, List.length_append, List.length_singleton, List.length_replicate, fold_or32, fold_xor32, fold_and32, fold_shl32, fold_shr32, fold_add32, fold_not32, sc_one, zs32_imv, outF]; rfl)) ?_
  rintro ⟨i, c⟩ hi
  have hi : i ≤ 32 := hi
  have hol2 := outF_len hh i
  simp only [VC0, VC1, VC2, VC3, VC4, VC5, VC6, VC7, VC8, reduceIte, reduceCtorEq, Nat.reduceEqDiff, Nat.reduceAdd, Nat.reduceMul, Nat.reduceBEq, Nat.reduceLT, Nat.reduceLeDiff, Int.reduceEq, Int.reduceLT, Int.reduceLE, Int.reduceNeg, Int.reduceToNat, Int.reduceAdd, Nat.reduceDiv, Nat.reduceSub, Nat.reduceMod, encL]
  refine condD_of (fun hc5 => ?_) (fun hc5 => ?_)
  · have hi' : i < 32 := by omega
    have d1 : (i : Int).tdiv 4 = ((i / 4 : Nat) : Int) := by rw [Int.tdiv_eq_ediv_of_nonneg (by omega)]; omega
    have d2 : (i : Int).tmod 4 = ((i % 4 : Nat) : Int) := by rw [Int.tmod_eq_emod_of_nonneg (by omega)]; omega
    have d3 : IntKind.u64.wrap (24 - 8 * ((i % 4 : Nat) : Int)) = ((24 - 8 * (i % 4) : Nat) : Int) := by rw [wrap_u64 (by omega) (by omega)]; omega
    have d4 : i / 4 < hh.length := by omega
    have d5 : i < (outF hh i).length := by omega
    have d6 : i + 1 ≤ (outF hh i).length := by omega
    have d7 : i / 4 + 1 ≤ hh.length := by omega
    have i1 : InI64 (i / 4 : Nat) ∧ InI64 (8 * ((i % 4 : Nat) : Int)) ∧ InI64 (24 - 8 * ((i % 4 : Nat) : Int)) ∧ InI64 ((i : Int) + 1) := by unfold InI64; omega
    have i2 : (0 ≤ ((i / 4 : Nat) : Int) ∧ ((i / 4 : Nat) : Int) < 8) ∧ (0 ≤ (i : Int) ∧ (i : Int) < 32) ∧ 0 ≤ ((24 - 8 * (i % 4) : Nat) : Int) := by omega
    simp only [VC0, VC1, VC2, VC3, VC4, VC5, VC6, VC7, VC8, reduceIte, reduceCtorEq, Nat.reduceEqDiff, Nat.reduceAdd, Nat.reduceMul, Nat.reduceBEq, Nat.reduceLT, Nat.reduceLeDiff, Int.reduceEq, Int.reduceLT, Int.reduceLE, Int.reduceNeg, Int.reduceToNat, Int.reduceAdd, Nat.reduceDiv, Nat.reduceSub, Nat.reduceMod, encL, lk_len, lk_ld, lk_set, lk_app, lk_imv, lk_snap, lk_sok, lk_one, lk_ldall, lk_setall, lk_mk, List.length_set, List.length_append, List.length_singleton, List.length_replicate, fold_or32, fold_xor32, fold_and32, fold_shl32, fold_shr32, fold_add32, fold_not32, sc_one, d1, d2, d3, d4, d5, d6, d7, i1, i2]
    exact And.intro (by decide) (And.intro (by decide) (backTo_of (i + 1, _) hi' (by simp only []; omega) (ent_of _ [] rfl rfl (by simp only [VC0, VC1, VC2, VC3, VC4, VC5, VC6, VC7, VC8, reduceIte, reduceCtorEq, Nat.reduceEqDiff, Nat.reduceAdd, Nat.reduceMul, Nat.reduceBEq, Nat.reduceLT, Nat.reduceLeDiff, Int.reduceEq, Int.reduceLT, Int.reduceLE, Int.reduceNeg, Int.reduceToNat, Int.reduceAdd, Nat.reduceDiv, Nat.reduceSub, Nat.reduceMod, encL, lk_len, lk_ld, lk_set, lk_app, lk_imv, lk_snap, lk_sok, lk_one, lk_ldall, lk_setall, lk_mk, List.length_set, List.length_append, List.length_singleton, List.length_replicate, fold_or32, fold_xor32, fold_and32, fold_shl32, fold_shr32, fold_add32, fold_not32, sc_one, zs32_imv, outF]))))
  have hi' : i = 32 := by omega
  subst hi'
  have hset : setCells zs32 0 ((outF hh 32).flatMap (cK .u8)) = (outF hh 32).flatMap (cK .u8) := setCells_all (by rw [lk_len, hol2]; rfl)
  simp only [VC0, VC1, VC2, VC3, VC4, VC5, VC6, VC7, VC8, reduceIte, reduceCtorEq, Nat.reduceEqDiff, Nat.reduceAdd, Nat.reduceMul, Nat.reduceBEq, Nat.reduceLT, Nat.reduceLeDiff, Int.reduceEq, Int.reduceLT, Int.reduceLE, Int.reduceNeg, Int.reduceToNat, Int.reduceAdd, Nat.reduceDiv, Nat.reduceSub, Nat.reduceMod, encL, lk_len, lk_ld, lk_set, lk_app, lk_imv, lk_snap, lk_sok, lk_one, lk_ldall, lk_setall, lk_mk, List.length_set, List.length_append, List.length_singleton, List.length_replicate, fold_or32, fold_xor32, fold_and32, fold_shl32, fold_shr32, fold_add32, fold_not32, sc_one, lk_ldall hol2, hol2, hset, zs32_len]

end Go.Proofs.Ythpffaofpcikiaa

set_option linter.unusedSimpArgs false
set_option linter.unusedVariables false
namespace Go.Proofs.Ythpffaofpcikiaa
open Go Go.Lg Go.RowKit
set_option maxRecDepth 20000

set_option maxHeartbeats 4000000 in
theorem rwords_ret : PRet Try.prog 25 [] (.agg (Kc.flatMap (cK .u32))) := by
  refine pret_intro fd25 (by simp) ?_
  simp only [lc25, VC0, VC1, VC2, VC3, VC4, VC5, VC6, VC7, VC8, reduceIte, reduceCtorEq, Nat.reduceEqDiff, Nat.reduceAdd, Nat.reduceMul, Nat.reduceBEq, Nat.reduceLT, Nat.reduceLeDiff, Int.reduceEq, Int.reduceLT, Int.reduceLE, Int.reduceNeg, Int.reduceToNat, Int.reduceAdd, Nat.reduceDiv, Nat.reduceSub, Nat.reduceMod, encL]
  repeat' (first | kernel_rfl | refine And.intro ?_ ?_)
  exact ⟨.agg (Kc.flatMap (cK .u32)), by kernel_rfl, by kernel_rfl⟩

set_option maxHeartbeats 8000000 in
theorem rsum_ret (b : List Int) (hb : b.length ≤ 1000) (hby : ∀ x ∈ b, 0 ≤ x ∧ x < 256) : PRet Try.prog 9 [encL (cK .u8) b] (.agg ((sumS b).flatMap (cK .u8))) := by
  have hrng := padS_rng b hby
  have hzc := zc_ok b.length
  have hzl := zc_lt b.length
  unfold sumS
  refine pret_intro fd9 (by simp) ?_
  simp only [lc9, VC0, VC1, VC2, VC3, VC4, VC5, VC6, VC7, VC8, reduceIte, reduceCtorEq, Nat.reduceEqDiff, Nat.reduceAdd, Nat.reduceMul, Nat.reduceBEq, Nat.reduceLT, Nat.reduceLeDiff, Int.reduceEq, Int.reduceLT, Int.reduceLE, Int.reduceNeg, Int.reduceToNat, Int.reduceAdd, Nat.reduceDiv, Nat.reduceSub, Nat.reduceMod, encL, lk_len, lk_ld, lk_set, lk_app, lk_imv, lk_snap, lk_sok, lk_one, lk_ldall, lk_setall, lk_mk, List.length_set, List.length_append, List.length_singleton, List.length_replicate, fold_or32, fold_xor32, fold_and32, fold_shl32, fold_shr32, fold_add32, fold_not32, sc_one, encL]
  refine And.intro (by omega) (And.intro (by omega) ?_)
  refine loop_vcg (ι := Nat × (Nat → Nat)) (fun (z, c) => stO [(0, .val (encL (cK .u8) b)), (2, .box zs32), (3, .own 1 (b.length + 1 + z) ((b ++ [128] ++ List.replicate z 0).flatMap (cK .u8)))] c)
    (fun (z, _) => z ≤ zc b.length) (fun (z, _) => zc b.length - z) (0, _) (Nat.zero_le _) (ent_of _ [] rfl rfl (by
      simp only [VC0, VC1, VC2, VC3, VC4, VC5, VC6, VC7, VC8, reduceIte, reduceCtorEq, Nat.reduceEqDiff, Nat.reduceAdd, Nat.reduceMul, Nat.reduceBEq, Nat.reduceLT, Nat.reduceLeDiff, Int.reduceEq, Int.reduceLT, Int.reduceLE, Int.reduceNeg, Int.reduceToNat, Int.reduceAdd, Nat.reduceDiv, Nat.reduceSub, Nat.reduceMod, encL, lk_len, lk_ld, lk_set, lk_app, lk_imv, lk_snap, lk_sok, lk_one, lk_ldall, lk_setall, lk_mk, List.length_set, List.length_append, List.length_singleton, List.length_replicate, fold_or32, fold_xor32, fold_and32, fold_shl32, fold_shr32, fold_add32, fold_not32, sc_one, encL, zs32_imv, List.replicate_zero, List.append_nil, zs32])) ?_
  rintro ⟨z, c⟩ hz
  have hz : z ≤ zc b.length := hz
  have hm : (((b.length : Int) + (1 + (z : Int))).tmod 64 = 56) ↔ z = zc b.length := by
    rw [Int.tmod_eq_emod_of_nonneg (by omega)]; omega
  simp only [VC0, VC1, VC2, VC3, VC4, VC5, VC6, VC7, VC8, reduceIte, reduceCtorEq, Nat.reduceEqDiff, Nat.reduceAdd, Nat.reduceMul, Nat.reduceBEq, Nat.reduceLT, Nat.reduceLeDiff, Int.reduceEq, Int.reduceLT, Int.reduceLE, Int.reduceNeg, Int.reduceToNat, Int.reduceAdd, Nat.reduceDiv, Nat.reduceSub, Nat.reduceMod, encL, encL, hm]
  refine And.intro (by decide) (condDn_of (fun hc2 => ?_) (fun hc2 => ?_))
  · have hz' : z < zc b.length := by omega
    simp only [VC0, VC1, VC2, VC3, VC4, VC5, VC6, VC7, VC8, reduceIte, reduceCtorEq, Nat.reduceEqDiff, Nat.reduceAdd, Nat.reduceMul, Nat.reduceBEq, Nat.reduceLT, Nat.reduceLeDiff, Int.reduceEq, Int.reduceLT, Int.reduceLE, Int.reduceNeg, Int.reduceToNat, Int.reduceAdd, Nat.reduceDiv, Nat.reduceSub, Nat.reduceMod, encL, lk_len, lk_ld, lk_set, lk_app, lk_imv, lk_snap, lk_sok, lk_one, lk_ldall, lk_setall, lk_mk, List.length_set, List.length_append, List.length_singleton, List.length_replicate, fold_or32, fold_xor32, fold_and32, fold_shl32, fold_shr32, fold_add32, fold_not32, sc_one, encL]
    refine And.intro (by omega) (backTo_of (z + 1, _) hz' (by simp only []; omega) (ent_of _ [] rfl rfl ?_))
    simp only [VC0, VC1, VC2, VC3, VC4, VC5, VC6, VC7, VC8, reduceIte, reduceCtorEq, Nat.reduceEqDiff, Nat.reduceAdd, Nat.reduceMul, Nat.reduceBEq, Nat.reduceLT, Nat.reduceLeDiff, Int.reduceEq, Int.reduceLT, Int.reduceLE, Int.reduceNeg, Int.reduceToNat, Int.reduceAdd, Nat.reduceDiv, Nat.reduceSub, Nat.reduceMod, encL, lk_len, lk_ld, lk_set, lk_app, lk_imv, lk_snap, lk_sok, lk_one, lk_ldall, lk_setall, lk_mk, List.length_set, List.length_append, List.length_singleton, List.length_replicate, fold_or32, fold_xor32, fold_and32, fold_shl32, fold_shr32, fold_add32, fold_not32, sc_one, encL, zs32_imv, List.replicate_succ', ← List.append_assoc]
  subst hc2
  have w1 : IntKind.u64.wrap (b.length : Int) = b.length := wrap_u64 (by omega) (by omega)
  have w2 : IntKind.u64.wrap ((b.length : Int) * 8) = ((8 * b.length : Nat) : Int) := by rw [wrap_u64 (by omega) (by omega)]; omega
  simp only [VC0, VC1, VC2, VC3, VC4, VC5, VC6, VC7, VC8, reduceIte, reduceCtorEq, Nat.reduceEqDiff, Nat.reduceAdd, Nat.reduceMul, Nat.reduceBEq, Nat.reduceLT, Nat.reduceLeDiff, Int.reduceEq, Int.reduceLT, Int.reduceLE, Int.reduceNeg, Int.reduceToNat, Int.reduceAdd, Nat.reduceDiv, Nat.reduceSub, Nat.reduceMod, encL, encL, w1, w2]
  refine loop_vcg (ι := Nat × (Nat → Nat)) (fun (j, c) => stO [(2, .box zs32), (3, .own 1 (b.length + 1 + zc b.length + j) ((b ++ [128] ++ List.replicate (zc b.length) 0 ++ lenB b.length j).flatMap (cK .u8))),
      (4, .val (.int .u64 ((8 * b.length : Nat) : Int))), (5, .val (.int .i64 (7 - (j : Int))))] c)
    (fun (j, _) => j ≤ 8) (fun (j, _) => 8 - j) (0, _) (Nat.zero_le _) (ent_of _ [] rfl rfl (by
      simp only [VC0, VC1, VC2, VC3, VC4, VC5, VC6, VC7, VC8, reduceIte, reduceCtorEq, Nat.reduceEqDiff, Nat.reduceAdd, Nat.reduceMul, Nat.reduceBEq, Nat.reduceLT, Nat.reduceLeDiff, Int.reduceEq, Int.reduceLT, Int.reduceLE, Int.reduceNeg, Int.reduceToNat, Int.reduceAdd, Nat.reduceDiv, Nat.reduceSub, Nat.reduceMod, encL, lk_len, lk_ld, lk_set, lk_app, lk_imv, lk_snap, lk_sok, lk_one, lk_ldall, lk_setall, lk_mk, List.length_set, List.length_append, List.length_singleton, List.length_replicate, fold_or32, fold_xor32, fold_and32, fold_shl32, fold_shr32, fold_add32, fold_not32, sc_one, encL, zs32_imv, lenB, List.append_nil, Int.sub_zero])) ?_
  rintro ⟨j, c⟩ hj
  have hj : j ≤ 8 := hj
  simp only [VC0, VC1, VC2, VC3, VC4, VC5, VC6, VC7, VC8, reduceIte, reduceCtorEq, Nat.reduceEqDiff, Nat.reduceAdd, Nat.reduceMul, Nat.reduceBEq, Nat.reduceLT, Nat.reduceLeDiff, Int.reduceEq, Int.reduceLT, Int.reduceLE, Int.reduceNeg, Int.reduceToNat, Int.reduceAdd, Nat.reduceDiv, Nat.reduceSub, Nat.reduceMod, encL]
  refine condD_of (fun hc3 => ?_) (fun hc3 => ?_)
  · have hj' : j < 8 := by omega
    have w3 : IntKind.u64.wrap (8 * (7 - (j : Int))) = ((56 - 8 * j : Nat) : Int) := by rw [wrap_u64 (by omega) (by omega)]; omega
    have i3 : InI64 (7 - (j : Int) - 1) ∧ InI64 (8 * (7 - (j : Int))) := by unfold InI64; omega
    have i4 : 0 ≤ ((56 - 8 * j : Nat) : Int) := by omega
    simp only [VC0, VC1, VC2, VC3, VC4, VC5, VC6, VC7, VC8, reduceIte, reduceCtorEq, Nat.reduceEqDiff, Nat.reduceAdd, Nat.reduceMul, Nat.reduceBEq, Nat.reduceLT, Nat.reduceLeDiff, Int.reduceEq, Int.reduceLT, Int.reduceLE, Int.reduceNeg, Int.reduceToNat, Int.reduceAdd, Nat.reduceDiv, Nat.reduceSub, Nat.reduceMod, encL, lk_len, lk_ld, lk_set, lk_app, lk_imv, lk_snap, lk_sok, lk_one, lk_ldall, lk_setall, lk_mk, List.length_set, List.length_append, List.length_singleton, List.length_replicate, fold_or32, fold_xor32, fold_and32, fold_shl32, fold_shr32, fold_add32, fold_not32, sc_one, w3, i3, i4, lenB_len]
    refine And.intro (by omega) (backTo_of (j + 1, _) hj' (by simp only []; omega) (ent_of _ [] rfl rfl ?_))
    simp only [VC0, VC1, VC2, VC3, VC4, VC5, VC6, VC7, VC8, reduceIte, reduceCtorEq, Nat.reduceEqDiff, Nat.reduceAdd, Nat.reduceMul, Nat.reduceBEq, Nat.reduceLT, Nat.reduceLeDiff, Int.reduceEq, Int.reduceLT, Int.reduceLE, Int.reduceNeg, Int.reduceToNat, Int.reduceAdd, Nat.reduceDiv, Nat.reduceSub, Nat.reduceMod, encL, lk_len, lk_ld, lk_set, lk_app, lk_imv, lk_snap, lk_sok, lk_one, lk_ldall, lk_setall, lk_mk, List.length_set, List.length_append, List.length_singleton, List.length_replicate, fold_or32, fold_xor32, fold_and32, fold_shl32, fold_shr32, fold_add32, fold_not32, sc_one, zs32_imv, lenB, byteL, ← List.append_assoc]
    omega
  have hj8 : j = 8 := by omega
  subst hj8
  simp only [VC0, VC1, VC2, VC3, VC4, VC5, VC6, VC7, VC8, reduceIte, reduceCtorEq, Nat.reduceEqDiff, Nat.reduceAdd, Nat.reduceMul, Nat.reduceBEq, Nat.reduceLT, Nat.reduceLeDiff, Int.reduceEq, Int.reduceLT, Int.reduceLE, Int.reduceNeg, Int.reduceToNat, Int.reduceAdd, Nat.reduceDiv, Nat.reduceSub, Nat.reduceMod, encL, lk_len, lk_ld, lk_set, lk_app, lk_imv, lk_snap, lk_sok, lk_one, lk_ldall, lk_setall, lk_mk, List.length_set, List.length_append, List.length_singleton, List.length_replicate, fold_or32, fold_xor32, fold_and32, fold_shl32, fold_shr32, fold_add32, fold_not32, sc_one, bld8]
  refine callX_of rwords_ret (.inr rfl) ?_
  have hM : b ++ [128] ++ List.replicate (zc b.length) 0 ++ lenB b.length 8 = padS b := rfl
  have hPl := padS_len b
  have hr := padS_div b
  rw [hM] at *
  have hol : b.length + (1 + (zc b.length + 8)) = (padS b).length := by omega
  generalize padS b = M at hr hol hrng
  generalize M.length / 64 = r at hr
  simp only [VC0, VC1, VC2, VC3, VC4, VC5, VC6, VC7, VC8, reduceIte, reduceCtorEq, Nat.reduceEqDiff, Nat.reduceAdd, Nat.reduceMul, Nat.reduceBEq, Nat.reduceLT, Nat.reduceLeDiff, Int.reduceEq, Int.reduceLT, Int.reduceLE, Int.reduceNeg, Int.reduceToNat, Int.reduceAdd, Nat.reduceDiv, Nat.reduceSub, Nat.reduceMod, encL, lk_len, lk_ld, lk_set, lk_app, lk_imv, lk_snap, lk_sok, lk_one, lk_ldall, lk_setall, lk_mk, List.length_set, List.length_append, List.length_singleton, List.length_replicate, fold_or32, fold_xor32, fold_and32, fold_shl32, fold_shr32, fold_add32, fold_not32, sc_one, setCells_all, Kc_len, bld8, hol]
  refine loop_vcg (ι := Nat × (Nat → Nat)) (fun (m, c) => stO [(2, .box zs32), (3, .own 1 M.length (M.flatMap (cK .u8))), (6, .box ((blocksS H0 M m).flatMap (cK .u32))), (7, .box (Kc.flatMap (cK .u32))), (8, .val (.int .i64 (64 * (m : Int))))] c)
    (fun (m, _) => m ≤ r) (fun (m, _) => r - m) (0, _) (Nat.zero_le _) (ent_of _ [] rfl rfl (by
      simp only [VC0, VC1, VC2, VC3, VC4, VC5, VC6, VC7, VC8, reduceIte, reduceCtorEq, Nat.reduceEqDiff, Nat.reduceAdd, Nat.reduceMul, Nat.reduceBEq, Nat.reduceLT, Nat.reduceLeDiff, Int.reduceEq, Int.reduceLT, Int.reduceLE, Int.reduceNeg, Int.reduceToNat, Int.reduceAdd, Nat.reduceDiv, Nat.reduceSub, Nat.reduceMod, encL, lk_len, lk_ld, lk_set, lk_app, lk_imv, lk_snap, lk_sok, lk_one, lk_ldall, lk_setall, lk_mk, List.length_set, List.length_append, List.length_singleton, List.length_replicate, fold_or32, fold_xor32, fold_and32, fold_shl32, fold_shr32, fold_add32, fold_not32, sc_one, zs32_imv, blocksS, Int.mul_zero]; rfl)) ?_
  rintro ⟨m, c⟩ hm2
  have hm2 : m ≤ r := hm2
  have hml := blocksS_len (m := M) H0_len m
  simp only [VC0, VC1, VC2, VC3, VC4, VC5, VC6, VC7, VC8, reduceIte, reduceCtorEq, Nat.reduceEqDiff, Nat.reduceAdd, Nat.reduceMul, Nat.reduceBEq, Nat.reduceLT, Nat.reduceLeDiff, Int.reduceEq, Int.reduceLT, Int.reduceLE, Int.reduceNeg, Int.reduceToNat, Int.reduceAdd, Nat.reduceDiv, Nat.reduceSub, Nat.reduceMod, encL]
  refine condD_of (fun hc4 => ?_) (fun hc4 => ?_)
  · have hm' : m < r := by omega
    have hblk : blocksS H0 M (m + 1) = sumsS (blocksS H0 M m) (roundsS Kc (spreadS ((M.drop (64 * m)).take 64)) (blocksS H0 M m) 64) 8 := rfl
    have hacc : ∀ t, t < 16 → accW (fun j => M.getD (64 * m + (4 * t + j)) 0) 4 = wordS ((M.drop (64 * m)).take 64) t := fun t ht => by have := wordS_acc hrng m t ht; simp only [Nat.add_assoc] at this; exact this
    unfold spreadS at hblk
    generalize hX : (M.drop (64 * m)).take 64 = X at hblk hacc
    simp only [VC0, VC1, VC2, VC3, VC4, VC5, VC6, VC7, VC8, reduceIte, reduceCtorEq, Nat.reduceEqDiff, Nat.reduceAdd, Nat.reduceMul, Nat.reduceBEq, Nat.reduceLT, Nat.reduceLeDiff, Int.reduceEq, Int.reduceLT, Int.reduceLE, Int.reduceNeg, Int.reduceToNat, Int.reduceAdd, Nat.reduceDiv, Nat.reduceSub, Nat.reduceMod, encL]
    generalize blocksS H0 M m = hh at hml hblk
    refine loop_vcg (ι := Nat × (Nat → Nat)) (fun (t, c) => stO [(2, .box zs32), (3, .own 1 M.length (M.flatMap (cK .u8))), (6, .box (hh.flatMap (cK .u32))), (7, .box (Kc.flatMap (cK .u32))), (8, .val (.int .i64 (64 * (m : Int)))), (9, .box ((fillA (wordS X) t).flatMap (cK .u32))), (10, .val (.int .i64 t))] c)
      (fun (t, _) => t ≤ 16) (fun (t, _) => 16 - t) (0, _) (Nat.zero_le _) (ent_of _ [] rfl rfl (by
        simp only [VC0, VC1, VC2, VC3, VC4, VC5, VC6, VC7, VC8, reduceIte, reduceCtorEq, Nat.reduceEqDiff, Nat.reduceAdd, Nat.reduceMul, Nat.reduceBEq, Nat.reduceLT, Nat.reduceLeDiff, Int.reduceEq, Int.reduceLT, Int.reduceLE, Int.reduceNeg, Int.reduceToNat, Int.reduceAdd, Nat.reduceDiv, Nat.reduceSub, Nat.reduceMod, encL, lk_len, lk_ld, lk_set, lk_app, lk_imv, lk_snap, lk_sok, lk_one, lk_ldall, lk_setall, lk_mk, List.length_set, List.length_append, List.length_singleton, List.length_replicate, fold_or32, fold_xor32, fold_and32, fold_shl32, fold_shr32, fold_add32, fold_not32, sc_one, zs32_imv, fillA]; rfl)) ?_
    rintro ⟨t, c⟩ ht
    have ht : t ≤ 16 := ht
    have hA := fillA_len (wordS X) t
    simp only [VC0, VC1, VC2, VC3, VC4, VC5, VC6, VC7, VC8, reduceIte, reduceCtorEq, Nat.reduceEqDiff, Nat.reduceAdd, Nat.reduceMul, Nat.reduceBEq, Nat.reduceLT, Nat.reduceLeDiff, Int.reduceEq, Int.reduceLT, Int.reduceLE, Int.reduceNeg, Int.reduceToNat, Int.reduceAdd, Nat.reduceDiv, Nat.reduceSub, Nat.reduceMod, encL]
    refine condD_of (fun hc6 => ?_) (fun hc6 => ?_)
    · have ht' : t < 16 := by omega
      have hself := fillA_self (wordS X) t (by omega)
      have hac := hacc t ht'
      simp only [VC0, VC1, VC2, VC3, VC4, VC5, VC6, VC7, VC8, reduceIte, reduceCtorEq, Nat.reduceEqDiff, Nat.reduceAdd, Nat.reduceMul, Nat.reduceBEq, Nat.reduceLT, Nat.reduceLeDiff, Int.reduceEq, Int.reduceLT, Int.reduceLE, Int.reduceNeg, Int.reduceToNat, Int.reduceAdd, Nat.reduceDiv, Nat.reduceSub, Nat.reduceMod, encL]
      refine loop_vcg (ι := Nat × (Nat → Nat)) (fun (j, c) => stO [(2, .box zs32), (3, .own 1 M.length (M.flatMap (cK .u8))), (6, .box (hh.flatMap (cK .u32))), (7, .box (Kc.flatMap (cK .u32))), (8, .val (.int .i64 (64 * (m : Int)))), (9, .box (((fillA (wordS X) t).set t (accW (fun j => M.getD (64 * m + (4 * t + j)) 0) j)).flatMap (cK .u32))), (10, .val (.int .i64 t)), (11, .val (.int .i64 j))] c)
        (fun (j, _) => j ≤ 4) (fun (j, _) => 4 - j) (0, _) (Nat.zero_le _) (ent_of _ [] rfl rfl (by
          simp only [VC0, VC1, VC2, VC3, VC4, VC5, VC6, VC7, VC8, reduceIte, reduceCtorEq, Nat.reduceEqDiff, Nat.reduceAdd, Nat.reduceMul, Nat.reduceBEq, Nat.reduceLT, Nat.reduceLeDiff, Int.reduceEq, Int.reduceLT, Int.reduceLE, Int.reduceNeg, Int.reduceToNat, Int.reduceAdd, Nat.reduceDiv, Nat.reduceSub, Nat.reduceMod, encL, lk_len, lk_ld, lk_set, lk_app, lk_imv, lk_snap, lk_sok, lk_one, lk_ldall, lk_setall, lk_mk, List.length_set, List.length_append, List.length_singleton, List.length_replicate, fold_or32, fold_xor32, fold_and32, fold_shl32, fold_shr32, fold_add32, fold_not32, sc_one, zs32_imv, accW, hself])) ?_
      rintro ⟨j, c⟩ hj
      have hj : j ≤ 4 := hj
      simp only [VC0, VC1, VC2, VC3, VC4, VC5, VC6, VC7, VC8, reduceIte, reduceCtorEq, Nat.reduceEqDiff, Nat.reduceAdd, Nat.reduceMul, Nat.reduceBEq, Nat.reduceLT, Nat.reduceLeDiff, Int.reduceEq, Int.reduceLT, Int.reduceLE, Int.reduceNeg, Int.reduceToNat, Int.reduceAdd, Nat.reduceDiv, Nat.reduceSub, Nat.reduceMod, encL]
      refine condD_of (fun hc7 => ?_) (fun hc7 => ?_)
      · have hj' : j < 4 := by omega
        have g1 : t < (fillA (wordS X) t).length := by omega
        have g2 : t + 1 ≤ (fillA (wordS X) t).length := by omega
        have g3 : (64 * (m : Int) + 4 * (t : Int) + (j : Int)).toNat = 64 * m + 4 * t + j := by omega
        have g3' : (64 * (m : Int) + (4 * (t : Int) + (j : Int))).toNat = 64 * m + 4 * t + j := by omega
        have g4 : 64 * m + 4 * t + j < M.length := by omega
        have g4' : 64 * m + (4 * t + j) < M.length := by omega
        have i1 : InI64 (4 * (t : Int)) ∧ InI64 (64 * (m : Int) + 4 * (t : Int)) ∧ InI64 (64 * (m : Int) + 4 * (t : Int) + (j : Int)) ∧ InI64 ((j : Int) + 1) := by unfold InI64; omega
        have i2 : (0 ≤ (t : Int) ∧ (t : Int) < 64) ∧ (0 ≤ 64 * (m : Int) + 4 * (t : Int) + (j : Int) ∧ 64 * (m : Int) + 4 * (t : Int) + (j : Int) < M.length) := by omega
        simp only [VC0, VC1, VC2, VC3, VC4, VC5, VC6, VC7, VC8, reduceIte, reduceCtorEq, Nat.reduceEqDiff, Nat.reduceAdd, Nat.reduceMul, Nat.reduceBEq, Nat.reduceLT, Nat.reduceLeDiff, Int.reduceEq, Int.reduceLT, Int.reduceLE, Int.reduceNeg, Int.reduceToNat, Int.reduceAdd, Nat.reduceDiv, Nat.reduceSub, Nat.reduceMod, encL, lk_len, lk_ld, lk_set, lk_app, lk_imv, lk_snap, lk_sok, lk_one, lk_ldall, lk_setall, lk_mk, List.length_set, List.length_append, List.length_singleton, List.length_replicate, fold_or32, fold_xor32, fold_and32, fold_shl32, fold_shr32, fold_add32, fold_not32, sc_one, g1, g2, g3, g3', g4, g4', i1, i2, getD_set_self g1, List.set_set]
        exact backTo_of (j + 1, _) hj' (by simp only []; omega) (ent_of _ [] rfl rfl (by simp only [VC0, VC1, VC2, VC3, VC4, VC5, VC6, VC7, VC8, reduceIte, reduceCtorEq, Nat.reduceEqDiff, Nat.reduceAdd, Nat.reduceMul, Nat.reduceBEq, Nat.reduceLT, Nat.reduceLeDiff, Int.reduceEq, Int.reduceLT, Int.reduceLE, Int.reduceNeg, Int.reduceToNat, Int.reduceAdd, Nat.reduceDiv, Nat.reduceSub, Nat.reduceMod, encL, lk_len, lk_ld, lk_set, lk_app, lk_imv, lk_snap, lk_sok, lk_one, lk_ldall, lk_setall, lk_mk, List.length_set, List.length_append, List.length_singleton, List.length_replicate, fold_or32, fold_xor32, fold_and32, fold_shl32, fold_shr32, fold_add32, fold_not32, sc_one, zs32_imv, accW]))
      have hj4 : j = 4 := by omega
      subst hj4
      simp only [VC0, VC1, VC2, VC3, VC4, VC5, VC6, VC7, VC8, reduceIte, reduceCtorEq, Nat.reduceEqDiff, Nat.reduceAdd, Nat.reduceMul, Nat.reduceBEq, Nat.reduceLT, Nat.reduceLeDiff, Int.reduceEq, Int.reduceLT, Int.reduceLE, Int.reduceNeg, Int.reduceToNat, Int.reduceAdd, Nat.reduceDiv, Nat.reduceSub, Nat.reduceMod, encL]
      exact And.intro (by unfold InI64; omega) (backTo_of (t + 1, _) ht' (by simp only []; omega) (ent_of _ [] rfl rfl (by simp only [VC0, VC1, VC2, VC3, VC4, VC5, VC6, VC7, VC8, reduceIte, reduceCtorEq, Nat.reduceEqDiff, Nat.reduceAdd, Nat.reduceMul, Nat.reduceBEq, Nat.reduceLT, Nat.reduceLeDiff, Int.reduceEq, Int.reduceLT, Int.reduceLE, Int.reduceNeg, Int.reduceToNat, Int.reduceAdd, Nat.reduceDiv, Nat.reduceSub, Nat.reduceMod, encL, lk_len, lk_ld, lk_set, lk_app, lk_imv, lk_snap, lk_sok, lk_one, lk_ldall, lk_setall, lk_mk, List.length_set, List.length_append, List.length_singleton, List.length_replicate, fold_or32, fold_xor32, fold_and32, fold_shl32, fold_shr32, fold_add32, fold_not32, sc_one, zs32_imv, fillA, hac])))
    have ht' : t = 16 := by omega
    subst ht'
    have hA16 := fillA_len (wordS X) 16
    simp only [VC0, VC1, VC2, VC3, VC4, VC5, VC6, VC7, VC8, reduceIte, reduceCtorEq, Nat.reduceEqDiff, Nat.reduceAdd, Nat.reduceMul, Nat.reduceBEq, Nat.reduceLT, Nat.reduceLeDiff, Int.reduceEq, Int.reduceLT, Int.reduceLE, Int.reduceNeg, Int.reduceToNat, Int.reduceAdd, Nat.reduceDiv, Nat.reduceSub, Nat.reduceMod, encL]
    generalize fillA (wordS X) 16 = W at hA16 hblk
    refine loop_vcg (ι := Nat × (Nat → Nat)) (fun (n, c) => stO [(2, .box zs32), (3, .own 1 M.length (M.flatMap (cK .u8))), (6, .box (hh.flatMap (cK .u32))), (7, .box (Kc.flatMap (cK .u32))), (8, .val (.int .i64 (64 * (m : Int)))), (9, .box ((fillB W n).flatMap (cK .u32))), (12, .val (.int .i64 (16 + (n : Int))))] c)
      (fun (n, _) => n ≤ 48) (fun (n, _) => 48 - n) (0, _) (Nat.zero_le _) (ent_of _ [] rfl rfl (by simp only [VC0, VC1, VC2, VC3, VC4, VC5, VC6, VC7, VC8, reduceIte, reduceCtorEq, Nat.reduceEqDiff, Nat.reduceAdd, Nat.reduceMul, Nat.reduceBEq, Nat.reduceLT, Nat.reduceLeDiff, Int.reduceEq, Int.reduceLT, Int.reduceLE, Int.reduceNeg, Int.reduceToNat, Int.reduceAdd, Nat.reduceDiv, Nat.reduceSub, Nat.reduceMod, encL, lk_len, lk_ld, lk_set, lk_app, lk_imv, lk_snap, lk_sok, lk_one, lk_ldall, lk_setall, lk_mk, List.length_set, List.length_append, List.length_singleton, List.length_replicate, fold_or32, fold_xor32, fold_and32, fold_shl32, fold_shr32, fold_add32, fold_not32, sc_one, fillB, zs32_imv])) ?_
    rintro ⟨n, c⟩ hn
    have hn : n ≤ 48 := hn
    have hB := fillB_len hA16 n
    simp only [VC0, VC1, VC2, VC3, VC4, VC5, VC6, VC7, VC8, reduceIte, reduceCtorEq, Nat.reduceEqDiff, Nat.reduceAdd, Nat.reduceMul, Nat.reduceBEq, Nat.reduceLT, Nat.reduceLeDiff, Int.reduceEq, Int.reduceLT, Int.reduceLE, Int.reduceNeg, Int.reduceToNat, Int.reduceAdd, Nat.reduceDiv, Nat.reduceSub, Nat.reduceMod, encL]
    refine condD_of (fun hc8 => ?_) (fun hc8 => ?_)
    · have hn' : n < 48 := by omega
      have s2 : (16 + (n : Int) - 2).toNat = 16 + n - 2 := by omega
      have s7 : (16 + (n : Int) - 7).toNat = 16 + n - 7 := by omega
      have s15 : (16 + (n : Int) - 15).toNat = 16 + n - 15 := by omega
      have s16 : (16 + (n : Int) - 16).toNat = 16 + n - 16 := by omega
      have s0 : (16 + (n : Int)).toNat = 16 + n := by omega
      have c2 : 16 + n - 2 < (fillB W n).length := by omega
      have c7 : 16 + n - 7 < (fillB W n).length := by omega
      have c15 : 16 + n - 15 < (fillB W n).length := by omega
      have c16 : 16 + n - 16 < (fillB W n).length := by omega
      have c0 : 16 + n < (fillB W n).length := by omega
      have c1 : 16 + (n + 1) ≤ (fillB W n).length := by omega
      have c1' : 16 + n + 1 ≤ (fillB W n).length := by omega
      have i0 : InI64 (16 + (n : Int) - 2) ∧ InI64 (16 + (n : Int) - 7) ∧ InI64 (16 + (n : Int) - 15) ∧ InI64 (16 + (n : Int) - 16) ∧ InI64 (16 + (n : Int) + 1) := by unfold InI64; omega
      have i1 : (0 ≤ 16 + (n : Int) - 2 ∧ 16 + (n : Int) - 2 < 64) ∧ (0 ≤ 16 + (n : Int) - 7 ∧ 16 + (n : Int) - 7 < 64) ∧ (0 ≤ 16 + (n : Int) - 15 ∧ 16 + (n : Int) - 15 < 64) ∧ (0 ≤ 16 + (n : Int) - 16 ∧ 16 + (n : Int) - 16 < 64) := by omega
      have i2 : 0 ≤ 16 + (n : Int) ∧ 16 + (n : Int) < 64 := by omega
      simp only [VC0, VC1, VC2, VC3, VC4, VC5, VC6, VC7, VC8, reduceIte, reduceCtorEq, Nat.reduceEqDiff, Nat.reduceAdd, Nat.reduceMul, Nat.reduceBEq, Nat.reduceLT, Nat.reduceLeDiff, Int.reduceEq, Int.reduceLT, Int.reduceLE, Int.reduceNeg, Int.reduceToNat, Int.reduceAdd, Nat.reduceDiv, Nat.reduceSub, Nat.reduceMod, encL, lk_len, lk_ld, lk_set, lk_app, lk_imv, lk_snap, lk_sok, lk_one, lk_ldall, lk_setall, lk_mk, List.length_set, List.length_append, List.length_singleton, List.length_replicate, fold_or32, fold_xor32, fold_and32, fold_shl32, fold_shr32, fold_add32, fold_not32, sc_one, i0, i1, i2, s2, s7, s15, s16, s0, c2, c7, c15, c16, c0, c1, c1']
      refine callV_of (rturn_lit _ 17 _ rfl (by decide) (by decide)) (.inr rfl) ?_
      simp only [VC0, VC1, VC2, VC3, VC4, VC5, VC6, VC7, VC8, reduceIte, reduceCtorEq, Nat.reduceEqDiff, Nat.reduceAdd, Nat.reduceMul, Nat.reduceBEq, Nat.reduceLT, Nat.reduceLeDiff, Int.reduceEq, Int.reduceLT, Int.reduceLE, Int.reduceNeg, Int.reduceToNat, Int.reduceAdd, Nat.reduceDiv, Nat.reduceSub, Nat.reduceMod, encL, lk_len, lk_ld, lk_set, lk_app, lk_imv, lk_snap, lk_sok, lk_one, lk_ldall, lk_setall, lk_mk, List.length_set, List.length_append, List.length_singleton, List.length_replicate, fold_or32, fold_xor32, fold_and32, fold_shl32, fold_shr32, fold_add32, fold_not32, sc_one, i0, i1, i2, s2, s7, s15, s16, s0, c2, c7, c15, c16, c0, c1, c1']
      refine callV_of (rturn_lit _ 19 _ rfl (by decide) (by decide)) (.inr rfl) ?_
      simp only [VC0, VC1, VC2, VC3, VC4, VC5, VC6, VC7, VC8, reduceIte, reduceCtorEq, Nat.reduceEqDiff, Nat.reduceAdd, Nat.reduceMul, Nat.reduceBEq, Nat.reduceLT, Nat.reduceLeDiff, Int.reduceEq, Int.reduceLT, Int.reduceLE, Int.reduceNeg, Int.reduceToNat, Int.reduceAdd, Nat.reduceDiv, Nat.reduceSub, Nat.reduceMod, encL, lk_len, lk_ld, lk_set, lk_app, lk_imv, lk_snap, lk_sok, lk_one, lk_ldall, lk_setall, lk_mk, List.length_set, List.length_append, List.length_singleton, List.length_replicate, fold_or32, fold_xor32, fold_and32, fold_shl32, fold_shr32, fold_add32, fold_not32, sc_one, i0, i1, i2, s2, s7, s15, s16, s0, c2, c7, c15, c16, c0, c1, c1']
      refine callV_of (rturn_lit _ 7 _ rfl (by decide) (by decide)) (.inr rfl) ?_
      simp only [VC0, VC1, VC2, VC3, VC4, VC5, VC6, VC7, VC8, reduceIte, reduceCtorEq, Nat.reduceEqDiff, Nat.reduceAdd, Nat.reduceMul, Nat.reduceBEq, Nat.reduceLT, Nat.reduceLeDiff, Int.reduceEq, Int.reduceLT, Int.reduceLE, Int.reduceNeg, Int.reduceToNat, Int.reduceAdd, Nat.reduceDiv, Nat.reduceSub, Nat.reduceMod, encL, lk_len, lk_ld, lk_set, lk_app, lk_imv, lk_snap, lk_sok, lk_one, lk_ldall, lk_setall, lk_mk, List.length_set, List.length_append, List.length_singleton, List.length_replicate, fold_or32, fold_xor32, fold_and32, fold_shl32, fold_shr32, fold_add32, fold_not32, sc_one, i0, i1, i2, s2, s7, s15, s16, s0, c2, c7, c15, c16, c0, c1, c1']
      refine callV_of (rturn_lit _ 18 _ rfl (by decide) (by decide)) (.inr rfl) ?_
      simp only [VC0, VC1, VC2, VC3, VC4, VC5, VC6, VC7, VC8, reduceIte, reduceCtorEq, Nat.reduceEqDiff, Nat.reduceAdd, Nat.reduceMul, Nat.reduceBEq, Nat.reduceLT, Nat.reduceLeDiff, Int.reduceEq, Int.reduceLT, Int.reduceLE, Int.reduceNeg, Int.reduceToNat, Int.reduceAdd, Nat.reduceDiv, Nat.reduceSub, Nat.reduceMod, encL, lk_len, lk_ld, lk_set, lk_app, lk_imv, lk_snap, lk_sok, lk_one, lk_ldall, lk_setall, lk_mk, List.length_set, List.length_append, List.length_singleton, List.length_replicate, fold_or32, fold_xor32, fold_and32, fold_shl32, fold_shr32, fold_add32, fold_not32, sc_one, i0, i1, i2, s2, s7, s15, s16, s0, c2, c7, c15, c16, c0, c1, c1']
      exact backTo_of (n + 1, _) hn' (by simp only []; omega) (ent_of _ [] rfl rfl (by simp only [VC0, VC1, VC2, VC3, VC4, VC5, VC6, VC7, VC8, reduceIte, reduceCtorEq, Nat.reduceEqDiff, Nat.reduceAdd, Nat.reduceMul, Nat.reduceBEq, Nat.reduceLT, Nat.reduceLeDiff, Int.reduceEq, Int.reduceLT, Int.reduceLE, Int.reduceNeg, Int.reduceToNat, Int.reduceAdd, Nat.reduceDiv, Nat.reduceSub, Nat.reduceMod, encL, lk_len, lk_ld, lk_set, lk_app, lk_imv, lk_snap, lk_sok, lk_one, lk_ldall, lk_setall, lk_mk, List.length_set, List.length_append, List.length_singleton, List.length_replicate, fold_or32, fold_xor32, fold_and32, fold_shl32, fold_shr32, fold_add32, fold_not32, sc_one, fillB, nextW, zs32_imv]; omega))
    have hn' : n = 48 := by omega
    subst hn'
    generalize fillB W 48 = W2 at hB hblk
    simp only [VC0, VC1, VC2, VC3, VC4, VC5, VC6, VC7, VC8, reduceIte, reduceCtorEq, Nat.reduceEqDiff, Nat.reduceAdd, Nat.reduceMul, Nat.reduceBEq, Nat.reduceLT, Nat.reduceLeDiff, Int.reduceEq, Int.reduceLT, Int.reduceLE, Int.reduceNeg, Int.reduceToNat, Int.reduceAdd, Nat.reduceDiv, Nat.reduceSub, Nat.reduceMod, encL, lk_len, lk_ld, lk_set, lk_app, lk_imv, lk_snap, lk_sok, lk_one, lk_ldall, lk_setall, lk_mk, List.length_set, List.length_append, List.length_singleton, List.length_replicate, fold_or32, fold_xor32, fold_and32, fold_shl32, fold_shr32, fold_add32, fold_not32, sc_one, lk_ldall hml, hml, setCells_all]
    refine loop_vcg (ι := Nat × (Nat → Nat)) (fun (t, c) => stO [(2, .box zs32), (3, .own 1 M.length (M.flatMap (cK .u8))), (6, .box (hh.flatMap (cK .u32))), (7, .box (Kc.flatMap (cK .u32))), (8, .val (.int .i64 (64 * (m : Int)))), (9, .box (W2.flatMap (cK .u32))), (15, .box ((roundsS Kc W2 hh t).flatMap (cK .u32))), (16, .val (.int .i64 t))] c)
      (fun (t, _) => t ≤ 64) (fun (t, _) => 64 - t) (0, _) (Nat.zero_le _) (ent_of _ [] rfl rfl (by simp only [VC0, VC1, VC2, VC3, VC4, VC5, VC6, VC7, VC8, reduceIte, reduceCtorEq, Nat.reduceEqDiff, Nat.reduceAdd, Nat.reduceMul, Nat.reduceBEq, Nat.reduceLT, Nat.reduceLeDiff, Int.reduceEq, Int.reduceLT, Int.reduceLE, Int.reduceNeg, Int.reduceToNat, Int.reduceAdd, Nat.reduceDiv, Nat.reduceSub, Nat.reduceMod, encL, lk_len, lk_ld, lk_set, lk_app, lk_imv, lk_snap, lk_sok, lk_one, lk_ldall, lk_setall, lk_mk, List.length_set, List.length_append, List.length_singleton, List.length_replicate, fold_or32, fold_xor32, fold_and32, fold_shl32, fold_shr32, fold_add32, fold_not32, sc_one, roundsS, zs32_imv])) ?_
    rintro ⟨t, c⟩ ht
    have ht : t ≤ 64 := ht
    have hvl := roundsS_len (k := Kc) (W := W2) hml t
    simp only [VC0, VC1, VC2, VC3, VC4, VC5, VC6, VC7, VC8, reduceIte, reduceCtorEq, Nat.reduceEqDiff, Nat.reduceAdd, Nat.reduceMul, Nat.reduceBEq, Nat.reduceLT, Nat.reduceLeDiff, Int.reduceEq, Int.reduceLT, Int.reduceLE, Int.reduceNeg, Int.reduceToNat, Int.reduceAdd, Nat.reduceDiv, Nat.reduceSub, Nat.reduceMod, encL]
    refine condD_of (fun hc9 => ?_) (fun hc9 => ?_)
    · have ht' : t < 64 := by omega
      have v0 : 0 < (roundsS Kc W2 hh t).length := by omega
      have v1 : 1 < (roundsS Kc W2 hh t).length := by omega
      have v2 : 2 < (roundsS Kc W2 hh t).length := by omega
      have v3 : 3 < (roundsS Kc W2 hh t).length := by omega
      have v4 : 4 < (roundsS Kc W2 hh t).length := by omega
      have v5 : 5 < (roundsS Kc W2 hh t).length := by omega
      have v6 : 6 < (roundsS Kc W2 hh t).length := by omega
      have v7 : 7 < (roundsS Kc W2 hh t).length := by omega
      have v9 : (roundsS Kc W2 hh t).length = 8 := hvl
      have w1 : t < W2.length := by omega
      have k1 : t < Kc.length := by rw [Kc_len]; omega
      have i2 : 0 ≤ (t : Int) ∧ (t : Int) < 64 := by omega
      have i3 : InI64 ((t : Int) + 1) := by unfold InI64; omega
      simp only [VC0, VC1, VC2, VC3, VC4, VC5, VC6, VC7, VC8, reduceIte, reduceCtorEq, Nat.reduceEqDiff, Nat.reduceAdd, Nat.reduceMul, Nat.reduceBEq, Nat.reduceLT, Nat.reduceLeDiff, Int.reduceEq, Int.reduceLT, Int.reduceLE, Int.reduceNeg, Int.reduceToNat, Int.reduceAdd, Nat.reduceDiv, Nat.reduceSub, Nat.reduceMod, encL, lk_len, lk_ld, lk_set, lk_app, lk_imv, lk_snap, lk_sok, lk_one, lk_ldall, lk_setall, lk_mk, List.length_set, List.length_append, List.length_singleton, List.length_replicate, fold_or32, fold_xor32, fold_and32, fold_shl32, fold_shr32, fold_add32, fold_not32, sc_one, v0, v1, v2, v3, v4, v5, v6, v7, w1, k1, i2, i3]
      refine callV_of (rturn_lit _ 6 _ rfl (by decide) (by decide)) (.inr rfl) ?_
      simp only [VC0, VC1, VC2, VC3, VC4, VC5, VC6, VC7, VC8, reduceIte, reduceCtorEq, Nat.reduceEqDiff, Nat.reduceAdd, Nat.reduceMul, Nat.reduceBEq, Nat.reduceLT, Nat.reduceLeDiff, Int.reduceEq, Int.reduceLT, Int.reduceLE, Int.reduceNeg, Int.reduceToNat, Int.reduceAdd, Nat.reduceDiv, Nat.reduceSub, Nat.reduceMod, encL, lk_len, lk_ld, lk_set, lk_app, lk_imv, lk_snap, lk_sok, lk_one, lk_ldall, lk_setall, lk_mk, List.length_set, List.length_append, List.length_singleton, List.length_replicate, fold_or32, fold_xor32, fold_and32, fold_shl32, fold_shr32, fold_add32, fold_not32, sc_one, v0, v1, v2, v3, v4, v5, v6, v7, w1, k1, i2, i3]
      refine callV_of (rturn_lit _ 11 _ rfl (by decide) (by decide)) (.inr rfl) ?_
      simp only [VC0, VC1, VC2, VC3, VC4, VC5, VC6, VC7, VC8, reduceIte, reduceCtorEq, Nat.reduceEqDiff, Nat.reduceAdd, Nat.reduceMul, Nat.reduceBEq, Nat.reduceLT, Nat.reduceLeDiff, Int.reduceEq, Int.reduceLT, Int.reduceLE, Int.reduceNeg, Int.reduceToNat, Int.reduceAdd, Nat.reduceDiv, Nat.reduceSub, Nat.reduceMod, encL, lk_len, lk_ld, lk_set, lk_app, lk_imv, lk_snap, lk_sok, lk_one, lk_ldall, lk_setall, lk_mk, List.length_set, List.length_append, List.length_singleton, List.length_replicate, fold_or32, fold_xor32, fold_and32, fold_shl32, fold_shr32, fold_add32, fold_not32, sc_one, v0, v1, v2, v3, v4, v5, v6, v7, w1, k1, i2, i3]
      refine callV_of (rturn_lit _ 25 _ rfl (by decide) (by decide)) (.inr rfl) ?_
      simp only [VC0, VC1, VC2, VC3, VC4, VC5, VC6, VC7, VC8, reduceIte, reduceCtorEq, Nat.reduceEqDiff, Nat.reduceAdd, Nat.reduceMul, Nat.reduceBEq, Nat.reduceLT, Nat.reduceLeDiff, Int.reduceEq, Int.reduceLT, Int.reduceLE, Int.reduceNeg, Int.reduceToNat, Int.reduceAdd, Nat.reduceDiv, Nat.reduceSub, Nat.reduceMod, encL, lk_len, lk_ld, lk_set, lk_app, lk_imv, lk_snap, lk_sok, lk_one, lk_ldall, lk_setall, lk_mk, List.length_set, List.length_append, List.length_singleton, List.length_replicate, fold_or32, fold_xor32, fold_and32, fold_shl32, fold_shr32, fold_add32, fold_not32, sc_one, v0, v1, v2, v3, v4, v5, v6, v7, w1, k1, i2, i3]
      refine callV_of (rturn_lit _ 2 _ rfl (by decide) (by decide)) (.inr rfl) ?_
      simp only [VC0, VC1, VC2, VC3, VC4, VC5, VC6, VC7, VC8, reduceIte, reduceCtorEq, Nat.reduceEqDiff, Nat.reduceAdd, Nat.reduceMul, Nat.reduceBEq, Nat.reduceLT, Nat.reduceLeDiff, Int.reduceEq, Int.reduceLT, Int.reduceLE, Int.reduceNeg, Int.reduceToNat, Int.reduceAdd, Nat.reduceDiv, Nat.reduceSub, Nat.reduceMod, encL, lk_len, lk_ld, lk_set, lk_app, lk_imv, lk_snap, lk_sok, lk_one, lk_ldall, lk_setall, lk_mk, List.length_set, List.length_append, List.length_singleton, List.length_replicate, fold_or32, fold_xor32, fold_and32, fold_shl32, fold_shr32, fold_add32, fold_not32, sc_one, v0, v1, v2, v3, v4, v5, v6, v7, w1, k1, i2, i3]
      refine callV_of (rturn_lit _ 13 _ rfl (by decide) (by decide)) (.inr rfl) ?_
      simp only [VC0, VC1, VC2, VC3, VC4, VC5, VC6, VC7, VC8, reduceIte, reduceCtorEq, Nat.reduceEqDiff, Nat.reduceAdd, Nat.reduceMul, Nat.reduceBEq, Nat.reduceLT, Nat.reduceLeDiff, Int.reduceEq, Int.reduceLT, Int.reduceLE, Int.reduceNeg, Int.reduceToNat, Int.reduceAdd, Nat.reduceDiv, Nat.reduceSub, Nat.reduceMod, encL, lk_len, lk_ld, lk_set, lk_app, lk_imv, lk_snap, lk_sok, lk_one, lk_ldall, lk_setall, lk_mk, List.length_set, List.length_append, List.length_singleton, List.length_replicate, fold_or32, fold_xor32, fold_and32, fold_shl32, fold_shr32, fold_add32, fold_not32, sc_one, v0, v1, v2, v3, v4, v5, v6, v7, w1, k1, i2, i3]
      refine callV_of (rturn_lit _ 22 _ rfl (by decide) (by decide)) (.inr rfl) ?_
      simp only [VC0, VC1, VC2, VC3, VC4, VC5, VC6, VC7, VC8, reduceIte, reduceCtorEq, Nat.reduceEqDiff, Nat.reduceAdd, Nat.reduceMul, Nat.reduceBEq, Nat.reduceLT, Nat.reduceLeDiff, Int.reduceEq, Int.reduceLT, Int.reduceLE, Int.reduceNeg, Int.reduceToNat, Int.reduceAdd, Nat.reduceDiv, Nat.reduceSub, Nat.reduceMod, encL, lk_len, lk_ld, lk_set, lk_app, lk_imv, lk_snap, lk_sok, lk_one, lk_ldall, lk_setall, lk_mk, List.length_set, List.length_append, List.length_singleton, List.length_replicate, fold_or32, fold_xor32, fold_and32, fold_shl32, fold_shr32, fold_add32, fold_not32, sc_one, v0, v1, v2, v3, v4, v5, v6, v7, w1, k1, i2, i3]
      simp only [bld8, lk_len, List.length_cons, List.length_nil, v9, lk_setall]
      refine And.intro (by first | trivial | omega | decide) (backTo_of (t + 1, _) ht' (by simp only []; omega) (ent_of _ [] rfl rfl ?_))
      simp only [VC0, VC1, VC2, VC3, VC4, VC5, VC6, VC7, VC8, reduceIte, reduceCtorEq, Nat.reduceEqDiff, Nat.reduceAdd, Nat.reduceMul, Nat.reduceBEq, Nat.reduceLT, Nat.reduceLeDiff, Int.reduceEq, Int.reduceLT, Int.reduceLE, Int.reduceNeg, Int.reduceToNat, Int.reduceAdd, Nat.reduceDiv, Nat.reduceSub, Nat.reduceMod, encL, lk_len, lk_ld, lk_set, lk_app, lk_imv, lk_snap, lk_sok, lk_one, lk_ldall, lk_setall, lk_mk, List.length_set, List.length_append, List.length_singleton, List.length_replicate, fold_or32, fold_xor32, fold_and32, fold_shl32, fold_shr32, fold_add32, fold_not32, sc_one, zs32_imv]
      rfl
    have ht' : t = 64 := by omega
    subst ht'
    generalize roundsS Kc W2 hh 64 = v at hvl hblk
    simp only [VC0, VC1, VC2, VC3, VC4, VC5, VC6, VC7, VC8, reduceIte, reduceCtorEq, Nat.reduceEqDiff, Nat.reduceAdd, Nat.reduceMul, Nat.reduceBEq, Nat.reduceLT, Nat.reduceLeDiff, Int.reduceEq, Int.reduceLT, Int.reduceLE, Int.reduceNeg, Int.reduceToNat, Int.reduceAdd, Nat.reduceDiv, Nat.reduceSub, Nat.reduceMod, encL]
    refine loop_vcg (ι := Nat × (Nat → Nat)) (fun (i, c) => stO [(2, .box zs32), (3, .own 1 M.length (M.flatMap (cK .u8))), (6, .box ((sumsS hh v i).flatMap (cK .u32))), (7, .box (Kc.flatMap (cK .u32))), (8, .val (.int .i64 (64 * (m : Int)))), (15, .box (v.flatMap (cK .u32))), (21, .val (.int .i64 i))] c)
      (fun (i, _) => i ≤ 8) (fun (i, _) => 8 - i) (0, _) (Nat.zero_le _) (ent_of _ [] rfl rfl (by simp only [VC0, VC1, VC2, VC3, VC4, VC5, VC6, VC7, VC8, reduceIte, reduceCtorEq, Nat.reduceEqDiff, Nat.reduceAdd, Nat.reduceMul, Nat.reduceBEq, Nat.reduceLT, Nat.reduceLeDiff, Int.reduceEq, Int.reduceLT, Int.reduceLE, Int.reduceNeg, Int.reduceToNat, Int.reduceAdd, Nat.reduceDiv, Nat.reduceSub, Nat.reduceMod, encL, lk_len, lk_ld, lk_set, lk_app, lk_imv, lk_snap, lk_sok, lk_one, lk_ldall, lk_setall, lk_mk, List.length_set, List.length_append, List.length_singleton, List.length_replicate, fold_or32, fold_xor32, fold_and32, fold_shl32, fold_shr32, fold_add32, fold_not32, sc_one, sumsS, zs32_imv])) ?_
    rintro ⟨i, c⟩ hi
    have hi : i ≤ 8 := hi
    have hgl := sumsS_len (v := v) hml i
    simp only [VC0, VC1, VC2, VC3, VC4, VC5, VC6, VC7, VC8, reduceIte, reduceCtorEq, Nat.reduceEqDiff, Nat.reduceAdd, Nat.reduceMul, Nat.reduceBEq, Nat.reduceLT, Nat.reduceLeDiff, Int.reduceEq, Int.reduceLT, Int.reduceLE, Int.reduceNeg, Int.reduceToNat, Int.reduceAdd, Nat.reduceDiv, Nat.reduceSub, Nat.reduceMod, encL]
    refine condD_of (fun hc10 => ?_) (fun hc10 => ?_)
    · have hi' : i < 8 := by omega
      have a1 : i < (sumsS hh v i).length := by omega
      have a2 : i < v.length := by omega
      have a3 : i + 1 ≤ (sumsS hh v i).length := by omega
      have i2 : 0 ≤ (i : Int) ∧ (i : Int) < 8 := by omega
      have i3 : InI64 ((i : Int) + 1) := by unfold InI64; omega
      simp only [VC0, VC1, VC2, VC3, VC4, VC5, VC6, VC7, VC8, reduceIte, reduceCtorEq, Nat.reduceEqDiff, Nat.reduceAdd, Nat.reduceMul, Nat.reduceBEq, Nat.reduceLT, Nat.reduceLeDiff, Int.reduceEq, Int.reduceLT, Int.reduceLE, Int.reduceNeg, Int.reduceToNat, Int.reduceAdd, Nat.reduceDiv, Nat.reduceSub, Nat.reduceMod, encL, lk_len, lk_ld, lk_set, lk_app, lk_imv, lk_snap, lk_sok, lk_one, lk_ldall, lk_setall, lk_mk, List.length_set, List.length_append, List.length_singleton, List.length_replicate, fold_or32, fold_xor32, fold_and32, fold_shl32, fold_shr32, fold_add32, fold_not32, sc_one, a1, a2, a3, i2, i3]
      exact backTo_of (i + 1, _) hi' (by simp only []; omega) (ent_of _ [] rfl rfl (by simp only [VC0, VC1, VC2, VC3, VC4, VC5, VC6, VC7, VC8, reduceIte, reduceCtorEq, Nat.reduceEqDiff, Nat.reduceAdd, Nat.reduceMul, Nat.reduceBEq, Nat.reduceLT, Nat.reduceLeDiff, Int.reduceEq, Int.reduceLT, Int.reduceLE, Int.reduceNeg, Int.reduceToNat, Int.reduceAdd, Nat.reduceDiv, Nat.reduceSub, Nat.reduceMod, encL, lk_len, lk_ld, lk_set, lk_app, lk_imv, lk_snap, lk_sok, lk_one, lk_ldall, lk_setall, lk_mk, List.length_set, List.length_append, List.length_singleton, List.length_replicate, fold_or32, fold_xor32, fold_and32, fold_shl32, fold_shr32, fold_add32, fold_not32, sc_one, sumsS, zs32_imv]))
    have hi' : i = 8 := by omega
    subst hi'
    simp only [VC0, VC1, VC2, VC3, VC4, VC5, VC6, VC7, VC8, reduceIte, reduceCtorEq, Nat.reduceEqDiff, Nat.reduceAdd, Nat.reduceMul, Nat.reduceBEq, Nat.reduceLT, Nat.reduceLeDiff, Int.reduceEq, Int.reduceLT, Int.reduceLE, Int.reduceNeg, Int.reduceToNat, Int.reduceAdd, Nat.reduceDiv, Nat.reduceSub, Nat.reduceMod, encL]
    exact And.intro (by unfold InI64; omega) (backTo_of (m + 1, _) hm' (by simp only []; omega) (ent_of _ [] rfl rfl (by simp only [VC0, VC1, VC2, VC3, VC4, VC5, VC6, VC7, VC8, reduceIte, reduceCtorEq, Nat.reduceEqDiff, Nat.reduceAdd, Nat.reduceMul, Nat.reduceBEq, Nat.reduceLT, Nat.reduceLeDiff, Int.reduceEq, Int.reduceLT, Int.reduceLE, Int.reduceNeg, Int.reduceToNat, Int.reduceAdd, Nat.reduceDiv, Nat.reduceSub, Nat.reduceMod, encL, lk_len, lk_ld, lk_set, lk_app, lk_imv, lk_snap, lk_sok, lk_one, lk_ldall, lk_setall, lk_mk, List.length_set, List.length_append, List.length_singleton, List.length_replicate, fold_or32, fold_xor32, fold_and32, fold_shl32, fold_shr32, fold_add32, fold_not32, sc_one, zs32_imv, hblk]; omega)))
  have hm' : m = r := by omega
  subst hm'
  generalize blocksS H0 M m = hh at hml
  simp only [VC0, VC1, VC2, VC3, VC4, VC5, VC6, VC7, VC8, reduceIte, reduceCtorEq, Nat.reduceEqDiff, Nat.reduceAdd, Nat.reduceMul, Nat.reduceBEq, Nat.reduceLT, Nat.reduceLeDiff, Int.reduceEq, Int.reduceLT, Int.reduceLE, Int.reduceNeg, Int.reduceToNat, Int.reduceAdd, Nat.reduceDiv, Nat.reduceSub, Nat.reduceMod, encL]
  refine loop_vcg (ι := Nat × (Nat → Nat)) (fun (i, c) => stO [(2, .box zs32), (6, .box (hh.flatMap (cK .u32))), (22, .box ((outF hh i).flatMap (cK .u8))), (23, .val (.int .i64 i))] c)
    (fun (i, _) => i ≤ 32) (fun (i, _) => 32 - i) (0, _) (Nat.zero_le _) (ent_of _ [] rfl rfl (by
      simp only [VC0, VC1, VC2, VC3, VC4, VC5, VC6, VC7, VC8, reduceIte, reduceCtorEq, Nat.reduceEqDiff, Nat.reduceAdd, Nat.reduceMul, Nat.reduceBEq, Nat.reduceLT, Nat.reduceLeDiff, Int.reduceEq, Int.reduceLT, Int.reduceLE, Int.reduceNeg, Int.reduceToNat, Int.reduceAdd, Nat.reduceDiv, Nat.reduceSub, Nat.reduceMod, encL, lk_len, lk_ld, lk_set, lk_app, lk_imv, lk_snap, lk_sok, lk_one, lk_ldall, lk_setall, lk_mk, List.length_set, List.length_append, List.length_singleton, List.length_replicate, fold_or32, fold_xor32, fold_and32, fold_shl32, fold_shr32, fold_add32, fold_not32, sc_one, zs32_imv, outF]; rfl)) ?_
  rintro ⟨i, c⟩ hi
  have hi : i ≤ 32 := hi
  have hol2 := outF_len hh i
  simp only [VC0, VC1, VC2, VC3, VC4, VC5, VC6, VC7, VC8, reduceIte, reduceCtorEq, Nat.reduceEqDiff, Nat.reduceAdd, Nat.reduceMul, Nat.reduceBEq, Nat.reduceLT, Nat.reduceLeDiff, Int.reduceEq, Int.reduceLT, Int.reduceLE, Int.reduceNeg, Int.reduceToNat, Int.reduceAdd, Nat.reduceDiv, Nat.reduceSub, Nat.reduceMod, encL]
  refine condD_of (fun hc5 => ?_) (fun hc5 => ?_)
  · have hi' : i < 32 := by omega
    have d1 : (i : Int).tdiv 4 = ((i / 4 : Nat) : Int) := by rw [Int.tdiv_eq_ediv_of_nonneg (by omega)]; omega
    have d2 : (i : Int).tmod 4 = ((i % 4 : Nat) : Int) := by rw [Int.tmod_eq_emod_of_nonneg (by omega)]; omega
    have d3 : IntKind.u64.wrap (24 - 8 * ((i % 4 : Nat) : Int)) = ((24 - 8 * (i % 4) : Nat) : Int) := by rw [wrap_u64 (by omega) (by omega)]; omega
    have d4 : i / 4 < hh.length := by omega
    have d5 : i < (outF hh i).length := by omega
    have d6 : i + 1 ≤ (outF hh i).length := by omega
    have d7 : i / 4 + 1 ≤ hh.length := by omega
    have i1 : InI64 (i / 4 : Nat) ∧ InI64 (8 * ((i % 4 : Nat) : Int)) ∧ InI64 (24 - 8 * ((i % 4 : Nat) : Int)) ∧ InI64 ((i : Int) + 1) := by unfold InI64; omega
    have i2 : (0 ≤ ((i / 4 : Nat) : Int) ∧ ((i / 4 : Nat) : Int) < 8) ∧ (0 ≤ (i : Int) ∧ (i : Int) < 32) ∧ 0 ≤ ((24 - 8 * (i % 4) : Nat) : Int) := by omega
    simp only [VC0, VC1, VC2, VC3, VC4, VC5, VC6, VC7, VC8, reduceIte, reduceCtorEq, Nat.reduceEqDiff, Nat.reduceAdd, Nat.reduceMul, Nat.reduceBEq, Nat.reduceLT, Nat.reduceLeDiff, Int.reduceEq, Int.reduceLT, Int.reduceLE, Int.reduceNeg, Int.reduceToNat, Int.reduceAdd, Nat.reduceDiv, Nat.reduceSub, Nat.reduceMod, encL, lk_len, lk_ld, lk_set, lk_app, lk_imv, lk_snap, lk_sok, lk_one, lk_ldall, lk_setall, lk_mk, List.length_set, List.length_append, List.length_singleton, List.length_replicate, fold_or32, fold_xor32, fold_and32, fold_shl32, fold_shr32, fold_add32, fold_not32, sc_one, d1, d2, d3, d4, d5, d6, d7, i1, i2]
    exact And.intro (by decide) (And.intro (by decide) (backTo_of (i + 1, _) hi' (by simp only []; omega) (ent_of _ [] rfl rfl (by simp only [VC0, VC1, VC2, VC3, VC4, VC5, VC6, VC7, VC8, reduceIte, reduceCtorEq, Nat.reduceEqDiff, Nat.reduceAdd, Nat.reduceMul, Nat.reduceBEq, Nat.reduceLT, Nat.reduceLeDiff, Int.reduceEq, Int.reduceLT, Int.reduceLE, Int.reduceNeg, Int.reduceToNat, Int.reduceAdd, Nat.reduceDiv, Nat.reduceSub, Nat.reduceMod, encL, lk_len, lk_ld, lk_set, lk_app, lk_imv, lk_snap, lk_sok, lk_one, lk_ldall, lk_setall, lk_mk, List.length_set, List.length_append, List.length_singleton, List.length_replicate, fold_or32, fold_xor32, fold_and32, fold_shl32, fold_shr32, fold_add32, fold_not32, sc_one, zs32_imv, outF]))))
  have hi' : i = 32 := by omega
  subst hi'
  have hset : setCells zs32 0 ((outF hh 32).flatMap (cK .u8)) = (outF hh 32).flatMap (cK .u8) := setCells_all (by rw [lk_len, hol2]; rfl)
  simp only [VC0, VC1, VC2, VC3, VC4, VC5, VC6, VC7, VC8, reduceIte, reduceCtorEq, Nat.reduceEqDiff, Nat.reduceAdd, Nat.reduceMul, Nat.reduceBEq, Nat.reduceLT, Nat.reduceLeDiff, Int.reduceEq, Int.reduceLT, Int.reduceLE, Int.reduceNeg, Int.reduceToNat, Int.reduceAdd, Nat.reduceDiv, Nat.reduceSub, Nat.reduceMod, encL, lk_len, lk_ld, lk_set, lk_app, lk_imv, lk_snap, lk_sok, lk_one, lk_ldall, lk_setall, lk_mk, List.length_set, List.length_append, List.length_singleton, List.length_replicate, fold_or32, fold_xor32, fold_and32, fold_shl32, fold_shr32, fold_add32, fold_not32, sc_one, lk_ldall hol2, hol2, hset, zs32_len]

end Go.Proofs.Ythpffaofpcikiaa
