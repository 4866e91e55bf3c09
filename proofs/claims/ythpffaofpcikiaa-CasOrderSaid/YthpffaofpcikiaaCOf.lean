/-
  Csf Csg Sf Lib Fi Byd Csi Csm Cso Csp RowB: put together.
-/
import Derived.Test.YthpffaofpcikiaaCOe
import Derived.Test.YthpffaofpcikiaaCOc
import Derived.Shelf.SlSortCmp.NoneTotal
import Derived.Shelf.SlGeneric
import Derived.Ground.SlsfProg
import Derived.Test.YthpffaofpcikiaaProg
import Derived.Test.YthpffaofpcikiaaCOd
import Derived.Test.YthpffaofpcikiaaRows
import Derived.WalkKit
import Derived.ProofKit
import Derived.OpenShut
import Derived.ShutString
import Derived.ChangeOld
import Derived.Below
set_option linter.unusedSimpArgs false
set_option linter.unusedVariables false
namespace Go.Proofs.Ythpffaofpcikiaa
open Go Go.Lg Go.RowKit
set_option linter.unusedVariables false
set_option linter.unusedSimpArgs false

theorem sc_0 (x a : V) (r : List V) : setCells (x :: r) 0 [a] = a :: r := rfl
theorem sc_1 (x y a : V) (r : List V) : setCells (x :: y :: r) 1 [a] = x :: a :: r := rfl
theorem sc_2 (x y z a : V) (r : List V) : setCells (x :: y :: z :: r) 2 [a] = x :: y :: a :: r := rfl
theorem ld_all {n : Nat} {k : List V} (h : k.length = n) : ldV true n k 0 = some (.agg k) := by
  subst h
  simp [ldV]
theorem set_hs (b : List Int) : setCells [.int .u8 0, .int .u8 0, .int .u8 0, .int .u8 0, .int .u8 0, .int .u8 0, .int .u8 0, .int .u8 0, .int .u8 0, .int .u8 0, .int .u8 0, .int .u8 0, .int .u8 0, .int .u8 0, .int .u8 0, .int .u8 0, .int .u8 0, .int .u8 0, .int .u8 0, .int .u8 0, .int .u8 0, .int .u8 0, .int .u8 0, .int .u8 0, .int .u8 0, .int .u8 0, .int .u8 0, .int .u8 0, .int .u8 0, .int .u8 0, .int .u8 0, .int .u8 0] 0 ((sumS b).flatMap (cK .u8)) = (sumS b).flatMap (cK .u8) := setCells_all (by rw [lk_len, sumS_len]; rfl)
theorem ld_hs (b : List Int) : ldV true 32 ((sumS b).flatMap (cK .u8)) 0 = some (.agg ((sumS b).flatMap (cK .u8))) := ld_all (by rw [lk_len, sumS_len])
theorem setK_nil (k v : V) : setK [] k v = [(k, v)] := rfl
theorem setK_none {es : List (V × V)} {k : V} (v : V) (h : findK k es = none) : setK es k v = es ++ [(k, v)] := by simp only [setK, h]
def hs (b : List Int) : List V := (sumS b).flatMap (cK .u8)
theorem hs_len (b : List Int) : (hs b).length = 32 := by rw [hs, lk_len, sumS_len]
def flt (c a : Int) : V := .ifc 83 (.ip [.int .i64 c, .int .i64 a, .ifc 63 (.int .i64 c)] 0)

theorem flt_snap (H : Heap) (c a : Int) : snap H 8 (flt c a) = flt c a := rfl
theorem flt_sok (H : Heap) (c a : Int) : sok H 8 (flt c a) = true := rfl
theorem flt_imv (c a : Int) : imV 8 (flt c a) = true := rfl
theorem flt_one (c a : Int) : V.one (flt c a) = true := rfl
theorem flt_eq (n l : Bool) (c a : Int) : leqi n l (flt c a) .nili = .A True (.bool n) := by cases l <;> rfl

theorem fault_ret (c a : Int) (hc : c ≠ 0) : PRet Try.prog 24 [.int .i64 c, .int .i64 a] (flt c a) := by
  refine pret_intro fd24 (by simp) ?_
  have h1 : (c == 0) = false := by simp [hc]
  simp only [lc24, VC0, VC1, VC2, VC3, VC4, VC5, VC6, VC7, VC8, VC9, reduceIte, reduceCtorEq, Nat.reduceEqDiff, Nat.reduceAdd, Nat.reduceMul, Nat.reduceBEq, Nat.reduceLT, Nat.reduceLeDiff, Int.reduceEq, Int.reduceLT, Int.reduceLE, Int.reduceNeg, Int.reduceToNat, Int.reduceAdd, Nat.reduceDiv, Nat.reduceSub, Nat.reduceMod, encL, lk_len, lk_ld, lk_set, lk_app, lk_imv, lk_snap, lk_sok, lk_one, lk_ldall, lk_setall, lk_mk, List.length_set, List.length_append, List.length_singleton, List.length_replicate, fold_or32, fold_xor32, fold_and32, fold_shl32, fold_shr32, fold_add32, fold_not32, sc_one, rv2, rv3, Option.bind_some, Option.map_some, Option.some.injEq, exists_eq_left', List.getElem?_cons_zero, List.getElem?_cons_succ, ld_0, ld_1, ld_2, sc_0, sc_1, sc_2, List.take_succ_cons, List.take_zero, List.all_cons, List.all_nil, List.map_cons, List.map_nil, Bool.and_true, Bool.true_and, flt_snap, flt_sok, flt_imv, flt_one, flt_eq, set_hs, ld_hs, sumS_len, lk_ints, setK_nil, h1]
  rfl

theorem told_flt (c a : Int) : PRet Try.prog 29 [flt c a] (.tup [.int .i64 c, .int .i64 a]) := by
  refine pret_intro fd29 (by simp) ?_
  simp only [lc29, flt, VC0, VC1, VC2, VC3, VC4, VC5, VC6, VC7, VC8, VC9, reduceIte, reduceCtorEq, Nat.reduceEqDiff, Nat.reduceAdd, Nat.reduceMul, Nat.reduceBEq, Nat.reduceLT, Nat.reduceLeDiff, Int.reduceEq, Int.reduceLT, Int.reduceLE, Int.reduceNeg, Int.reduceToNat, Int.reduceAdd, Nat.reduceDiv, Nat.reduceSub, Nat.reduceMod, encL, lk_len, lk_ld, lk_set, lk_app, lk_imv, lk_snap, lk_sok, lk_one, lk_ldall, lk_setall, lk_mk, List.length_set, List.length_append, List.length_singleton, List.length_replicate, fold_or32, fold_xor32, fold_and32, fold_shl32, fold_shr32, fold_add32, fold_not32, sc_one, rv2, rv3, Option.bind_some, Option.map_some, Option.some.injEq, exists_eq_left', List.getElem?_cons_zero, List.getElem?_cons_succ, ld_0, ld_1, ld_2, sc_0, sc_1, sc_2, List.take_succ_cons, List.take_zero, List.all_cons, List.all_nil, List.map_cons, List.map_nil, Bool.and_true, Bool.true_and, flt_snap, flt_sok, flt_imv, flt_one, flt_eq, set_hs, ld_hs, sumS_len, lk_ints, setK_nil]
  refine loop_vcg (ι := Nat × (Nat → Nat)) (fun (k, c0) => stO [(4, .val (.ip [.int .i64 c, .int .i64 a, .ifc 63 (.int .i64 c)] 0)), (6, .val (.int .i64 c)), (7, .val (.int .i64 a)), (8, .val (.int .i64 k))] c0)
    (fun (k, _) => k = 0) (fun (k, _) => 200 - k) (0, _) rfl (ent_of _ [] rfl rfl (by simp only [VC0, VC1, VC2, VC3, VC4, VC5, VC6, VC7, VC8, VC9, reduceIte, reduceCtorEq, Nat.reduceEqDiff, Nat.reduceAdd, Nat.reduceMul, Nat.reduceBEq, Nat.reduceLT, Nat.reduceLeDiff, Int.reduceEq, Int.reduceLT, Int.reduceLE, Int.reduceNeg, Int.reduceToNat, Int.reduceAdd, Nat.reduceDiv, Nat.reduceSub, Nat.reduceMod, encL, lk_len, lk_ld, lk_set, lk_app, lk_imv, lk_snap, lk_sok, lk_one, lk_ldall, lk_setall, lk_mk, List.length_set, List.length_append, List.length_singleton, List.length_replicate, fold_or32, fold_xor32, fold_and32, fold_shl32, fold_shr32, fold_add32, fold_not32, sc_one, rv2, rv3, Option.bind_some, Option.map_some, Option.some.injEq, exists_eq_left', List.getElem?_cons_zero, List.getElem?_cons_succ, ld_0, ld_1, ld_2, sc_0, sc_1, sc_2, List.take_succ_cons, List.take_zero, List.all_cons, List.all_nil, List.map_cons, List.map_nil, Bool.and_true, Bool.true_and, flt_snap, flt_sok, flt_imv, flt_one, flt_eq, set_hs, ld_hs, sumS_len, lk_ints, setK_nil])) ?_
  rintro ⟨k, c0⟩ hk
  obtain rfl : k = 0 := hk
  simp only [VC0, VC1, VC2, VC3, VC4, VC5, VC6, VC7, VC8, VC9, reduceIte, reduceCtorEq, Nat.reduceEqDiff, Nat.reduceAdd, Nat.reduceMul, Nat.reduceBEq, Nat.reduceLT, Nat.reduceLeDiff, Int.reduceEq, Int.reduceLT, Int.reduceLE, Int.reduceNeg, Int.reduceToNat, Int.reduceAdd, Nat.reduceDiv, Nat.reduceSub, Nat.reduceMod, encL, lk_len, lk_ld, lk_set, lk_app, lk_imv, lk_snap, lk_sok, lk_one, lk_ldall, lk_setall, lk_mk, List.length_set, List.length_append, List.length_singleton, List.length_replicate, fold_or32, fold_xor32, fold_and32, fold_shl32, fold_shr32, fold_add32, fold_not32, sc_one, rv2, rv3, Option.bind_some, Option.map_some, Option.some.injEq, exists_eq_left', List.getElem?_cons_zero, List.getElem?_cons_succ, ld_0, ld_1, ld_2, sc_0, sc_1, sc_2, List.take_succ_cons, List.take_zero, List.all_cons, List.all_nil, List.map_cons, List.map_nil, Bool.and_true, Bool.true_and, flt_snap, flt_sok, flt_imv, flt_one, flt_eq, set_hs, ld_hs, sumS_len, lk_ints, setK_nil]
theorem is_flt (c a c' a' : Int) : PRet Try.prog 13 [flt c a, .int .i64 c', .int .i64 a'] (.bool ((c == c') && (a == a'))) := by
  refine pret_intro fd13 (by simp) ?_
  simp only [lc13, VC0, VC1, VC2, VC3, VC4, VC5, VC6, VC7, VC8, VC9, reduceIte, reduceCtorEq, Nat.reduceEqDiff, Nat.reduceAdd, Nat.reduceMul, Nat.reduceBEq, Nat.reduceLT, Nat.reduceLeDiff, Int.reduceEq, Int.reduceLT, Int.reduceLE, Int.reduceNeg, Int.reduceToNat, Int.reduceAdd, Nat.reduceDiv, Nat.reduceSub, Nat.reduceMod, encL, lk_len, lk_ld, lk_set, lk_app, lk_imv, lk_snap, lk_sok, lk_one, lk_ldall, lk_setall, lk_mk, List.length_set, List.length_append, List.length_singleton, List.length_replicate, fold_or32, fold_xor32, fold_and32, fold_shl32, fold_shr32, fold_add32, fold_not32, sc_one, rv2, rv3, Option.bind_some, Option.map_some, Option.some.injEq, exists_eq_left', List.getElem?_cons_zero, List.getElem?_cons_succ, ld_0, ld_1, ld_2, sc_0, sc_1, sc_2, List.take_succ_cons, List.take_zero, List.all_cons, List.all_nil, List.map_cons, List.map_nil, Bool.and_true, Bool.true_and, flt_snap, flt_sok, flt_imv, flt_one, flt_eq, set_hs, ld_hs, sumS_len, lk_ints, setK_nil, flt]
  refine callX_of (told_flt c a) (.inl rfl) ?_
  cases h1 : (c == c') <;> simp only [VC0, VC1, VC2, VC3, VC4, VC5, VC6, VC7, VC8, VC9, reduceIte, reduceCtorEq, Nat.reduceEqDiff, Nat.reduceAdd, Nat.reduceMul, Nat.reduceBEq, Nat.reduceLT, Nat.reduceLeDiff, Int.reduceEq, Int.reduceLT, Int.reduceLE, Int.reduceNeg, Int.reduceToNat, Int.reduceAdd, Nat.reduceDiv, Nat.reduceSub, Nat.reduceMod, encL, lk_len, lk_ld, lk_set, lk_app, lk_imv, lk_snap, lk_sok, lk_one, lk_ldall, lk_setall, lk_mk, List.length_set, List.length_append, List.length_singleton, List.length_replicate, fold_or32, fold_xor32, fold_and32, fold_shl32, fold_shr32, fold_add32, fold_not32, sc_one, rv2, rv3, Option.bind_some, Option.map_some, Option.some.injEq, exists_eq_left', List.getElem?_cons_zero, List.getElem?_cons_succ, ld_0, ld_1, ld_2, sc_0, sc_1, sc_2, List.take_succ_cons, List.take_zero, List.all_cons, List.all_nil, List.map_cons, List.map_nil, Bool.and_true, Bool.true_and, flt_snap, flt_sok, flt_imv, flt_one, flt_eq, set_hs, ld_hs, sumS_len, lk_ints, setK_nil, h1]
  · have : decide (c = c') = false := by simpa using h1
    rw [this, Bool.false_and]
  · have : decide (c = c') = true := by simpa using h1
    rw [this, Bool.true_and]
theorem new_err (n : Int) (h : n < 1 ∨ 4096 < n) : PRet Try.prog 8 [.int .i64 n] (.tup [.nilp, flt 2 0]) := by
  refine pret_intro fd8 (by simp) ?_
  simp only [lc8, VC0, VC1, VC2, VC3, VC4, VC5, VC6, VC7, VC8, VC9, reduceIte, reduceCtorEq, Nat.reduceEqDiff, Nat.reduceAdd, Nat.reduceMul, Nat.reduceBEq, Nat.reduceLT, Nat.reduceLeDiff, Int.reduceEq, Int.reduceLT, Int.reduceLE, Int.reduceNeg, Int.reduceToNat, Int.reduceAdd, Nat.reduceDiv, Nat.reduceSub, Nat.reduceMod, encL, lk_len, lk_ld, lk_set, lk_app, lk_imv, lk_snap, lk_sok, lk_one, lk_ldall, lk_setall, lk_mk, List.length_set, List.length_append, List.length_singleton, List.length_replicate, fold_or32, fold_xor32, fold_and32, fold_shl32, fold_shr32, fold_add32, fold_not32, sc_one, rv2, rv3, Option.bind_some, Option.map_some, Option.some.injEq, exists_eq_left', List.getElem?_cons_zero, List.getElem?_cons_succ, ld_0, ld_1, ld_2, sc_0, sc_1, sc_2, List.take_succ_cons, List.take_zero, List.all_cons, List.all_nil, List.map_cons, List.map_nil, Bool.and_true, Bool.true_and, flt_snap, flt_sok, flt_imv, flt_one, flt_eq, set_hs, ld_hs, sumS_len, lk_ints, setK_nil]
  cases h1 : decide (n < 1) <;> simp only [VC0, VC1, VC2, VC3, VC4, VC5, VC6, VC7, VC8, VC9, reduceIte, reduceCtorEq, Nat.reduceEqDiff, Nat.reduceAdd, Nat.reduceMul, Nat.reduceBEq, Nat.reduceLT, Nat.reduceLeDiff, Int.reduceEq, Int.reduceLT, Int.reduceLE, Int.reduceNeg, Int.reduceToNat, Int.reduceAdd, Nat.reduceDiv, Nat.reduceSub, Nat.reduceMod, encL, lk_len, lk_ld, lk_set, lk_app, lk_imv, lk_snap, lk_sok, lk_one, lk_ldall, lk_setall, lk_mk, List.length_set, List.length_append, List.length_singleton, List.length_replicate, fold_or32, fold_xor32, fold_and32, fold_shl32, fold_shr32, fold_add32, fold_not32, sc_one, rv2, rv3, Option.bind_some, Option.map_some, Option.some.injEq, exists_eq_left', List.getElem?_cons_zero, List.getElem?_cons_succ, ld_0, ld_1, ld_2, sc_0, sc_1, sc_2, List.take_succ_cons, List.take_zero, List.all_cons, List.all_nil, List.map_cons, List.map_nil, Bool.and_true, Bool.true_and, flt_snap, flt_sok, flt_imv, flt_one, flt_eq, set_hs, ld_hs, sumS_len, lk_ints, setK_nil, h1]
  · have h2 : decide (4096 < n) = true := by simp at h1 ⊢; omega
    simp only [VC0, VC1, VC2, VC3, VC4, VC5, VC6, VC7, VC8, VC9, reduceIte, reduceCtorEq, Nat.reduceEqDiff, Nat.reduceAdd, Nat.reduceMul, Nat.reduceBEq, Nat.reduceLT, Nat.reduceLeDiff, Int.reduceEq, Int.reduceLT, Int.reduceLE, Int.reduceNeg, Int.reduceToNat, Int.reduceAdd, Nat.reduceDiv, Nat.reduceSub, Nat.reduceMod, encL, lk_len, lk_ld, lk_set, lk_app, lk_imv, lk_snap, lk_sok, lk_one, lk_ldall, lk_setall, lk_mk, List.length_set, List.length_append, List.length_singleton, List.length_replicate, fold_or32, fold_xor32, fold_and32, fold_shl32, fold_shr32, fold_add32, fold_not32, sc_one, rv2, rv3, Option.bind_some, Option.map_some, Option.some.injEq, exists_eq_left', List.getElem?_cons_zero, List.getElem?_cons_succ, ld_0, ld_1, ld_2, sc_0, sc_1, sc_2, List.take_succ_cons, List.take_zero, List.all_cons, List.all_nil, List.map_cons, List.map_nil, Bool.and_true, Bool.true_and, flt_snap, flt_sok, flt_imv, flt_one, flt_eq, set_hs, ld_hs, sumS_len, lk_ints, setK_nil, h2]
    refine callX_of (fault_ret 2 0 (by decide)) (.inl rfl) ?_
    simp only [VC0, VC1, VC2, VC3, VC4, VC5, VC6, VC7, VC8, VC9, reduceIte, reduceCtorEq, Nat.reduceEqDiff, Nat.reduceAdd, Nat.reduceMul, Nat.reduceBEq, Nat.reduceLT, Nat.reduceLeDiff, Int.reduceEq, Int.reduceLT, Int.reduceLE, Int.reduceNeg, Int.reduceToNat, Int.reduceAdd, Nat.reduceDiv, Nat.reduceSub, Nat.reduceMod, encL, lk_len, lk_ld, lk_set, lk_app, lk_imv, lk_snap, lk_sok, lk_one, lk_ldall, lk_setall, lk_mk, List.length_set, List.length_append, List.length_singleton, List.length_replicate, fold_or32, fold_xor32, fold_and32, fold_shl32, fold_shr32, fold_add32, fold_not32, sc_one, rv2, rv3, Option.bind_some, Option.map_some, Option.some.injEq, exists_eq_left', List.getElem?_cons_zero, List.getElem?_cons_succ, ld_0, ld_1, ld_2, sc_0, sc_1, sc_2, List.take_succ_cons, List.take_zero, List.all_cons, List.all_nil, List.map_cons, List.map_nil, Bool.and_true, Bool.true_and, flt_snap, flt_sok, flt_imv, flt_one, flt_eq, set_hs, ld_hs, sumS_len, lk_ints, setK_nil]
    rfl
  · refine callX_of (fault_ret 2 0 (by decide)) (.inl rfl) ?_
    simp only [VC0, VC1, VC2, VC3, VC4, VC5, VC6, VC7, VC8, VC9, reduceIte, reduceCtorEq, Nat.reduceEqDiff, Nat.reduceAdd, Nat.reduceMul, Nat.reduceBEq, Nat.reduceLT, Nat.reduceLeDiff, Int.reduceEq, Int.reduceLT, Int.reduceLE, Int.reduceNeg, Int.reduceToNat, Int.reduceAdd, Nat.reduceDiv, Nat.reduceSub, Nat.reduceMod, encL, lk_len, lk_ld, lk_set, lk_app, lk_imv, lk_snap, lk_sok, lk_one, lk_ldall, lk_setall, lk_mk, List.length_set, List.length_append, List.length_singleton, List.length_replicate, fold_or32, fold_xor32, fold_and32, fold_shl32, fold_shr32, fold_add32, fold_not32, sc_one, rv2, rv3, Option.bind_some, Option.map_some, Option.some.injEq, exists_eq_left', List.getElem?_cons_zero, List.getElem?_cons_succ, ld_0, ld_1, ld_2, sc_0, sc_1, sc_2, List.take_succ_cons, List.take_zero, List.all_cons, List.all_nil, List.map_cons, List.map_nil, Bool.and_true, Bool.true_and, flt_snap, flt_sok, flt_imv, flt_one, flt_eq, set_hs, ld_hs, sumS_len, lk_ints, setK_nil]
    rfl

theorem count_ret (n : V) (es : List (V × V)) : PRet Try.prog 14 [.ip [n, .im es] 0] (.int .i64 es.length) := by
  refine pret_intro fd14 (by simp) ?_
  simp only [lc14, VC0, VC1, VC2, VC3, VC4, VC5, VC6, VC7, VC8, VC9, reduceIte, reduceCtorEq, Nat.reduceEqDiff, Nat.reduceAdd, Nat.reduceMul, Nat.reduceBEq, Nat.reduceLT, Nat.reduceLeDiff, Int.reduceEq, Int.reduceLT, Int.reduceLE, Int.reduceNeg, Int.reduceToNat, Int.reduceAdd, Nat.reduceDiv, Nat.reduceSub, Nat.reduceMod, encL, lk_len, lk_ld, lk_set, lk_app, lk_imv, lk_snap, lk_sok, lk_one, lk_ldall, lk_setall, lk_mk, List.length_set, List.length_append, List.length_singleton, List.length_replicate, fold_or32, fold_xor32, fold_and32, fold_shl32, fold_shr32, fold_add32, fold_not32, sc_one, rv2, rv3, Option.bind_some, Option.map_some, Option.some.injEq, exists_eq_left', List.getElem?_cons_zero, List.getElem?_cons_succ, ld_0, ld_1, ld_2, sc_0, sc_1, sc_2, List.take_succ_cons, List.take_zero, List.all_cons, List.all_nil, List.map_cons, List.map_nil, Bool.and_true, Bool.true_and, flt_snap, flt_sok, flt_imv, flt_one, flt_eq, set_hs, ld_hs, sumS_len, lk_ints, setK_nil]
end Go.Proofs.Ythpffaofpcikiaa

set_option linter.unusedSimpArgs false
set_option linter.unusedVariables false
namespace Go.Proofs.Ythpffaofpcikiaa
open Go Go.Lg Go.RowKit
set_option linter.unusedVariables false
set_option linter.unusedSimpArgs false

def sumT : Bool := (sumS [121]).getD 0 0 == 161
theorem sumT_true : sumT = true := by kernel_rfl
theorem sum_y : decide (sumS [121] = List.replicate 32 0) = false := by
  have h := sumT_true
  simp only [sumT, beq_iff_eq] at h
  simp only [decide_eq_false_iff_not]
  intro e
  rw [e] at h
  cases h
theorem sum1_ret (x : Int) : PRet Try.prog 27 [.sl 1 [.int .u8 x]] (.agg ((sumS [x]).flatMap (cK .u8))) := sum_ret [x] (by simp)

def keyB (k : List V) : Prop := keyV (.arr 32 .u8) (.agg k) = true
theorem keyB_hs (b : List Int) : keyB (hs b) := by
  have h : decide ((hs b).length = 32) = true := by rw [hs_len]; rfl
  show (decide ((hs b).length = 32) && intsK .u8 (hs b)) = true
  rw [h, Bool.true_and, hs]; exact lk_ints _
theorem keyB_arr {k : List V} (h : keyB k) : k.length = 32 ∧ intsK .u8 k = true := by
  have : (decide (k.length = 32) && intsK .u8 k) = true := h
  simpa using this

theorem take_err (n : V) (es : List (V × V)) (k : List V) (b : List Int) (hb : b.length ≤ 200) (hk : keyB k) (hne : eqInts (hs b) k = false) :
    PRetF Try.prog 17 [.ip [n, .im es] 0, .agg k, encL (cK .u8) b] (flt 11 0) := by
  obtain ⟨k1, k2⟩ := keyB_arr hk
  have h1 : decide ((4194304 : Int) < b.length) = false := by simp; omega
  refine pretF_intro fd17 (by simp) ?_
  simp only [lc17, VC0, VC1, VC2, VC3, VC4, VC5, VC6, VC7, VC8, VC9, reduceIte, reduceCtorEq, Nat.reduceEqDiff, Nat.reduceAdd, Nat.reduceMul, Nat.reduceBEq, Nat.reduceLT, Nat.reduceLeDiff, Int.reduceEq, Int.reduceLT, Int.reduceLE, Int.reduceNeg, Int.reduceToNat, Int.reduceAdd, Nat.reduceDiv, Nat.reduceSub, Nat.reduceMod, encL, lk_len, lk_ld, lk_set, lk_app, lk_imv, lk_snap, lk_sok, lk_one, lk_ldall, lk_setall, lk_mk, List.length_set, List.length_append, List.length_singleton, List.length_replicate, fold_or32, fold_xor32, fold_and32, fold_shl32, fold_shr32, fold_add32, fold_not32, sc_one, rv2, rv3, Option.bind_some, Option.map_some, Option.some.injEq, exists_eq_left', List.getElem?_cons_zero, List.getElem?_cons_succ, ld_0, ld_1, ld_2, sc_0, sc_1, sc_2, List.take_succ_cons, List.take_zero, List.all_cons, List.all_nil, List.map_cons, List.map_nil, Bool.and_true, Bool.true_and, flt_snap, flt_sok, flt_imv, flt_one, flt_eq, set_hs, ld_hs, sumS_len, lk_ints, setK_nil, h1]
  refine callV_of (sum_ret b (by omega)) (.inr (lk_flat 3 _)) ?_
  have hk' : keyV (.arr 32 .u8) (.agg k) = true := hk
  have hb' : keyV (.arr 32 .u8) (.agg (hs b)) = true := keyB_hs b
  have hne' : eqInts ((sumS b).flatMap (cK .u8)) k = false := hne
  simp only [hs] at hb'
  simp only [VC0, VC1, VC2, VC3, VC4, VC5, VC6, VC7, VC8, VC9, reduceIte, reduceCtorEq, Nat.reduceEqDiff, Nat.reduceAdd, Nat.reduceMul, Nat.reduceBEq, Nat.reduceLT, Nat.reduceLeDiff, Int.reduceEq, Int.reduceLT, Int.reduceLE, Int.reduceNeg, Int.reduceToNat, Int.reduceAdd, Nat.reduceDiv, Nat.reduceSub, Nat.reduceMod, encL, lk_len, lk_ld, lk_set, lk_app, lk_imv, lk_snap, lk_sok, lk_one, lk_ldall, lk_setall, lk_mk, List.length_set, List.length_append, List.length_singleton, List.length_replicate, fold_or32, fold_xor32, fold_and32, fold_shl32, fold_shr32, fold_add32, fold_not32, sc_one, rv2, rv3, Option.bind_some, Option.map_some, Option.some.injEq, exists_eq_left', List.getElem?_cons_zero, List.getElem?_cons_succ, ld_0, ld_1, ld_2, sc_0, sc_1, sc_2, List.take_succ_cons, List.take_zero, List.all_cons, List.all_nil, List.map_cons, List.map_nil, Bool.and_true, Bool.true_and, flt_snap, flt_sok, flt_imv, flt_one, flt_eq, set_hs, ld_hs, sumS_len, lk_ints, setK_nil, h1, ld_all k1, k1, k2, hne', sumS_len, lk_ints]
  refine callX_inl fd24 (by simp) ?_
  simp only [lc24, VC0, VC1, VC2, VC3, VC4, VC5, VC6, VC7, VC8, VC9, reduceIte, reduceCtorEq, Nat.reduceEqDiff, Nat.reduceAdd, Nat.reduceMul, Nat.reduceBEq, Nat.reduceLT, Nat.reduceLeDiff, Int.reduceEq, Int.reduceLT, Int.reduceLE, Int.reduceNeg, Int.reduceToNat, Int.reduceAdd, Nat.reduceDiv, Nat.reduceSub, Nat.reduceMod, encL, lk_len, lk_ld, lk_set, lk_app, lk_imv, lk_snap, lk_sok, lk_one, lk_ldall, lk_setall, lk_mk, List.length_set, List.length_append, List.length_singleton, List.length_replicate, fold_or32, fold_xor32, fold_and32, fold_shl32, fold_shr32, fold_add32, fold_not32, sc_one, rv2, rv3, Option.bind_some, Option.map_some, Option.some.injEq, exists_eq_left', List.getElem?_cons_zero, List.getElem?_cons_succ, ld_0, ld_1, ld_2, sc_0, sc_1, sc_2, List.take_succ_cons, List.take_zero, List.all_cons, List.all_nil, List.map_cons, List.map_nil, Bool.and_true, Bool.true_and, flt_snap, flt_sok, flt_imv, flt_one, flt_eq, set_hs, ld_hs, sumS_len, lk_ints, setK_nil, flt]

theorem rsum1_ret (x : Int) (hx : 0 ≤ x ∧ x < 256) : PRet Try.prog 9 [.sl 1 [.int .u8 x]] (.agg ((sumS [x]).flatMap (cK .u8))) := rsum_ret [x] (by simp) (by simp; omega)
theorem zs_eq : ([.int .u8 0, .int .u8 0, .int .u8 0, .int .u8 0, .int .u8 0, .int .u8 0, .int .u8 0, .int .u8 0, .int .u8 0, .int .u8 0, .int .u8 0, .int .u8 0, .int .u8 0, .int .u8 0, .int .u8 0, .int .u8 0, .int .u8 0, .int .u8 0, .int .u8 0, .int .u8 0, .int .u8 0, .int .u8 0, .int .u8 0, .int .u8 0, .int .u8 0, .int .u8 0, .int .u8 0, .int .u8 0, .int .u8 0, .int .u8 0, .int .u8 0, .int .u8 0] : List V) = (List.replicate 32 (0 : Int)).flatMap (cK .u8) := rfl
theorem take1 (n : V) (es : List (V × V)) : PRetF Try.prog 17 [.ip [n, .im es] 0, .agg [.int .u8 0, .int .u8 0, .int .u8 0, .int .u8 0, .int .u8 0, .int .u8 0, .int .u8 0, .int .u8 0, .int .u8 0, .int .u8 0, .int .u8 0, .int .u8 0, .int .u8 0, .int .u8 0, .int .u8 0, .int .u8 0, .int .u8 0, .int .u8 0, .int .u8 0, .int .u8 0, .int .u8 0, .int .u8 0, .int .u8 0, .int .u8 0, .int .u8 0, .int .u8 0, .int .u8 0, .int .u8 0, .int .u8 0, .int .u8 0, .int .u8 0, .int .u8 0], .sl 1 [.int .u8 121]] (flt 11 0) := by
  have h : eqInts (hs [121]) [.int .u8 0, .int .u8 0, .int .u8 0, .int .u8 0, .int .u8 0, .int .u8 0, .int .u8 0, .int .u8 0, .int .u8 0, .int .u8 0, .int .u8 0, .int .u8 0, .int .u8 0, .int .u8 0, .int .u8 0, .int .u8 0, .int .u8 0, .int .u8 0, .int .u8 0, .int .u8 0, .int .u8 0, .int .u8 0, .int .u8 0, .int .u8 0, .int .u8 0, .int .u8 0, .int .u8 0, .int .u8 0, .int .u8 0, .int .u8 0, .int .u8 0, .int .u8 0] = false := by
    rw [hs, zs_eq, lk_eq]; exact sum_y
  exact take_err n es _ [121] (by simp) (by rw [zs_eq]; rfl) h
theorem told_ret : PRet Try.prog 10 [] (.bool true) := by
  refine pret_intro fd10 (by simp) ?_
  simp only [lc10, VC0, VC1, VC2, VC3, VC4, VC5, VC6, VC7, VC8, VC9, reduceIte, reduceCtorEq, Nat.reduceEqDiff, Nat.reduceAdd, Nat.reduceMul, Nat.reduceBEq, Nat.reduceLT, Nat.reduceLeDiff, Int.reduceEq, Int.reduceLT, Int.reduceLE, Int.reduceNeg, Int.reduceToNat, Int.reduceAdd, Nat.reduceDiv, Nat.reduceSub, Nat.reduceMod, encL, lk_len, lk_ld, lk_set, lk_app, lk_imv, lk_snap, lk_sok, lk_one, lk_ldall, lk_setall, lk_mk, List.length_set, List.length_append, List.length_singleton, List.length_replicate, fold_or32, fold_xor32, fold_and32, fold_shl32, fold_shr32, fold_add32, fold_not32, sc_one, rv2, rv3, Option.bind_some, Option.map_some, Option.some.injEq, exists_eq_left', List.getElem?_cons_zero, List.getElem?_cons_succ, ld_0, ld_1, ld_2, sc_0, sc_1, sc_2, List.take_succ_cons, List.take_zero, List.all_cons, List.all_nil, List.map_cons, List.map_nil, Bool.and_true, Bool.true_and, flt_snap, flt_sok, flt_imv, flt_one, flt_eq, set_hs, ld_hs, sumS_len, lk_ints, setK_nil]
  refine callX_inl fd8 (by simp) ?_
  simp only [lc8, VC0, VC1, VC2, VC3, VC4, VC5, VC6, VC7, VC8, VC9, reduceIte, reduceCtorEq, Nat.reduceEqDiff, Nat.reduceAdd, Nat.reduceMul, Nat.reduceBEq, Nat.reduceLT, Nat.reduceLeDiff, Int.reduceEq, Int.reduceLT, Int.reduceLE, Int.reduceNeg, Int.reduceToNat, Int.reduceAdd, Nat.reduceDiv, Nat.reduceSub, Nat.reduceMod, encL, lk_len, lk_ld, lk_set, lk_app, lk_imv, lk_snap, lk_sok, lk_one, lk_ldall, lk_setall, lk_mk, List.length_set, List.length_append, List.length_singleton, List.length_replicate, fold_or32, fold_xor32, fold_and32, fold_shl32, fold_shr32, fold_add32, fold_not32, sc_one, rv2, rv3, Option.bind_some, Option.map_some, Option.some.injEq, exists_eq_left', List.getElem?_cons_zero, List.getElem?_cons_succ, ld_0, ld_1, ld_2, sc_0, sc_1, sc_2, List.take_succ_cons, List.take_zero, List.all_cons, List.all_nil, List.map_cons, List.map_nil, Bool.and_true, Bool.true_and, flt_snap, flt_sok, flt_imv, flt_one, flt_eq, set_hs, ld_hs, sumS_len, lk_ints, setK_nil]
  refine callX_inl fd11 (by simp) ?_
  simp only [lc11, VC0, VC1, VC2, VC3, VC4, VC5, VC6, VC7, VC8, VC9, reduceIte, reduceCtorEq, Nat.reduceEqDiff, Nat.reduceAdd, Nat.reduceMul, Nat.reduceBEq, Nat.reduceLT, Nat.reduceLeDiff, Int.reduceEq, Int.reduceLT, Int.reduceLE, Int.reduceNeg, Int.reduceToNat, Int.reduceAdd, Nat.reduceDiv, Nat.reduceSub, Nat.reduceMod, encL, lk_len, lk_ld, lk_set, lk_app, lk_imv, lk_snap, lk_sok, lk_one, lk_ldall, lk_setall, lk_mk, List.length_set, List.length_append, List.length_singleton, List.length_replicate, fold_or32, fold_xor32, fold_and32, fold_shl32, fold_shr32, fold_add32, fold_not32, sc_one, rv2, rv3, Option.bind_some, Option.map_some, Option.some.injEq, exists_eq_left', List.getElem?_cons_zero, List.getElem?_cons_succ, ld_0, ld_1, ld_2, sc_0, sc_1, sc_2, List.take_succ_cons, List.take_zero, List.all_cons, List.all_nil, List.map_cons, List.map_nil, Bool.and_true, Bool.true_and, flt_snap, flt_sok, flt_imv, flt_one, flt_eq, set_hs, ld_hs, sumS_len, lk_ints, setK_nil]
  refine callX_of (sum1_ret 120) (.inr (lk_flat 3 _)) ?_
  simp only [VC0, VC1, VC2, VC3, VC4, VC5, VC6, VC7, VC8, VC9, reduceIte, reduceCtorEq, Nat.reduceEqDiff, Nat.reduceAdd, Nat.reduceMul, Nat.reduceBEq, Nat.reduceLT, Nat.reduceLeDiff, Int.reduceEq, Int.reduceLT, Int.reduceLE, Int.reduceNeg, Int.reduceToNat, Int.reduceAdd, Nat.reduceDiv, Nat.reduceSub, Nat.reduceMod, encL, lk_len, lk_ld, lk_set, lk_app, lk_imv, lk_snap, lk_sok, lk_one, lk_ldall, lk_setall, lk_mk, List.length_set, List.length_append, List.length_singleton, List.length_replicate, fold_or32, fold_xor32, fold_and32, fold_shl32, fold_shr32, fold_add32, fold_not32, sc_one, rv2, rv3, Option.bind_some, Option.map_some, Option.some.injEq, exists_eq_left', List.getElem?_cons_zero, List.getElem?_cons_succ, ld_0, ld_1, ld_2, sc_0, sc_1, sc_2, List.take_succ_cons, List.take_zero, List.all_cons, List.all_nil, List.map_cons, List.map_nil, Bool.and_true, Bool.true_and, flt_snap, flt_sok, flt_imv, flt_one, flt_eq, set_hs, ld_hs, sumS_len, lk_ints, setK_nil, sumS_len, set_hs, ld_hs, lk_ints]
  refine callX_inl fd28 (by simp) ?_
  simp only [lc28, VC0, VC1, VC2, VC3, VC4, VC5, VC6, VC7, VC8, VC9, reduceIte, reduceCtorEq, Nat.reduceEqDiff, Nat.reduceAdd, Nat.reduceMul, Nat.reduceBEq, Nat.reduceLT, Nat.reduceLeDiff, Int.reduceEq, Int.reduceLT, Int.reduceLE, Int.reduceNeg, Int.reduceToNat, Int.reduceAdd, Nat.reduceDiv, Nat.reduceSub, Nat.reduceMod, encL, lk_len, lk_ld, lk_set, lk_app, lk_imv, lk_snap, lk_sok, lk_one, lk_ldall, lk_setall, lk_mk, List.length_set, List.length_append, List.length_singleton, List.length_replicate, fold_or32, fold_xor32, fold_and32, fold_shl32, fold_shr32, fold_add32, fold_not32, sc_one, rv2, rv3, Option.bind_some, Option.map_some, Option.some.injEq, exists_eq_left', List.getElem?_cons_zero, List.getElem?_cons_succ, ld_0, ld_1, ld_2, sc_0, sc_1, sc_2, List.take_succ_cons, List.take_zero, List.all_cons, List.all_nil, List.map_cons, List.map_nil, Bool.and_true, Bool.true_and, flt_snap, flt_sok, flt_imv, flt_one, flt_eq, set_hs, ld_hs, sumS_len, lk_ints, setK_nil, sumS_len, set_hs, ld_hs, lk_ints, setK_nil, lk_eq]
  refine callX_inl fd11 (by simp) ?_
  simp only [lc11, VC0, VC1, VC2, VC3, VC4, VC5, VC6, VC7, VC8, VC9, reduceIte, reduceCtorEq, Nat.reduceEqDiff, Nat.reduceAdd, Nat.reduceMul, Nat.reduceBEq, Nat.reduceLT, Nat.reduceLeDiff, Int.reduceEq, Int.reduceLT, Int.reduceLE, Int.reduceNeg, Int.reduceToNat, Int.reduceAdd, Nat.reduceDiv, Nat.reduceSub, Nat.reduceMod, encL, lk_len, lk_ld, lk_set, lk_app, lk_imv, lk_snap, lk_sok, lk_one, lk_ldall, lk_setall, lk_mk, List.length_set, List.length_append, List.length_singleton, List.length_replicate, fold_or32, fold_xor32, fold_and32, fold_shl32, fold_shr32, fold_add32, fold_not32, sc_one, rv2, rv3, Option.bind_some, Option.map_some, Option.some.injEq, exists_eq_left', List.getElem?_cons_zero, List.getElem?_cons_succ, ld_0, ld_1, ld_2, sc_0, sc_1, sc_2, List.take_succ_cons, List.take_zero, List.all_cons, List.all_nil, List.map_cons, List.map_nil, Bool.and_true, Bool.true_and, flt_snap, flt_sok, flt_imv, flt_one, flt_eq, set_hs, ld_hs, sumS_len, lk_ints, setK_nil, setK_nil]
  refine callX_of (sum1_ret 120) (.inr (lk_flat 3 _)) ?_
  simp only [VC0, VC1, VC2, VC3, VC4, VC5, VC6, VC7, VC8, VC9, reduceIte, reduceCtorEq, Nat.reduceEqDiff, Nat.reduceAdd, Nat.reduceMul, Nat.reduceBEq, Nat.reduceLT, Nat.reduceLeDiff, Int.reduceEq, Int.reduceLT, Int.reduceLE, Int.reduceNeg, Int.reduceToNat, Int.reduceAdd, Nat.reduceDiv, Nat.reduceSub, Nat.reduceMod, encL, lk_len, lk_ld, lk_set, lk_app, lk_imv, lk_snap, lk_sok, lk_one, lk_ldall, lk_setall, lk_mk, List.length_set, List.length_append, List.length_singleton, List.length_replicate, fold_or32, fold_xor32, fold_and32, fold_shl32, fold_shr32, fold_add32, fold_not32, sc_one, rv2, rv3, Option.bind_some, Option.map_some, Option.some.injEq, exists_eq_left', List.getElem?_cons_zero, List.getElem?_cons_succ, ld_0, ld_1, ld_2, sc_0, sc_1, sc_2, List.take_succ_cons, List.take_zero, List.all_cons, List.all_nil, List.map_cons, List.map_nil, Bool.and_true, Bool.true_and, flt_snap, flt_sok, flt_imv, flt_one, flt_eq, set_hs, ld_hs, sumS_len, lk_ints, setK_nil, sumS_len, set_hs, ld_hs, lk_ints, setK_nil, lk_eq]
  refine callX_inl fd28 (by simp) ?_
  simp only [lc28, VC0, VC1, VC2, VC3, VC4, VC5, VC6, VC7, VC8, VC9, reduceIte, reduceCtorEq, Nat.reduceEqDiff, Nat.reduceAdd, Nat.reduceMul, Nat.reduceBEq, Nat.reduceLT, Nat.reduceLeDiff, Int.reduceEq, Int.reduceLT, Int.reduceLE, Int.reduceNeg, Int.reduceToNat, Int.reduceAdd, Nat.reduceDiv, Nat.reduceSub, Nat.reduceMod, encL, lk_len, lk_ld, lk_set, lk_app, lk_imv, lk_snap, lk_sok, lk_one, lk_ldall, lk_setall, lk_mk, List.length_set, List.length_append, List.length_singleton, List.length_replicate, fold_or32, fold_xor32, fold_and32, fold_shl32, fold_shr32, fold_add32, fold_not32, sc_one, rv2, rv3, Option.bind_some, Option.map_some, Option.some.injEq, exists_eq_left', List.getElem?_cons_zero, List.getElem?_cons_succ, ld_0, ld_1, ld_2, sc_0, sc_1, sc_2, List.take_succ_cons, List.take_zero, List.all_cons, List.all_nil, List.map_cons, List.map_nil, Bool.and_true, Bool.true_and, flt_snap, flt_sok, flt_imv, flt_one, flt_eq, set_hs, ld_hs, sumS_len, lk_ints, setK_nil, sumS_len, set_hs, ld_hs, lk_ints, setK_nil, lk_eq]
  refine callX_of (new_err 0 (by omega)) (.inl rfl) ?_
  simp only [VC0, VC1, VC2, VC3, VC4, VC5, VC6, VC7, VC8, VC9, reduceIte, reduceCtorEq, Nat.reduceEqDiff, Nat.reduceAdd, Nat.reduceMul, Nat.reduceBEq, Nat.reduceLT, Nat.reduceLeDiff, Int.reduceEq, Int.reduceLT, Int.reduceLE, Int.reduceNeg, Int.reduceToNat, Int.reduceAdd, Nat.reduceDiv, Nat.reduceSub, Nat.reduceMod, encL, lk_len, lk_ld, lk_set, lk_app, lk_imv, lk_snap, lk_sok, lk_one, lk_ldall, lk_setall, lk_mk, List.length_set, List.length_append, List.length_singleton, List.length_replicate, fold_or32, fold_xor32, fold_and32, fold_shl32, fold_shr32, fold_add32, fold_not32, sc_one, rv2, rv3, Option.bind_some, Option.map_some, Option.some.injEq, exists_eq_left', List.getElem?_cons_zero, List.getElem?_cons_succ, ld_0, ld_1, ld_2, sc_0, sc_1, sc_2, List.take_succ_cons, List.take_zero, List.all_cons, List.all_nil, List.map_cons, List.map_nil, Bool.and_true, Bool.true_and, flt_snap, flt_sok, flt_imv, flt_one, flt_eq, set_hs, ld_hs, sumS_len, lk_ints, setK_nil, sumS_len, set_hs, ld_hs, lk_ints, setK_nil, lk_eq]
  refine join_vcg (ι := Nat → Nat) (fun c => stO [(1, .frz (.ip [.int .i64 2, .im [(.agg ((sumS [120]).flatMap (cK .u8)), .sl 1 [.int .u8 120])]] 0)), (3, .box ((sumS [120]).flatMap (cK .u8))), (4, .val .nili), (5, .box ((sumS [120]).flatMap (cK .u8))), (6, .val .nili), (8, .val (flt 2 0)), (10, .val (flt 2 0))] c) (fun _ => True) ?_ ?_
  · simp only [VC0, VC1, VC2, VC3, VC4, VC5, VC6, VC7, VC8, VC9, reduceIte, reduceCtorEq, Nat.reduceEqDiff, Nat.reduceAdd, Nat.reduceMul, Nat.reduceBEq, Nat.reduceLT, Nat.reduceLeDiff, Int.reduceEq, Int.reduceLT, Int.reduceLE, Int.reduceNeg, Int.reduceToNat, Int.reduceAdd, Nat.reduceDiv, Nat.reduceSub, Nat.reduceMod, encL, lk_len, lk_ld, lk_set, lk_app, lk_imv, lk_snap, lk_sok, lk_one, lk_ldall, lk_setall, lk_mk, List.length_set, List.length_append, List.length_singleton, List.length_replicate, fold_or32, fold_xor32, fold_and32, fold_shl32, fold_shr32, fold_add32, fold_not32, sc_one, rv2, rv3, Option.bind_some, Option.map_some, Option.some.injEq, exists_eq_left', List.getElem?_cons_zero, List.getElem?_cons_succ, ld_0, ld_1, ld_2, sc_0, sc_1, sc_2, List.take_succ_cons, List.take_zero, List.all_cons, List.all_nil, List.map_cons, List.map_nil, Bool.and_true, Bool.true_and, flt_snap, flt_sok, flt_imv, flt_one, flt_eq, set_hs, ld_hs, sumS_len, lk_ints, setK_nil]
    refine callX_of (new_err 4097 (by omega)) (.inl rfl) ?_
    simp only [VC0, VC1, VC2, VC3, VC4, VC5, VC6, VC7, VC8, VC9, reduceIte, reduceCtorEq, Nat.reduceEqDiff, Nat.reduceAdd, Nat.reduceMul, Nat.reduceBEq, Nat.reduceLT, Nat.reduceLeDiff, Int.reduceEq, Int.reduceLT, Int.reduceLE, Int.reduceNeg, Int.reduceToNat, Int.reduceAdd, Nat.reduceDiv, Nat.reduceSub, Nat.reduceMod, encL, lk_len, lk_ld, lk_set, lk_app, lk_imv, lk_snap, lk_sok, lk_one, lk_ldall, lk_setall, lk_mk, List.length_set, List.length_append, List.length_singleton, List.length_replicate, fold_or32, fold_xor32, fold_and32, fold_shl32, fold_shr32, fold_add32, fold_not32, sc_one, rv2, rv3, Option.bind_some, Option.map_some, Option.some.injEq, exists_eq_left', List.getElem?_cons_zero, List.getElem?_cons_succ, ld_0, ld_1, ld_2, sc_0, sc_1, sc_2, List.take_succ_cons, List.take_zero, List.all_cons, List.all_nil, List.map_cons, List.map_nil, Bool.and_true, Bool.true_and, flt_snap, flt_sok, flt_imv, flt_one, flt_eq, set_hs, ld_hs, sumS_len, lk_ints, setK_nil, sumS_len, set_hs, ld_hs, lk_ints, setK_nil, lk_eq]
    exact joinTo_of _ trivial (ent_of _ [(12291, 0), (12289, 0), (24583, 0)] rfl rfl (by simp only [VC0, VC1, VC2, VC3, VC4, VC5, VC6, VC7, VC8, VC9, reduceIte, reduceCtorEq, Nat.reduceEqDiff, Nat.reduceAdd, Nat.reduceMul, Nat.reduceBEq, Nat.reduceLT, Nat.reduceLeDiff, Int.reduceEq, Int.reduceLT, Int.reduceLE, Int.reduceNeg, Int.reduceToNat, Int.reduceAdd, Nat.reduceDiv, Nat.reduceSub, Nat.reduceMod, encL, lk_len, lk_ld, lk_set, lk_app, lk_imv, lk_snap, lk_sok, lk_one, lk_ldall, lk_setall, lk_mk, List.length_set, List.length_append, List.length_singleton, List.length_replicate, fold_or32, fold_xor32, fold_and32, fold_shl32, fold_shr32, fold_add32, fold_not32, sc_one, rv2, rv3, Option.bind_some, Option.map_some, Option.some.injEq, exists_eq_left', List.getElem?_cons_zero, List.getElem?_cons_succ, ld_0, ld_1, ld_2, sc_0, sc_1, sc_2, List.take_succ_cons, List.take_zero, List.all_cons, List.all_nil, List.map_cons, List.map_nil, Bool.and_true, Bool.true_and, flt_snap, flt_sok, flt_imv, flt_one, flt_eq, set_hs, ld_hs, sumS_len, lk_ints, setK_nil, setK_nil, lk_imv, lk_snap, List.mem_cons, List.not_mem_nil, or_false, or_true, true_or, false_or, flt]))
  · rintro c _
    simp only [VC0, VC1, VC2, VC3, VC4, VC5, VC6, VC7, VC8, VC9, reduceIte, reduceCtorEq, Nat.reduceEqDiff, Nat.reduceAdd, Nat.reduceMul, Nat.reduceBEq, Nat.reduceLT, Nat.reduceLeDiff, Int.reduceEq, Int.reduceLT, Int.reduceLE, Int.reduceNeg, Int.reduceToNat, Int.reduceAdd, Nat.reduceDiv, Nat.reduceSub, Nat.reduceMod, encL, lk_len, lk_ld, lk_set, lk_app, lk_imv, lk_snap, lk_sok, lk_one, lk_ldall, lk_setall, lk_mk, List.length_set, List.length_append, List.length_singleton, List.length_replicate, fold_or32, fold_xor32, fold_and32, fold_shl32, fold_shr32, fold_add32, fold_not32, sc_one, rv2, rv3, Option.bind_some, Option.map_some, Option.some.injEq, exists_eq_left', List.getElem?_cons_zero, List.getElem?_cons_succ, ld_0, ld_1, ld_2, sc_0, sc_1, sc_2, List.take_succ_cons, List.take_zero, List.all_cons, List.all_nil, List.map_cons, List.map_nil, Bool.and_true, Bool.true_and, flt_snap, flt_sok, flt_imv, flt_one, flt_eq, set_hs, ld_hs, sumS_len, lk_ints, setK_nil, sumS_len, set_hs, ld_hs, lk_ints, setK_nil, lk_eq]
    refine callV_of (rsum1_ret 120 (by omega)) (.inr (lk_flat 3 _)) ?_
    simp only [VC0, VC1, VC2, VC3, VC4, VC5, VC6, VC7, VC8, VC9, reduceIte, reduceCtorEq, Nat.reduceEqDiff, Nat.reduceAdd, Nat.reduceMul, Nat.reduceBEq, Nat.reduceLT, Nat.reduceLeDiff, Int.reduceEq, Int.reduceLT, Int.reduceLE, Int.reduceNeg, Int.reduceToNat, Int.reduceAdd, Nat.reduceDiv, Nat.reduceSub, Nat.reduceMod, encL, lk_len, lk_ld, lk_set, lk_app, lk_imv, lk_snap, lk_sok, lk_one, lk_ldall, lk_setall, lk_mk, List.length_set, List.length_append, List.length_singleton, List.length_replicate, fold_or32, fold_xor32, fold_and32, fold_shl32, fold_shr32, fold_add32, fold_not32, sc_one, rv2, rv3, Option.bind_some, Option.map_some, Option.some.injEq, exists_eq_left', List.getElem?_cons_zero, List.getElem?_cons_succ, ld_0, ld_1, ld_2, sc_0, sc_1, sc_2, List.take_succ_cons, List.take_zero, List.all_cons, List.all_nil, List.map_cons, List.map_nil, Bool.and_true, Bool.true_and, flt_snap, flt_sok, flt_imv, flt_one, flt_eq, set_hs, ld_hs, sumS_len, lk_ints, setK_nil, sumS_len, set_hs, ld_hs, lk_ints, setK_nil, lk_eq]
    refine callV_of (count_ret _ _) (.inl rfl) ?_
    simp only [VC0, VC1, VC2, VC3, VC4, VC5, VC6, VC7, VC8, VC9, reduceIte, reduceCtorEq, Nat.reduceEqDiff, Nat.reduceAdd, Nat.reduceMul, Nat.reduceBEq, Nat.reduceLT, Nat.reduceLeDiff, Int.reduceEq, Int.reduceLT, Int.reduceLE, Int.reduceNeg, Int.reduceToNat, Int.reduceAdd, Nat.reduceDiv, Nat.reduceSub, Nat.reduceMod, encL, lk_len, lk_ld, lk_set, lk_app, lk_imv, lk_snap, lk_sok, lk_one, lk_ldall, lk_setall, lk_mk, List.length_set, List.length_append, List.length_singleton, List.length_replicate, fold_or32, fold_xor32, fold_and32, fold_shl32, fold_shr32, fold_add32, fold_not32, sc_one, rv2, rv3, Option.bind_some, Option.map_some, Option.some.injEq, exists_eq_left', List.getElem?_cons_zero, List.getElem?_cons_succ, ld_0, ld_1, ld_2, sc_0, sc_1, sc_2, List.take_succ_cons, List.take_zero, List.all_cons, List.all_nil, List.map_cons, List.map_nil, Bool.and_true, Bool.true_and, flt_snap, flt_sok, flt_imv, flt_one, flt_eq, set_hs, ld_hs, sumS_len, lk_ints, setK_nil, sumS_len, set_hs, ld_hs, lk_ints, setK_nil, lk_eq]
    refine callV_new (take1 _ _) ?_
    simp only [VC0, VC1, VC2, VC3, VC4, VC5, VC6, VC7, VC8, VC9, reduceIte, reduceCtorEq, Nat.reduceEqDiff, Nat.reduceAdd, Nat.reduceMul, Nat.reduceBEq, Nat.reduceLT, Nat.reduceLeDiff, Int.reduceEq, Int.reduceLT, Int.reduceLE, Int.reduceNeg, Int.reduceToNat, Int.reduceAdd, Nat.reduceDiv, Nat.reduceSub, Nat.reduceMod, encL, lk_len, lk_ld, lk_set, lk_app, lk_imv, lk_snap, lk_sok, lk_one, lk_ldall, lk_setall, lk_mk, List.length_set, List.length_append, List.length_singleton, List.length_replicate, fold_or32, fold_xor32, fold_and32, fold_shl32, fold_shr32, fold_add32, fold_not32, sc_one, rv2, rv3, Option.bind_some, Option.map_some, Option.some.injEq, exists_eq_left', List.getElem?_cons_zero, List.getElem?_cons_succ, ld_0, ld_1, ld_2, sc_0, sc_1, sc_2, List.take_succ_cons, List.take_zero, List.all_cons, List.all_nil, List.map_cons, List.map_nil, Bool.and_true, Bool.true_and, flt_snap, flt_sok, flt_imv, flt_one, flt_eq, set_hs, ld_hs, sumS_len, lk_ints, setK_nil, sumS_len, set_hs, ld_hs, lk_ints, setK_nil, lk_eq]
    refine callV_of (is_flt 11 0 11 0) (.inl rfl) ?_
    simp only [VC0, VC1, VC2, VC3, VC4, VC5, VC6, VC7, VC8, VC9, reduceIte, reduceCtorEq, Nat.reduceEqDiff, Nat.reduceAdd, Nat.reduceMul, Nat.reduceBEq, Nat.reduceLT, Nat.reduceLeDiff, Int.reduceEq, Int.reduceLT, Int.reduceLE, Int.reduceNeg, Int.reduceToNat, Int.reduceAdd, Nat.reduceDiv, Nat.reduceSub, Nat.reduceMod, encL, lk_len, lk_ld, lk_set, lk_app, lk_imv, lk_snap, lk_sok, lk_one, lk_ldall, lk_setall, lk_mk, List.length_set, List.length_append, List.length_singleton, List.length_replicate, fold_or32, fold_xor32, fold_and32, fold_shl32, fold_shr32, fold_add32, fold_not32, sc_one, rv2, rv3, Option.bind_some, Option.map_some, Option.some.injEq, exists_eq_left', List.getElem?_cons_zero, List.getElem?_cons_succ, ld_0, ld_1, ld_2, sc_0, sc_1, sc_2, List.take_succ_cons, List.take_zero, List.all_cons, List.all_nil, List.map_cons, List.map_nil, Bool.and_true, Bool.true_and, flt_snap, flt_sok, flt_imv, flt_one, flt_eq, set_hs, ld_hs, sumS_len, lk_ints, setK_nil, sumS_len, set_hs, ld_hs, lk_ints, setK_nil, lk_eq]
    refine callV_of (is_flt 2 0 2 0) (.inl rfl) ?_
    simp only [VC0, VC1, VC2, VC3, VC4, VC5, VC6, VC7, VC8, VC9, reduceIte, reduceCtorEq, Nat.reduceEqDiff, Nat.reduceAdd, Nat.reduceMul, Nat.reduceBEq, Nat.reduceLT, Nat.reduceLeDiff, Int.reduceEq, Int.reduceLT, Int.reduceLE, Int.reduceNeg, Int.reduceToNat, Int.reduceAdd, Nat.reduceDiv, Nat.reduceSub, Nat.reduceMod, encL, lk_len, lk_ld, lk_set, lk_app, lk_imv, lk_snap, lk_sok, lk_one, lk_ldall, lk_setall, lk_mk, List.length_set, List.length_append, List.length_singleton, List.length_replicate, fold_or32, fold_xor32, fold_and32, fold_shl32, fold_shr32, fold_add32, fold_not32, sc_one, rv2, rv3, Option.bind_some, Option.map_some, Option.some.injEq, exists_eq_left', List.getElem?_cons_zero, List.getElem?_cons_succ, ld_0, ld_1, ld_2, sc_0, sc_1, sc_2, List.take_succ_cons, List.take_zero, List.all_cons, List.all_nil, List.map_cons, List.map_nil, Bool.and_true, Bool.true_and, flt_snap, flt_sok, flt_imv, flt_one, flt_eq, set_hs, ld_hs, sumS_len, lk_ints, setK_nil, sumS_len, set_hs, ld_hs, lk_ints, setK_nil, lk_eq]
    refine callV_of (is_flt 2 0 2 0) (.inl rfl) ?_
    simp only [VC0, VC1, VC2, VC3, VC4, VC5, VC6, VC7, VC8, VC9, reduceIte, reduceCtorEq, Nat.reduceEqDiff, Nat.reduceAdd, Nat.reduceMul, Nat.reduceBEq, Nat.reduceLT, Nat.reduceLeDiff, Int.reduceEq, Int.reduceLT, Int.reduceLE, Int.reduceNeg, Int.reduceToNat, Int.reduceAdd, Nat.reduceDiv, Nat.reduceSub, Nat.reduceMod, encL, lk_len, lk_ld, lk_set, lk_app, lk_imv, lk_snap, lk_sok, lk_one, lk_ldall, lk_setall, lk_mk, List.length_set, List.length_append, List.length_singleton, List.length_replicate, fold_or32, fold_xor32, fold_and32, fold_shl32, fold_shr32, fold_add32, fold_not32, sc_one, rv2, rv3, Option.bind_some, Option.map_some, Option.some.injEq, exists_eq_left', List.getElem?_cons_zero, List.getElem?_cons_succ, ld_0, ld_1, ld_2, sc_0, sc_1, sc_2, List.take_succ_cons, List.take_zero, List.all_cons, List.all_nil, List.map_cons, List.map_nil, Bool.and_true, Bool.true_and, flt_snap, flt_sok, flt_imv, flt_one, flt_eq, set_hs, ld_hs, sumS_len, lk_ints, setK_nil, sumS_len, set_hs, ld_hs, lk_ints, setK_nil, lk_eq]
end Go.Proofs.Ythpffaofpcikiaa

set_option linter.unusedSimpArgs false
set_option linter.unusedVariables false
namespace Go.Lg
open Go Go.RowKit

theorem flatMap_at {α β : Type} {f : α → List β} {k : Nat} (k0 : 0 < k) (hk : ∀ x, (f x).length = k) : ∀ (l : List α) (j : Nat), (l.flatMap f)[j]? = (l[j / k]?).bind fun x => (f x)[j % k]?
  | [], j => by simp
  | x :: r, j => by
    rw [List.flatMap_cons, List.getElem?_append, hk x]
    by_cases h : j < k
    · rw [if_pos h, Nat.div_eq_of_lt h, Nat.mod_eq_of_lt h]; rfl
    · rw [if_neg h, flatMap_at k0 hk r (j - k)]
      obtain ⟨m, rfl⟩ : ∃ m, j = m + k := ⟨j - k, by omega⟩
      rw [Nat.add_sub_cancel, Nat.add_div_right _ k0, Nat.add_mod_right]; rfl
theorem flatMap_size {α β : Type} {f : α → List β} {k : Nat} (hk : ∀ x, (f x).length = k) : ∀ l : List α, (l.flatMap f).length = l.length * k
  | [] => by simp
  | x :: r => by rw [List.flatMap_cons, List.length_append, hk, flatMap_size hk r, List.length_cons, Nat.add_mul, Nat.one_mul, Nat.add_comm]

theorem grow_of_below {W w' : World} (h : BelowD W.heap.size W w') : ∃ q os', w' = Go.Sort.grow (W.drewN q) os' := by
  refine ⟨w'.drawn - W.drawn, w'.heap.extract W.heap.size w'.heap.size, ?_⟩
  have hh : w'.heap = W.heap ++ w'.heap.extract W.heap.size w'.heap.size := by
    apply Array.ext_getElem?
    intro j
    rw [Array.getElem?_append]
    by_cases hj : j < W.heap.size
    · rw [if_pos hj, h.block j hj]
    · rw [if_neg hj, Array.getElem?_extract]
      split
      · congr 1; omega
      · rw [Array.getElem?_eq_none (by omega)]
  have h1 := h.os; have h2 := h.tape; have h3 := h.output; have h4 := h.drawn
  cases w' with
  | mk hp tp dr o out =>
    simp only at h1 h2 h3 h4 hh
    subst h1 h2 h3
    unfold Go.Sort.grow World.drewN
    simp only [World.mk.injEq, true_and, and_true]
    exact ⟨hh, by omega⟩

section
variable {P : Program} {ρ : Go.Shelf.Ren} {α : Type}

/-- An element as it lies: its cells, and what they stand for. -/
structure SElt (imm : Nat → Prop) (w : World) (enc : α → List V) (k : Nat) where
  cs : List Value
  x : α
  len : cs.length = k
  one : ∀ v ∈ cs, v.oneCell' = true
  rep : ∀ (j : Nat) (v : Value) (c : V), cs[j]? = some v → (enc x)[j]? = some c → RepI imm w v c

set_option maxHeartbeats 4000000 in
theorem sortFunc_mut (L : Go.Proofs.SlLaysF0.n6 P ρ) {k : Nat} (k0 : 0 < k) (aE : ∀ w, (isAgg (ρ.t 24)).run P w = .ok true w) (zE : ∀ w, (Go.sizeOf (ρ.t 24)).run P w = .ok k w)
    (enc : α → List V) (hk : ∀ x, (enc x).length = k) (hone : ∀ x, ∀ v ∈ enc x, v.one = true) (cf : α → α → Int) (hO : Go.Sort.SWO (Go.Proofs.ltOf cf)) (g : FuncId) (cap : List V) (hen : entersOk P (ρ.f 6) = true) (hg : entersOk P g = true)
    (hcmp : ∀ x y, PRet P g (.agg (enc x) :: .agg (enc y) :: cap) (.int .i64 (cf x y))) (l l' : List α) (hl : l.length < 4611686018427387904)
    (hu : ∀ l2 : List α, l2.Perm l → l2.Pairwise (fun x y => Go.Proofs.ltOf cf y x = false) → l2 = l') :
    PMut P (ρ.f 6) [.fn g cap] k l.length (l.flatMap enc) none (l'.flatMap enc) := by
  refine ⟨hen, fun imm w vs A c blk himm hvs hrv hnc hA hblk hgl => ?_⟩
  obtain ⟨fv, rfl⟩ : ∃ v, vs = #[v] := Array.size_eq_one_iff.1 hvs
  have hf := hrv 0 fv _ rfl rfl
  by_cases h0 : l.length = 0
  · obtain rfl := List.eq_nil_of_length_eq_zero h0
    obtain rfl : [] = l' := hu [] (.refl _) .nil
    refine (Go.Proofs.AnyF.slices_SortFunc_none (P := P) (ρ := ρ) { L with } A c fv w).mono ?_
    rintro e w' ⟨rfl, rfl⟩
    refine ⟨_, rfl, fun m h => (by cases h), .refl _ _ _, ?_⟩
    cases blk with
    | none => rfl
    | some b => exact hblk.2.2
  cases blk with
  | none =>
    have h1 := congrArg List.length hblk.1
    rw [flatMap_size hk] at h1
    simp only [List.length_nil] at h1
    rcases Nat.mul_eq_zero.1 h1 with h | h
    · exact absurd h h0
    · omega
  | some b =>
    obtain ⟨h1, h2, us, T, fz, q1, q2, q3, q4, q5⟩ := hblk
    rw [hA b rfl (by omega)]
    rw [flatMap_size hk] at q3
    obtain ⟨cb, rfl, hcs, hcr⟩ : ∃ cb : Array Value, fv = .func (.func g) #[] cb ∧ cb.size = cap.length ∧ ∀ (j : Nat) (v : Value) (c : V), cb[j]? = some v → cap[j]? = some c → RepI imm w v c := by
      cases hf with
      | fn _ cb _ hs hj => exact ⟨cb, rfl, hs, hj⟩
    -- the elements
    have hx : ∀ i : Fin l.length, ∀ (j : Nat) (v : Value) (c : V), ((us.toList.drop (i * k)).take k)[j]? = some v → (enc l[i])[j]? = some c → RepI imm w v c := by
      intro i j v c hv hc
      have hj : j < k := by
        have := (List.getElem?_eq_some_iff.1 hc).1
        rwa [hk] at this
      rw [List.getElem?_take, if_pos hj, List.getElem?_drop, Array.getElem?_toList] at hv
      refine q5 (i * k + j) v c hv ?_
      rw [flatMap_at k0 hk, Nat.mul_comm i.1 k, Nat.mul_add_div k0, Nat.div_eq_of_lt hj, Nat.mul_add_mod, Nat.mod_eq_of_lt hj, Nat.add_zero, List.getElem?_eq_getElem i.2]
      exact hc
    have hln : ∀ i : Fin l.length, ((us.toList.drop (i * k)).take k).length = k := by
      intro i
      have : (i.1 + 1) * k ≤ l.length * k := Nat.mul_le_mul_right k i.2
      rw [Nat.add_mul, Nat.one_mul] at this
      rw [List.length_take, List.length_drop, Array.length_toList]; omega
    let mk : Fin l.length → SElt imm w enc k := fun i => ⟨(us.toList.drop (i * k)).take k, l[i], hln i, fun v hv => by
      obtain ⟨j, hj, rfl⟩ := List.getElem_of_mem hv
      have hj2 : j < (enc l[i]).length := by rw [hk]; rw [hln] at hj; exact hj
      exact (Rep.imm _ _ (hx i j _ _ (List.getElem?_eq_getElem hj) (List.getElem?_eq_getElem hj2)) : Rep ⟨imm, fun _ _ => none⟩ w _ _).oneV (hone _ _ (List.getElem_mem hj2)), hx i⟩
    haveI : Inhabited (SElt imm w enc k) := ⟨mk ⟨0, by omega⟩⟩
    let d : Array (SElt imm w enc k) := Array.ofFn mk
    have hds : d.size = l.length := Array.size_ofFn
    have hdl : d.toList.map SElt.x = l := by
      apply List.ext_getElem?
      intro j
      rw [List.getElem?_map, Array.getElem?_toList, Array.getElem?_ofFn]
      by_cases hj : j < l.length
      · rw [dif_pos hj, List.getElem?_eq_getElem hj]; rfl
      · rw [dif_neg hj, List.getElem?_eq_none (by omega)]; rfl
    have hwf : ∀ W : World, (∀ j, imm j → W.heap[j]? = w.heap[j]?) → ∀ v x, RepI imm w v x → RepI imm W v x := fun W hW v x h => h.mono (fun _ h => h) hW
    have hworld : ∀ (m : Nat) (dk : Array (SElt imm w enc k)) (os : Array Obj), (∀ j, j < w.heap.size → j ≠ b → (Go.Proofs.sortWorldK SElt.cs k w b 0 m dk os).heap[j]? = w.heap[j]?) ∧ w.heap.size ≤ (Go.Proofs.sortWorldK SElt.cs k w b 0 m dk os).heap.size := by
      intro m dk os
      refine ⟨fun j hj hb => ?_, ?_⟩
      · simp only [Go.Proofs.sortWorldK]
        rw [Go.Sort.heap_grow_old _ _ (by simpa [Go.Sort.putRowK, Go.Sort.putRow, Go.Sort.mapBlock, Go.Sort.ahead] using hj)]
        simp [Go.Sort.putRowK, Go.Sort.putRow, Go.Sort.mapBlock, Array.getElem?_modify, Ne.symm hb, Go.Sort.ahead]
      · simp [Go.Proofs.sortWorldK, Go.Sort.grow, Go.Sort.putRowK, Go.Sort.putRow, Go.Sort.mapBlock, Go.Sort.ahead]
    have hcl : Go.Proofs.CmpLays P g cb (SElt.cs (imm := imm) (w := w) (enc := enc) (k := k)) k (fun x y => cf x.x y.x) b 0 d.size w := by
      intro m os dk _ x y
      have hW := hworld m dk os
      have hi : ∀ j, imm j → (Go.Proofs.sortWorldK SElt.cs k w b 0 m dk os).heap[j]? = w.heap[j]? := fun j hj => hW.1 j (himm.1 j hj) (fun e => h1 (e ▸ hj))
      refine ((hcmp x.x y.x).2 imm _ (#[.agg x.cs.toArray, .agg y.cs.toArray] ++ cb) ⟨fun j hj => Nat.lt_of_lt_of_le (himm.1 j hj) hW.2, fun p hp => ⟨Nat.lt_of_lt_of_le (himm.2 p hp).1 hW.2, gsOk_heap (hW.1 _ (himm.2 p hp).1 (fun e => hgl p hp (by rw [e]))) (himm.2 p hp).2⟩⟩
        (by simp [hcs]; omega) (fun j u c hu hc => ?_)).mono ?_
      · have ag : ∀ z : SElt imm w enc k, RepI imm (Go.Proofs.sortWorldK SElt.cs k w b 0 m dk os) (.agg z.cs.toArray) (.agg (enc z.x)) := fun z =>
          .agg _ _ (by rw [List.size_toArray, z.len, hk]) fun j v c hv hc => hwf _ hi _ _ (z.rep j v c (by simpa using hv) hc)
        match j, hu, hc with
        | 0, hu, hc => simp [Array.getElem?_append] at hu hc; subst hu hc; exact ag x
        | 1, hu, hc => simp [Array.getElem?_append] at hu hc; subst hu hc; exact ag y
        | j + 2, hu, hc =>
          rw [Array.getElem?_append, if_neg (by simp)] at hu
          exact hwf _ hi _ _ (hcr j u c (by simpa using hu) (by simpa using hc))
      · rintro e w' ⟨v, imm', rfl, hr, hb, _, _⟩
        cases hr
        exact ⟨rfl, grow_of_below hb⟩
    have hSW : Go.Sort.SWO (Go.Proofs.ltOf fun x y : SElt imm w enc k => cf x.x y.x) :=
      ⟨fun x => hO.irrefl x.x, fun x y z => hO.trans x.x y.x z.x, fun x y z => hO.ntrans x.x y.x z.x⟩
    have hH : Go.Sort.HoldsK SElt.cs k w b 0 d := by
      intro j hj
      rw [Go.Sort.size_flatK, hds] at hj
      have hju : j < us.size := by omega
      have hjk : j / k < l.length := (Nat.div_lt_iff_lt_mul k0).2 hj
      have hm : j % k < k := Nat.mod_lt _ k0
      have hd1 : d[j / k]! = mk ⟨j / k, hjk⟩ := by
        rw [getElem!_pos d (j / k) (by omega)]
        exact Array.getElem_ofFn _
      rw [Nat.zero_add, Go.Sort.get_flatK _ _ _ _ (by rw [hds]; exact hj), hd1]
      refine ⟨?_, frozen_at q1 (q2.1 j hju)⟩
      rw [cell_at q1, Array.getElem?_eq_getElem hju]
      show some us[j] = some (((us.toList.drop (j / k * k)).take k)[j % k]!)
      rw [getElem!_pos _ (j % k) (by rw [hln ⟨j / k, hjk⟩]; exact hm), List.getElem_take, List.getElem_drop, Array.getElem_toList]
      congr 2
      rw [Nat.mul_comm, Nat.div_add_mod]
    rw [← hds]
    refine (Go.Proofs.AnyQ.slices_SortFunc L k aE zE SElt.cs (fun x => x.len) (fun x v hv => x.one v hv) (fun x y => cf x.x y.x) hSW g cb b 0 c d w (fun args w => callFunc_run hg) hcl hH h2 (by rw [hds]; exact hl)).mono ?_
    rintro e w' ⟨rfl, d', n, os, hp, hs, rfl⟩
    have hds' : d'.size = l.length := hp.1.trans hds
    have hl' : d'.toList.map SElt.x = l' := by
      refine hu _ ?_ ?_
      · rw [← hdl]
        have h3 := hp.2.2
        rw [Array.extract_eq_self_of_le (by rw [hp.1]; exact Nat.le_refl _), Array.extract_eq_self_of_le (Nat.le_refl _)] at h3
        exact h3.map _
      · rw [List.pairwise_iff_getElem]
        intro i j hi hj hij
        have hi' : i < d'.size := by simpa using hi
        have hj' : j < d'.size := by simpa using hj
        have := hs i j (Nat.zero_le _) hij (by rw [hds]; rwa [hds'] at hj')
        rw [getElem!_pos d' i hi', getElem!_pos d' j hj'] at this
        have h9 : Go.Proofs.ltOf cf (d'[j]'hj').x (d'[i]'hi').x = false := this
        simpa using h9
    have hW := hworld n d' os
    have hi : ∀ j, imm j → (Go.Proofs.sortWorldK SElt.cs k w b 0 n d' os).heap[j]? = w.heap[j]? := fun j hj => hW.1 j (himm.1 j hj) (fun e => h1 (e ▸ hj))
    have hll : l'.length = l.length := by rw [← hl', List.length_map, Array.length_toList, hds']
    refine ⟨_, rfl, fun m h => (by cases h), ⟨rfl, rfl, rfl, hW.2, fun j hj hne => hW.1 j hj (fun e => hne (by rw [e])), Nat.le_add_right _ _⟩, Go.Sort.putCells id 0 (Go.Sort.flatK SElt.cs k d') us, T, fz, ?_, ?_, ?_, ?_, ?_⟩
    · simp only [Go.Proofs.sortWorldK]
      rw [Go.Sort.heap_grow_old _ _ (by simpa [Go.Sort.putRowK, Go.Sort.putRow, Go.Sort.mapBlock, Go.Sort.ahead] using h2)]
      simp [Go.Sort.putRowK, Go.Sort.putRow, Go.Sort.mapBlock, Array.getElem?_modify, Go.Sort.ahead, q1, Go.Sort.onCells]
    · rw [show (Go.Sort.putCells id 0 (Go.Sort.flatK SElt.cs k d') us).size = us.size by simp [Go.Sort.putCells]]; exact q2
    · rw [show (Go.Sort.putCells id 0 (Go.Sort.flatK SElt.cs k d') us).size = us.size by simp [Go.Sort.putCells], flatMap_size hk, hll]; exact q3
    · rw [show (Go.Sort.putCells id 0 (Go.Sort.flatK SElt.cs k d') us).size = us.size by simp [Go.Sort.putCells]]; exact q4
    · intro j u x hu hx
      have hj : j < l.length * k := by
        have := (List.getElem?_eq_some_iff.1 hx).1
        rwa [flatMap_size hk, hll] at this
      have hjk : j / k < l.length := (Nat.div_lt_iff_lt_mul k0).2 hj
      have hm : j % k < k := Nat.mod_lt _ k0
      simp only [Go.Sort.putCells, Array.getElem?_mapIdx, Option.map_eq_some_iff] at hu
      obtain ⟨v, hv, rfl⟩ := hu
      rw [if_pos ⟨Nat.zero_le _, by rw [Go.Sort.size_flatK, hds', Nat.zero_add]; exact hj⟩, Nat.sub_zero, Go.Sort.get_flatK _ _ _ _ (by rw [hds']; exact hj), getElem!_pos d' (j / k) (by rw [hds']; exact hjk)]
      rw [flatMap_at k0 hk, ← hl', List.getElem?_map, Array.getElem?_toList, Array.getElem?_eq_getElem (by rw [hds']; exact hjk)] at hx
      generalize d'[j / k]'(by rw [hds']; exact hjk) = z at hx ⊢
      refine hwf _ hi _ _ (z.rep (j % k) _ x ?_ (by simpa using hx))
      rw [id, getElem!_pos _ (j % k) (by rw [z.len]; exact hm)]
      exact List.getElem?_eq_getElem _
end
end Go.Lg

namespace Go.Proofs
open Go.Shelf
def Try.sortH_ren : Go.Shelf.Ren := ⟨fun | 6 => 31 | 15 => 38 | 14 => 37 | 28 => 50 | 29 => 51 | 20 => 42 | 21 => 43 | 22 => 44 | 23 => 45 | 24 => 46 | 25 => 47 | 26 => 48 | 27 => 49 | 46 => 53 | 47 => 54 | 48 => 55 | 49 => 56 | 50 => 57 | 57 => 58 | n => n, fun | 22 => 47 | 24 => 29 | 25 => 80 | 3 => 3 | 39 => 68 | 0 => 0 | 53 => 69 | 55 => 67 | 4 => 4 | 46 => 93 | 45 => 92 | 50 => 81 | 5 => 5 | 9 => 9 | 66 => 100 | 70 => 104 | 76 => 106 | 77 => 75 | n => n, fun | n => n⟩
theorem Try.sortH : Go.Proofs.SlLaysF0.n6 Try.prog Try.sortH_ren := {
  mixed := by kernel_rfl
  f6 := ⟨Try.f31.name, by decide, Try.func31.trans (congrArg some (by kernel_rfl))⟩
  f14 := ⟨Try.f37.name, by decide, Try.func37.trans (congrArg some (by kernel_rfl))⟩
  f15 := Try.func38.trans (congrArg some (by kernel_rfl))
  f20 := ⟨Try.f42.name, by decide, Try.func42.trans (congrArg some (by kernel_rfl))⟩
  f21 := ⟨Try.f43.name, by decide, Try.func43.trans (congrArg some (by kernel_rfl))⟩
  f22 := ⟨Try.f44.name, by decide, Try.func44.trans (congrArg some (by kernel_rfl))⟩
  f23 := ⟨Try.f45.name, by decide, Try.func45.trans (congrArg some (by kernel_rfl))⟩
  f24 := ⟨Try.f46.name, by decide, Try.func46.trans (congrArg some (by kernel_rfl))⟩
  f25 := ⟨Try.f47.name, by decide, Try.func47.trans (congrArg some (by kernel_rfl))⟩
  f26 := ⟨Try.f48.name, by decide, Try.func48.trans (congrArg some (by kernel_rfl))⟩
  f27 := ⟨Try.f49.name, by decide, Try.func49.trans (congrArg some (by kernel_rfl))⟩
  f28 := Try.func50.trans (congrArg some (by kernel_rfl))
  f29 := Try.func51.trans (congrArg some (by kernel_rfl))
  f46 := ⟨Try.f53.name, by decide, Try.func53.trans (congrArg some (by kernel_rfl))⟩
  f47 := Try.func54.trans (congrArg some (by kernel_rfl))
  f48 := Try.func55.trans (congrArg some (by kernel_rfl))
  f49 := ⟨Try.f56.name, by decide, Try.func56.trans (congrArg some (by kernel_rfl))⟩
  f50 := ⟨Try.f57.name, by decide, Try.func57.trans (congrArg some (by kernel_rfl))⟩
  f57 := ⟨Try.f58.name, by decide, Try.func58.trans (congrArg some (by kernel_rfl))⟩
  t0 := Try.underlying0
  a0 := Try.isAgg0
  z0 := Try.sizeOf0
  v0 := Try.zeroValue0
  t3 := Try.underlying3
  a3 := Try.isAgg3
  z3 := Try.sizeOf3
  v3 := Try.zeroValue3
  t4 := Try.underlying4
  a4 := Try.isAgg4
  z4 := Try.sizeOf4
  v4 := Try.zeroValue4
  t5 := Try.underlying5
  a5 := Try.isAgg5
  z5 := Try.sizeOf5
  v5 := Try.zeroValue5
  t9 := Try.underlying9
  a9 := Try.isAgg9
  z9 := Try.sizeOf9
  v9 := Try.zeroValue9
  t22 := Try.underlying47
  a22 := Try.isAgg47
  z22 := Try.sizeOf47
  v22 := Try.zeroValue47
  t25 := Try.underlying80
  a25 := Try.isAgg80
  z25 := Try.sizeOf80
  v25 := Try.zeroValue80
  t39 := Try.underlying68
  a39 := Try.isAgg68
  z39 := Try.sizeOf68
  v39 := Try.zeroValue68
  t45 := Try.underlying92
  a45 := Try.isAgg92
  z45 := Try.sizeOf92
  v45 := Try.zeroValue92
  t46 := Try.underlying93
  a46 := Try.isAgg93
  z46 := Try.sizeOf93
  v46 := Try.zeroValue93
  t50 := Try.underlying81
  a50 := Try.isAgg81
  z50 := Try.sizeOf81
  v50 := Try.zeroValue81
  t53 := Try.underlying69
  a53 := Try.isAgg69
  z53 := Try.sizeOf69
  v53 := Try.zeroValue69
  t55 := Try.underlying67
  a55 := Try.isAgg67
  z55 := Try.sizeOf67
  v55 := Try.zeroValue67
  t66 := Try.underlying100
  a66 := Try.isAgg100
  z66 := Try.sizeOf100
  v66 := Try.zeroValue100
  t70 := Try.underlying104
  a70 := Try.isAgg104
  z70 := Try.sizeOf104
  v70 := Try.zeroValue104
  t76 := Try.underlying106
  a76 := Try.isAgg106
  z76 := Try.sizeOf106
  v76 := Try.zeroValue106
  t77 := Try.underlying75
  a77 := Try.isAgg75
  z77 := Try.sizeOf75
  v77 := Try.zeroValue75 }
end Go.Proofs

namespace Go.Proofs.Ythpffaofpcikiaa
open Go Go.Lg
set_option maxRecDepth 100000

def lc18 : LC := .seq (.rego 0 [⟨some 2, .mov (.con .e0), none⟩]) (.seq (.seq (.rego 1 [⟨some 5, .mov (.tmp 0), none⟩, ⟨some 6, .eqp false (.tmp 5) (.con .nilp), none⟩]) (.cond (.tmp 6) (.seq (.rego 2 [⟨some 2, .mov (.con .e0), none⟩]) .ret) .skip)) (.seq (.rego 3 [⟨some 3, .mov (.con .e0), none⟩]) (.seq (.seq (.regc 4 [(0, ⟨some 7, .mov (.tmp 0), none⟩), (0, ⟨some 8, .nilchk (.tmp 7), none⟩), (0, ⟨some 9, .fad 1 (.tmp 8), none⟩), (0, ⟨some 10, .load false 1 (.tmp 9), none⟩), (2, ⟨some 11, .rng (.tmp 10), none⟩)]) (.block 0 (.loop (.seq (.regc 5 [(2, ⟨some 12, .nxt (.tmp 11), none⟩), (0, ⟨some 13, .ext (.tmp 12) 0, none⟩)]) (.seq (.cond (.tmp 13) .skip (.exit 0)) (.block 1 (.seq (.regc 6 [(2, ⟨some 14, .ent (.tmp 11), none⟩), (0, ⟨some 15, .ext (.tmp 14) 0, none⟩), (0, ⟨some 4, .new [.int .u8 0, .int .u8 0, .int .u8 0, .int .u8 0, .int .u8 0, .int .u8 0, .int .u8 0, .int .u8 0, .int .u8 0, .int .u8 0, .int .u8 0, .int .u8 0, .int .u8 0, .int .u8 0, .int .u8 0, .int .u8 0, .int .u8 0, .int .u8 0, .int .u8 0, .int .u8 0, .int .u8 0, .int .u8 0, .int .u8 0, .int .u8 0, .int .u8 0, .int .u8 0, .int .u8 0, .int .u8 0, .int .u8 0, .int .u8 0, .int .u8 0, .int .u8 0], none⟩), (0, ⟨none, .store 32 (.tmp 4) (.tmp 15), none⟩)]) (.rego 7 [⟨some 16, .mov (.tmp 3), none⟩, ⟨some 17, .load true 32 (.tmp 4), none⟩, ⟨some 18, .bsl 1 [.int .u8 0, .int .u8 0, .int .u8 0, .int .u8 0, .int .u8 0, .int .u8 0, .int .u8 0, .int .u8 0, .int .u8 0, .int .u8 0, .int .u8 0, .int .u8 0, .int .u8 0, .int .u8 0, .int .u8 0, .int .u8 0, .int .u8 0, .int .u8 0, .int .u8 0, .int .u8 0, .int .u8 0, .int .u8 0, .int .u8 0, .int .u8 0, .int .u8 0, .int .u8 0, .int .u8 0, .int .u8 0, .int .u8 0, .int .u8 0, .int .u8 0, .int .u8 0] [⟨0, 32, .tmp 17⟩], none⟩, ⟨some 19, .app 32 32 (.tmp 16) (.tmp 18), none⟩, ⟨some 3, .mov (.tmp 19), none⟩])))))))) (.seq (.rego 8 [⟨some 20, .mov (.tmp 3), none⟩, ⟨some 21, .call 31 [.tmp 20, .con (.fn 32 [])], none⟩]) (.seq (.rego 9 [⟨some 22, .mov (.tmp 3), none⟩, ⟨some 2, .mov (.tmp 22), none⟩]) .ret)))))
theorem fd18 : fnData Try.prog 18 = some (23, lc18.erase, [LRV.tmp 2]) := by kernel_rfl

def lc32 : LC := .seq (.rego 0 [⟨some 2, .box (.tmp 0), none⟩, ⟨some 3, .box (.tmp 1), none⟩, ⟨some 4, .mov (.con (.int .i64 0)), none⟩]) (.keep [2, 3] (.seq (.regf 1 [0, 0, 3, 7] [⟨some 5, .slA 32 1 (.tmp 2) none none, none⟩, ⟨some 6, .slA 32 1 (.tmp 3) none none, none⟩, ⟨some 7, .call 33 [.tmp 5, .tmp 6], none⟩, ⟨some 4, .mov (.tmp 7), none⟩]) .ret))
theorem fd32 : fnData Try.prog 32 = some (8, lc32.erase, [LRV.tmp 4]) := by kernel_rfl

def lc19 : LC := .seq (.rego 0 [⟨some 2, .box (.tmp 0), none⟩, ⟨some 3, .box (.tmp 1), none⟩, ⟨some 4, .mov (.con (.bool false)), none⟩]) (.keep [2, 3] (.seq (.seq (.rego 1 [⟨some 5, .mov (.con (.int .i64 0)), none⟩]) (.keep [2, 3, 5] (.block 0 (.loop (.seq (.seq (.rego 2 [⟨some 6, .mov (.tmp 5), none⟩, ⟨some 7, .bin .lss (.tmp 6) (.con (.int .i64 32)), none⟩]) (.keep [2, 3, 5, 7] (.cond (.tmp 7) .skip (.exit 0)))) (.keep [2, 3, 5] (.seq (.block 1 (.seq (.reg 4 [⟨some 10, .mov (.tmp 5), none⟩, ⟨some 11, .iaA 32 1 (.tmp 2) (.tmp 10), none⟩, ⟨some 12, .load false 1 (.tmp 11), none⟩, ⟨some 13, .mov (.tmp 5), none⟩, ⟨some 14, .iaA 32 1 (.tmp 3) (.tmp 13), none⟩, ⟨some 15, .load false 1 (.tmp 14), none⟩, ⟨some 16, .bin .neq (.tmp 12) (.tmp 15), none⟩]) (.keep [2, 3, 5, 16] (.cond (.tmp 16) (.keep [2, 3, 5] (.seq (.reg 5 [⟨some 17, .mov (.tmp 5), none⟩, ⟨some 18, .iaA 32 1 (.tmp 2) (.tmp 17), none⟩, ⟨some 19, .load false 1 (.tmp 18), none⟩, ⟨some 20, .mov (.tmp 5), none⟩, ⟨some 21, .iaA 32 1 (.tmp 3) (.tmp 20), none⟩, ⟨some 22, .load false 1 (.tmp 21), none⟩, ⟨some 23, .bin .lss (.tmp 19) (.tmp 22), none⟩, ⟨some 4, .mov (.tmp 23), none⟩]) .ret)) .skip)))) (.keep [2, 3, 5] (.rego 3 [⟨some 8, .mov (.tmp 5), none⟩, ⟨some 9, .bin .add (.tmp 8) (.con (.int .i64 1)), none⟩, ⟨some 5, .mov (.tmp 9), none⟩]))))))))) (.keep [] (.seq (.rego 6 [⟨some 4, .mov (.con (.bool false)), none⟩]) .ret))))
theorem fd19 : fnData Try.prog 19 = some (24, lc19.erase, [LRV.tmp 4]) := by kernel_rfl

def lc6 : LC := .seq (.rego 0 [⟨some 2, .mov (.con (.bool false)), none⟩]) (.keep [0] (.join (.seq (.rego 1 [⟨some 20, .mov (.tmp 0), none⟩, ⟨some 21, .len false (.tmp 20), none⟩, ⟨some 22, .bin .gtr (.tmp 21) (.con (.int .i64 16)), none⟩]) (.keep [0, 22] (.cond (.tmp 22) (.keep [0] (.rego 2 [⟨some 23, .mov (.tmp 0), none⟩, ⟨some 24, .slV 1 (.tmp 23) none (some (.con (.int .i64 16))), none⟩, ⟨some 0, .mov (.tmp 24), none⟩])) .skip))) (.keep [0] (.seq (.seq (.rego 3 [⟨some 3, .mov (.con (.int .i64 0)), none⟩]) (.keep [0, 3] (.block 0 (.loop (.seq (.seq (.rego 4 [⟨some 25, .mov (.tmp 3), none⟩, ⟨some 26, .mov (.tmp 0), none⟩, ⟨some 27, .len false (.tmp 26), none⟩, ⟨some 28, .bin .lss (.tmp 25) (.tmp 27), none⟩]) (.keep [0, 3, 28] (.cond (.tmp 28) .skip (.exit 0)))) (.keep [0, 3] (.seq (.block 1 (.seq (.seq (.rego 6 [⟨some 31, .mov (.tmp 0), none⟩, ⟨some 32, .mov (.tmp 3), none⟩, ⟨some 33, .iaS 1 (.tmp 31) (.tmp 32), none⟩, ⟨some 34, .load false 1 (.tmp 33), none⟩, ⟨some 35, .len false (.tmp 34), none⟩, ⟨some 36, .bin .gtr (.tmp 35) (.con (.int .i64 200)), none⟩]) (.keep [0, 3, 36] (.cond (.tmp 36) (.keep [] (.seq (.rego 7 [⟨some 37, .call 10 [], none⟩, ⟨some 2, .mov (.tmp 37), none⟩]) .ret)) .skip))) (.keep [0, 3] (.seq (.rego 8 [⟨some 4, .mov (.con (.int .i64 0)), none⟩]) (.keep [0, 3, 4] (.block 2 (.loop (.seq (.seq (.rego 9 [⟨some 38, .mov (.tmp 4), none⟩, ⟨some 39, .mov (.tmp 3), none⟩, ⟨some 40, .bin .lss (.tmp 38) (.tmp 39), none⟩]) (.keep [0, 3, 4, 40] (.cond (.tmp 40) .skip (.exit 2)))) (.keep [0, 3, 4] (.seq (.block 3 (.seq (.regf 11 [0, 0, 3, 7, 15, 0, 0, 96, 224, 480, 1023, 2047, 4095, 4095, 16383, 32767, 65535, 4095, 4095, 397311, 921599, 2097151, 4194303, 8388607] [⟨some 43, .mov (.tmp 0), none⟩, ⟨some 44, .mov (.tmp 3), none⟩, ⟨some 45, .iaS 1 (.tmp 43) (.tmp 44), none⟩, ⟨some 46, .load false 1 (.tmp 45), none⟩, ⟨some 47, .b2s (.tmp 46), none⟩, ⟨some 48, .mov (.tmp 0), none⟩, ⟨some 49, .mov (.tmp 4), none⟩, ⟨some 50, .iaS 1 (.tmp 48) (.tmp 49), none⟩, ⟨some 51, .load false 1 (.tmp 50), none⟩, ⟨some 52, .b2s (.tmp 51), none⟩, ⟨some 53, .bin .neq (.tmp 47) (.tmp 52), none⟩, ⟨some 54, .mov (.tmp 53), none⟩, ⟨some 55, .mov (.tmp 0), some ⟨54, true⟩⟩, ⟨some 56, .mov (.tmp 3), some ⟨54, true⟩⟩, ⟨some 57, .iaS 1 (.tmp 55) (.tmp 56), some ⟨54, true⟩⟩, ⟨some 58, .load false 1 (.tmp 57), some ⟨54, true⟩⟩, ⟨some 59, .call 9 [.tmp 58], some ⟨54, true⟩⟩, ⟨some 60, .mov (.tmp 0), some ⟨54, true⟩⟩, ⟨some 61, .mov (.tmp 4), some ⟨54, true⟩⟩, ⟨some 62, .iaS 1 (.tmp 60) (.tmp 61), some ⟨54, true⟩⟩, ⟨some 63, .load false 1 (.tmp 62), some ⟨54, true⟩⟩, ⟨some 64, .call 9 [.tmp 63], some ⟨54, true⟩⟩, ⟨some 65, .eqa 32 .u8 false (.tmp 59) (.tmp 64), some ⟨54, true⟩⟩, ⟨some 66, .pick (.tmp 54) (.tmp 65) (.con (.bool false)), none⟩]) (.keep [0, 3, 4, 66] (.cond (.tmp 66) (.keep [] (.seq (.rego 12 [⟨some 67, .call 10 [], none⟩, ⟨some 2, .mov (.tmp 67), none⟩]) .ret)) .skip)))) (.keep [0, 3, 4] (.rego 10 [⟨some 41, .mov (.tmp 4), none⟩, ⟨some 42, .bin .add (.tmp 41) (.con (.int .i64 1)), none⟩, ⟨some 4, .mov (.tmp 42), none⟩])))))))))))) (.keep [0, 3] (.rego 5 [⟨some 29, .mov (.tmp 3), none⟩, ⟨some 30, .bin .add (.tmp 29) (.con (.int .i64 1)), none⟩, ⟨some 3, .mov (.tmp 30), none⟩]))))))))) (.keep [0] (.seq (.rego 13 [⟨some 69, .call 8 [.con (.int .i64 16)], none⟩, ⟨some 68, .mov (.tmp 69), none⟩, ⟨some 70, .ext (.tmp 68) 0, none⟩, ⟨some 71, .ext (.tmp 68) 1, none⟩, ⟨some 5, .mov (.tmp 70), none⟩, ⟨some 6, .mov (.tmp 71), none⟩]) (.keep [0, 5, 6] (.seq (.rego 14 [⟨some 73, .call 8 [.con (.int .i64 16)], none⟩, ⟨some 72, .mov (.tmp 73), none⟩, ⟨some 74, .ext (.tmp 72) 0, none⟩, ⟨some 75, .ext (.tmp 72) 1, none⟩, ⟨some 7, .mov (.tmp 74), none⟩, ⟨some 8, .mov (.tmp 75), none⟩]) (.keep [0, 5, 6, 7, 8] (.seq (.seq (.rego 15 [⟨some 76, .mov (.tmp 6), none⟩, ⟨some 77, .eqi true true (.tmp 76) (.con .nili), none⟩, ⟨some 78, .mov (.tmp 77), none⟩, ⟨some 79, .mov (.tmp 8), some ⟨78, false⟩⟩, ⟨some 80, .eqi true true (.tmp 79) (.con .nili), some ⟨78, false⟩⟩, ⟨some 81, .pick (.tmp 78) (.con (.bool true)) (.tmp 80), none⟩, ⟨some 82, .mov (.tmp 81), none⟩, ⟨some 83, .mov (.tmp 5), some ⟨82, false⟩⟩, ⟨some 84, .eqp false (.tmp 83) (.con .nilp), some ⟨82, false⟩⟩, ⟨some 85, .pick (.tmp 82) (.con (.bool true)) (.tmp 84), none⟩, ⟨some 86, .mov (.tmp 85), none⟩, ⟨some 87, .mov (.tmp 7), some ⟨86, false⟩⟩, ⟨some 88, .eqp false (.tmp 87) (.con .nilp), some ⟨86, false⟩⟩, ⟨some 89, .pick (.tmp 86) (.con (.bool true)) (.tmp 88), none⟩]) (.keep [0, 5, 7, 89] (.cond (.tmp 89) (.keep [] (.seq (.rego 16 [⟨some 2, .mov (.con (.bool false)), none⟩]) .ret)) .skip))) (.keep [0, 5, 7] (.seq (.seq (.rego 17 [⟨some 9, .mov (.con (.int .i64 0)), none⟩]) (.keep [0, 5, 7, 9] (.block 4 (.loop (.seq (.seq (.rego 18 [⟨some 90, .mov (.tmp 9), none⟩, ⟨some 91, .mov (.tmp 0), none⟩, ⟨some 92, .len false (.tmp 91), none⟩, ⟨some 93, .bin .lss (.tmp 90) (.tmp 92), none⟩]) (.keep [0, 5, 7, 9, 93] (.cond (.tmp 93) .skip (.exit 4)))) (.keep [0, 5, 7, 9] (.seq (.block 5 (.seq (.join (.rego 20 [⟨some 97, .mov (.tmp 5), none⟩, ⟨some 98, .mov (.tmp 0), none⟩, ⟨some 99, .mov (.tmp 9), none⟩, ⟨some 100, .iaS 1 (.tmp 98) (.tmp 99), none⟩, ⟨some 101, .load false 1 (.tmp 100), none⟩, ⟨some 102, .call 11 [.tmp 97, .tmp 101], none⟩, ⟨some 96, .mov (.tmp 102), none⟩, ⟨some 103, .ext (.tmp 96) 0, none⟩, ⟨some 104, .ext (.tmp 96) 1, none⟩, ⟨some 10, .new [.int .u8 0, .int .u8 0, .int .u8 0, .int .u8 0, .int .u8 0, .int .u8 0, .int .u8 0, .int .u8 0, .int .u8 0, .int .u8 0, .int .u8 0, .int .u8 0, .int .u8 0, .int .u8 0, .int .u8 0, .int .u8 0, .int .u8 0, .int .u8 0, .int .u8 0, .int .u8 0, .int .u8 0, .int .u8 0, .int .u8 0, .int .u8 0, .int .u8 0, .int .u8 0, .int .u8 0, .int .u8 0, .int .u8 0, .int .u8 0, .int .u8 0, .int .u8 0], none⟩, ⟨none, .store 32 (.tmp 10) (.tmp 103), none⟩, ⟨some 11, .mov (.tmp 104), none⟩]) (.keep [0, 5, 7, 9, 11] (.seq (.rego 21 [⟨some 105, .mov (.tmp 11), none⟩, ⟨some 106, .eqi true true (.tmp 105) (.con .nili), none⟩]) (.keep [0, 5, 7, 9, 106] (.cond (.tmp 106) (.keep [] (.seq (.rego 22 [⟨some 2, .mov (.con (.bool false)), none⟩]) .ret)) .skip))))) (.keep [0, 5, 7, 9] (.seq (.rego 23 [⟨some 107, .mov (.tmp 0), none⟩, ⟨some 108, .mov (.tmp 0), none⟩, ⟨some 109, .len false (.tmp 108), none⟩, ⟨some 110, .bin .sub (.tmp 109) (.con (.int .i64 1)), none⟩, ⟨some 111, .mov (.tmp 9), none⟩, ⟨some 112, .bin .sub (.tmp 110) (.tmp 111), none⟩, ⟨some 113, .iaS 1 (.tmp 107) (.tmp 112), none⟩, ⟨some 114, .load false 1 (.tmp 113), none⟩, ⟨some 12, .mov (.tmp 114), none⟩]) (.keep [0, 5, 7, 9, 12] (.seq (.rego 24 [⟨some 115, .mov (.tmp 7), none⟩, ⟨some 116, .mov (.tmp 12), none⟩, ⟨some 117, .call 9 [.tmp 116], none⟩, ⟨some 118, .mov (.tmp 12), none⟩, ⟨some 119, .call 17 [.tmp 115, .tmp 117, .tmp 118], none⟩, ⟨some 120, .eqi true true (.tmp 119) (.con .nili), none⟩]) (.keep [0, 5, 7, 9, 120] (.cond (.tmp 120) (.keep [] (.seq (.rego 25 [⟨some 2, .mov (.con (.bool false)), none⟩]) .ret)) .skip)))))))) (.keep [0, 5, 7, 9] (.rego 19 [⟨some 94, .mov (.tmp 9), none⟩, ⟨some 95, .bin .add (.tmp 94) (.con (.int .i64 1)), none⟩, ⟨some 9, .mov (.tmp 95), none⟩]))))))))) (.keep [5, 7] (.seq (.rego 26 [⟨some 121, .mov (.tmp 5), none⟩, ⟨some 122, .call 18 [.tmp 121], none⟩, ⟨some 123, .mov (.tmp 7), none⟩, ⟨some 124, .call 18 [.tmp 123], none⟩, ⟨some 13, .mov (.tmp 122), none⟩, ⟨some 14, .mov (.tmp 124), none⟩]) (.keep [5, 7, 13, 14] (.seq (.seq (.rego 27 [⟨some 125, .mov (.tmp 13), none⟩, ⟨some 126, .len false (.tmp 125), none⟩, ⟨some 127, .mov (.tmp 14), none⟩, ⟨some 128, .len false (.tmp 127), none⟩, ⟨some 129, .bin .neq (.tmp 126) (.tmp 128), none⟩, ⟨some 130, .mov (.tmp 129), none⟩, ⟨some 131, .mov (.tmp 5), some ⟨130, false⟩⟩, ⟨some 132, .call 14 [.tmp 131], some ⟨130, false⟩⟩, ⟨some 133, .mov (.tmp 7), some ⟨130, false⟩⟩, ⟨some 134, .call 14 [.tmp 133], some ⟨130, false⟩⟩, ⟨some 135, .bin .neq (.tmp 132) (.tmp 134), some ⟨130, false⟩⟩, ⟨some 136, .pick (.tmp 130) (.con (.bool true)) (.tmp 135), none⟩]) (.keep [5, 7, 13, 14, 136] (.cond (.tmp 136) (.keep [] (.seq (.rego 28 [⟨some 2, .mov (.con (.bool false)), none⟩]) .ret)) .skip))) (.keep [5, 7, 13, 14] (.seq (.seq (.rego 29 [⟨some 15, .mov (.con (.int .i64 0)), none⟩]) (.keep [5, 7, 13, 14, 15] (.block 6 (.loop (.seq (.seq (.rego 30 [⟨some 137, .mov (.tmp 15), none⟩, ⟨some 138, .mov (.tmp 13), none⟩, ⟨some 139, .len false (.tmp 138), none⟩, ⟨some 140, .bin .lss (.tmp 137) (.tmp 139), none⟩]) (.keep [5, 7, 13, 14, 15, 140] (.cond (.tmp 140) .skip (.exit 6)))) (.keep [5, 7, 13, 14, 15] (.seq (.block 7 (.seq (.rego 32 [⟨some 144, .mov (.tmp 5), none⟩, ⟨some 145, .mov (.tmp 13), none⟩, ⟨some 146, .mov (.tmp 15), none⟩, ⟨some 147, .iaS 32 (.tmp 145) (.tmp 146), none⟩, ⟨some 148, .load true 32 (.tmp 147), none⟩, ⟨some 149, .call 16 [.tmp 144, .tmp 148], none⟩, ⟨some 143, .mov (.tmp 149), none⟩, ⟨some 150, .ext (.tmp 143) 0, none⟩, ⟨some 151, .ext (.tmp 143) 1, none⟩, ⟨some 16, .mov (.tmp 150), none⟩, ⟨some 17, .mov (.tmp 151), none⟩]) (.keep [5, 7, 13, 14, 15, 16, 17] (.seq (.rego 33 [⟨some 153, .mov (.tmp 7), none⟩, ⟨some 154, .mov (.tmp 13), none⟩, ⟨some 155, .mov (.tmp 15), none⟩, ⟨some 156, .iaS 32 (.tmp 154) (.tmp 155), none⟩, ⟨some 157, .load true 32 (.tmp 156), none⟩, ⟨some 158, .call 16 [.tmp 153, .tmp 157], none⟩, ⟨some 152, .mov (.tmp 158), none⟩, ⟨some 159, .ext (.tmp 152) 0, none⟩, ⟨some 160, .ext (.tmp 152) 1, none⟩, ⟨some 18, .mov (.tmp 159), none⟩, ⟨some 19, .mov (.tmp 160), none⟩]) (.keep [5, 7, 13, 14, 15, 16, 17, 18, 19] (.seq (.regf 34 [0, 0, 3, 7, 0, 0, 48, 112, 255, 511, 1023, 2047, 4095, 8191, 16383, 32767, 65535, 131071, 262143, 524287, 262143, 1310719, 4194303, 8388607, 16777215, 33554431, 67108863, 134217727, 268435455, 268435455, 805306367, 2147483647, 4294967295, 268435455, 268435455, 26038239231, 60397977599, 137438953471, 274877906943, 549755813887, 1099511627775] [⟨some 161, .mov (.tmp 13), none⟩, ⟨some 162, .mov (.tmp 15), none⟩, ⟨some 163, .iaS 32 (.tmp 161) (.tmp 162), none⟩, ⟨some 164, .load true 32 (.tmp 163), none⟩, ⟨some 165, .mov (.tmp 14), none⟩, ⟨some 166, .mov (.tmp 15), none⟩, ⟨some 167, .iaS 32 (.tmp 165) (.tmp 166), none⟩, ⟨some 168, .load true 32 (.tmp 167), none⟩, ⟨some 169, .eqa 32 .u8 true (.tmp 164) (.tmp 168), none⟩, ⟨some 170, .mov (.tmp 169), none⟩, ⟨some 171, .mov (.tmp 17), some ⟨170, false⟩⟩, ⟨some 172, .eqi true true (.tmp 171) (.con .nili), some ⟨170, false⟩⟩, ⟨some 173, .pick (.tmp 170) (.con (.bool true)) (.tmp 172), none⟩, ⟨some 174, .mov (.tmp 173), none⟩, ⟨some 175, .mov (.tmp 19), some ⟨174, false⟩⟩, ⟨some 176, .eqi true true (.tmp 175) (.con .nili), some ⟨174, false⟩⟩, ⟨some 177, .pick (.tmp 174) (.con (.bool true)) (.tmp 176), none⟩, ⟨some 178, .mov (.tmp 177), none⟩, ⟨some 179, .mov (.tmp 16), some ⟨178, false⟩⟩, ⟨some 180, .b2s (.tmp 179), some ⟨178, false⟩⟩, ⟨some 181, .mov (.tmp 18), some ⟨178, false⟩⟩, ⟨some 182, .b2s (.tmp 181), some ⟨178, false⟩⟩, ⟨some 183, .bin .neq (.tmp 180) (.tmp 182), some ⟨178, false⟩⟩, ⟨some 184, .pick (.tmp 178) (.con (.bool true)) (.tmp 183), none⟩, ⟨some 185, .mov (.tmp 184), none⟩, ⟨some 186, .mov (.tmp 15), some ⟨185, false⟩⟩, ⟨some 187, .bin .gtr (.tmp 186) (.con (.int .i64 0)), some ⟨185, false⟩⟩, ⟨some 188, .mov (.tmp 187), some ⟨185, false⟩⟩, ⟨some 189, .mov (.tmp 13), some ⟨188, true⟩⟩, ⟨some 190, .mov (.tmp 15), some ⟨188, true⟩⟩, ⟨some 191, .bin .sub (.tmp 190) (.con (.int .i64 1)), some ⟨188, true⟩⟩, ⟨some 192, .iaS 32 (.tmp 189) (.tmp 191), some ⟨188, true⟩⟩, ⟨some 193, .load true 32 (.tmp 192), some ⟨188, true⟩⟩, ⟨some 194, .mov (.tmp 13), some ⟨188, true⟩⟩, ⟨some 195, .mov (.tmp 15), some ⟨188, true⟩⟩, ⟨some 196, .iaS 32 (.tmp 194) (.tmp 195), some ⟨188, true⟩⟩, ⟨some 197, .load true 32 (.tmp 196), some ⟨188, true⟩⟩, ⟨some 198, .call 19 [.tmp 193, .tmp 197], some ⟨188, true⟩⟩, ⟨some 199, .un .not (.tmp 198), some ⟨188, true⟩⟩, ⟨some 200, .pick (.tmp 188) (.tmp 199) (.con (.bool false)), some ⟨185, false⟩⟩, ⟨some 201, .pick (.tmp 185) (.con (.bool true)) (.tmp 200), none⟩]) (.keep [5, 7, 13, 14, 15, 201] (.cond (.tmp 201) (.keep [] (.seq (.rego 35 [⟨some 2, .mov (.con (.bool false)), none⟩]) .ret)) .skip)))))))) (.keep [5, 7, 13, 14, 15] (.rego 31 [⟨some 141, .mov (.tmp 15), none⟩, ⟨some 142, .bin .add (.tmp 141) (.con (.int .i64 1)), none⟩, ⟨some 15, .mov (.tmp 142), none⟩]))))))))) (.keep [] (.seq (.rego 36 [⟨some 202, .call 10 [], none⟩, ⟨some 2, .mov (.tmp 202), none⟩]) .ret))))))))))))))))))))
theorem fd6 : fnData Try.prog 6 = some (203, lc6.erase, [LRV.tmp 2]) := by kernel_rfl

def lci17 : LC := .seq (.rego 0 [⟨some 4, .box (.tmp 1), none⟩, ⟨some 6, .mov (.con .nili), none⟩]) (.seq (.seq (.rego 1 [⟨some 7, .mov (.tmp 0), none⟩, ⟨some 8, .eqp false (.tmp 7) (.con .nilp), none⟩]) (.cond (.tmp 8) (.seq (.rego 2 [⟨some 9, .call 24 [.con (.int .i64 1), .con (.int .i64 0)], none⟩, ⟨some 6, .mov (.tmp 9), none⟩]) .ret) .skip)) (.seq (.seq (.rego 3 [⟨some 10, .mov (.tmp 2), none⟩, ⟨some 11, .len false (.tmp 10), none⟩, ⟨some 12, .bin .gtr (.tmp 11) (.con (.int .i64 4194304)), none⟩]) (.cond (.tmp 12) (.seq (.rego 4 [⟨some 13, .call 24 [.con (.int .i64 5), .con (.int .i64 0)], none⟩, ⟨some 6, .mov (.tmp 13), none⟩]) .ret) .skip)) (.seq (.seq (.regf 5 [0, 1, 0, 7] [⟨some 14, .mov (.tmp 2), none⟩, ⟨some 15, .call 27 [.tmp 14], none⟩, ⟨some 16, .load true 32 (.tmp 4), none⟩, ⟨some 17, .eqa 32 .u8 true (.tmp 15) (.tmp 16), none⟩]) (.cond (.tmp 17) (.seq (.rego 6 [⟨some 18, .call 24 [.con (.int .i64 11), .con (.int .i64 0)], none⟩, ⟨some 6, .mov (.tmp 18), none⟩]) .ret) .skip)) (.seq (.rego 7 [⟨some 19, .mov (.tmp 0), none⟩, ⟨some 20, .load true 32 (.tmp 4), none⟩, ⟨some 21, .mov (.tmp 2), none⟩, ⟨some 22, .call 28 [.tmp 19, .tmp 20, .tmp 21], none⟩, ⟨some 6, .mov (.tmp 22), none⟩]) .ret))))
theorem fdi17 : fnData Try.prog 17 = some (23, lci17.erase, [LRV.tmp 6]) := by kernel_rfl


end Go.Proofs.Ythpffaofpcikiaa

set_option linter.unusedSimpArgs false
set_option linter.unusedVariables false
namespace Go.Lg
open Go Go.RowKit
theorem cmpI_self : ∀ a : List Int, cmpI a a = 0
  | [] => rfl
  | x :: a => by rw [cmpI, if_neg (by omega), if_neg (by omega), cmpI_self a]
theorem cmpI_eq : ∀ {a b : List Int}, cmpI a b = 0 → a = b
  | [], [], _ => rfl
  | [], _ :: _, h => by cases h
  | _ :: _, [], h => by cases h
  | x :: a, y :: b, h => by
    rw [cmpI] at h
    split at h
    · cases h
    split at h
    · cases h
    rw [cmpI_eq h, show x = y by omega]
theorem cmpI_neg : ∀ a b : List Int, cmpI b a = - cmpI a b
  | [], [] => rfl
  | [], _ :: _ => rfl
  | _ :: _, [] => rfl
  | x :: a, y :: b => by
    have ih := cmpI_neg a b
    rw [cmpI, cmpI]
    by_cases h1 : x < y
    · rw [if_neg (by omega), if_pos h1, if_pos h1]; rfl
    by_cases h2 : y < x
    · rw [if_pos h2, if_neg h1, if_pos h2]
    rw [if_neg h2, if_neg h1, if_neg h1, if_neg h2, ih]
theorem cmpI_trans : ∀ {a b c : List Int}, cmpI a b < 0 → cmpI b c < 0 → cmpI a c < 0
  | [], [], _, h, _ => by simp [cmpI] at h
  | [], _ :: _, [], _, h => by simp [cmpI] at h
  | [], _ :: _, _ :: _, _, _ => by simp [cmpI]
  | _ :: _, [], _, h, _ => by simp [cmpI] at h
  | _ :: _, _ :: _, [], _, h => by simp [cmpI] at h
  | x :: a, y :: b, z :: c, h1, h2 => by
    rw [cmpI] at *
    have ih := @cmpI_trans a b c
    by_cases h3 : x < y
    · by_cases h4 : y < z
      · rw [if_pos (by omega)]; decide
      · rw [if_neg h4] at h2
        by_cases h5 : z < y
        · rw [if_pos h5] at h2; omega
        · rw [if_pos (by omega)]; decide
    rw [if_neg h3] at h1
    by_cases h3' : y < x
    · rw [if_pos h3'] at h1; omega
    rw [if_neg h3'] at h1
    by_cases h4 : y < z
    · rw [if_pos (by omega)]; decide
    rw [if_neg h4] at h2
    by_cases h5 : z < y
    · rw [if_pos h5] at h2; omega
    rw [if_neg h5] at h2
    rw [if_neg (by omega), if_neg (by omega)]
    exact ih h1 h2
theorem u8_wrap (x : Int) : 0 ≤ IntKind.u8.wrap x ∧ IntKind.u8.wrap x < 256 := by
  have e : IntKind.u8.wrap x = x % 256 := rfl
  rw [e]; omega
theorem outF_by (h : List Int) : ∀ i, isBy (outF h i)
  | 0 => fun x hx => by rw [outF] at hx; rw [List.eq_of_mem_replicate hx]; decide
  | i + 1 => fun x hx => by
    rw [outF] at hx
    rcases List.mem_or_eq_of_mem_set hx with hx | hx
    · exact outF_by h i x hx
    · rw [hx]; exact u8_wrap _
theorem sumS_by (b : List Int) : isBy (sumS b) := outF_by _ _
/-- A sum, whatever of. -/
abbrev HS := { l : List Int // l.length = 32 ∧ isBy l }
def HS.cells (x : HS) : List V := x.1.flatMap (cK .u8)
def hsum (b : List Int) : HS := ⟨sumS b, sumS_len b, sumS_by b⟩
def cmpH (x y : HS) : Int := cmpI x.1 y.1
theorem HS.len (x : HS) : x.cells.length = 32 := by rw [HS.cells, lk_len, x.2.1]
theorem HS.onec (x : HS) : x.cells.all V.one = true := lk_one _
theorem hsum_cells (b : List Int) : (hsum b).cells = (sumS b).flatMap (cK .u8) := by simp only [HS.cells, hsum]
theorem hh_len (l : List HS) : (l.flatMap HS.cells).length = l.length * 32 := flat_len HS.len l
theorem hh_snap (H : Heap) (d : Nat) (l : List HS) : (l.flatMap HS.cells).map (snap H (d + 1)) = l.flatMap HS.cells := by
  induction l with
  | nil => rfl
  | cons x r ih => rw [List.flatMap_cons, List.map_append, ih, HS.cells, lk_snap]
theorem hh_imv (d : Nat) (l : List HS) : (l.flatMap HS.cells).all (imV (d + 1)) = true := by
  induction l with
  | nil => rfl
  | cons x r ih => rw [List.flatMap_cons, List.all_append, ih, HS.cells, lk_imv]; rfl
theorem hh_sok (H : Heap) (d : Nat) (l : List HS) : (l.flatMap HS.cells).all (sok H (d + 1)) = true := by
  induction l with
  | nil => rfl
  | cons x r ih => rw [List.flatMap_cons, List.all_append, ih, HS.cells, lk_sok]; rfl
theorem hh_take {l : List HS} {n : Nat} (h : l.length * 32 ≤ n) : (l.flatMap HS.cells).take n = l.flatMap HS.cells := List.take_of_length_le (by rw [hh_len]; exact h)
theorem hh_e0 : ([] : List HS).flatMap HS.cells = [] := rfl
theorem ltOf_cmpH (a b : HS) : Go.Proofs.ltOf cmpH a b = decide (cmpI a.1 b.1 < 0) := rfl
theorem swoH : Go.Sort.SWO (Go.Proofs.ltOf cmpH) := by
  refine ⟨fun x => by rw [ltOf_cmpH, cmpI_self]; rfl, fun x y z h1 h2 => ?_, fun x y z h1 h2 => ?_⟩
  · rw [ltOf_cmpH, decide_eq_true_eq] at *; exact cmpI_trans h1 h2
  · rw [ltOf_cmpH, decide_eq_false_iff_not] at *
    intro h
    have e1 := cmpI_neg x.1 y.1
    by_cases h3 : cmpI x.1 y.1 = 0
    · rw [cmpI_eq h3] at h; exact h2 h
    · exact h2 (cmpI_trans (by omega) h)
/-- What a store lists. -/
def sortH (l : List HS) : List HS := l.mergeSort fun x y => !Go.Proofs.ltOf cmpH y x
theorem sortH_perm (l : List HS) : (sortH l).Perm l := List.mergeSort_perm ..
theorem sortH_pw (l : List HS) : (sortH l).Pairwise (fun x y => Go.Proofs.ltOf cmpH y x = false) := by
  have hsw := swoH
  have := List.pairwise_mergeSort (le := fun x y : HS => !Go.Proofs.ltOf cmpH y x) (fun a b c h1 h2 => ?_) (fun a b => ?_) l
  · exact this.imp fun {a b} h => by simpa using h
  · simp only [Bool.not_eq_true'] at h1 h2 ⊢
    exact hsw.ntrans _ _ _ h2 h1
  · rw [ltOf_cmpH, ltOf_cmpH]
    have e1 := cmpI_neg b.1 a.1
    simp only [Bool.or_eq_true, Bool.not_eq_true', decide_eq_false_iff_not]
    omega
theorem sortH_uniq {l l2 : List HS} (h1 : l2.Perm l) (h2 : l2.Pairwise (fun x y => Go.Proofs.ltOf cmpH y x = false)) : l2 = sortH l :=
  List.Perm.eq_of_pairwise (le := fun x y => Go.Proofs.ltOf cmpH y x = false) (fun a b _ _ h3 h4 => by
    rw [ltOf_cmpH, decide_eq_false_iff_not] at h3 h4
    have e1 := cmpI_neg a.1 b.1
    exact Subtype.ext (cmpI_eq (by omega))) h2 (sortH_pw l) (h1.trans (sortH_perm l).symm)
theorem sortH_len (l : List HS) : (sortH l).length = l.length := (sortH_perm l).length_eq
theorem sortH_of {l m : List HS} (h : l.Perm m) : sortH l = sortH m := sortH_uniq ((sortH_perm l).trans h) (sortH_pw l)
end Go.Lg
namespace Go.Proofs.Ythpffaofpcikiaa
open Go Go.Lg Go.RowKit
set_option linter.unusedVariables false
set_option linter.unusedSimpArgs false
theorem cmpH_ret (x y : HS) : PRet Try.prog 32 [.agg x.cells, .agg y.cells] (.int .i64 (cmpH x y)) := by
  obtain ⟨a, a1, a2⟩ := x
  obtain ⟨b, b1, b2⟩ := y
  unfold HS.cells cmpH
  simp only []
  have ha : (a.flatMap (cK .u8)).length = 32 := by rw [lk_len, a1]
  have hb : (b.flatMap (cK .u8)).length = 32 := by rw [lk_len, b1]
  refine pret_intro fd32 (by simp) ?_
  simp only [lc32, VC0, VC1, VC2, VC3, VC4, VC5, VC6, VC7, VC8, VC9, reduceIte, reduceCtorEq, Nat.reduceEqDiff, Nat.reduceAdd, Nat.reduceMul, Nat.reduceBEq, Nat.reduceLT, Nat.reduceLeDiff, Int.reduceEq, Int.reduceLT, Int.reduceLE, Int.reduceNeg, Int.reduceToNat, Int.reduceAdd, Nat.reduceDiv, Nat.reduceSub, Nat.reduceMod, encL, lk_len, lk_ld, lk_set, lk_app, lk_imv, lk_snap, lk_sok, lk_one, lk_ldall, lk_setall, lk_mk, List.length_set, List.length_append, List.length_singleton, List.length_replicate, fold_or32, fold_xor32, fold_and32, fold_shl32, fold_shr32, fold_add32, fold_not32, sc_one, rv2, rv3, Option.bind_some, Option.map_some, Option.some.injEq, exists_eq_left', List.getElem?_cons_zero, List.getElem?_cons_succ, ld_0, ld_1, ld_2, sc_0, sc_1, sc_2, List.take_succ_cons, List.take_zero, List.all_cons, List.all_nil, List.map_cons, List.map_nil, Bool.and_true, Bool.true_and, flt_snap, flt_sok, flt_imv, flt_one, flt_eq, set_hs, ld_hs, sumS_len, lk_ints, setK_nil, lk_take, List.take_of_length_le (Nat.le_of_eq a1), List.take_of_length_le (Nat.le_of_eq b1)]
  have h := bcmp_ret a b a2 b2
  simp only [encL, a1, b1] at h
  simp only [a1, b1, Nat.le_refl, decide_true, Bool.and_true, if_true, true_and]
  refine callV_of h (.inr rfl) ?_
  simp only [VC0, VC1, VC2, VC3, VC4, VC5, VC6, VC7, VC8, VC9, reduceIte, reduceCtorEq, Nat.reduceEqDiff, Nat.reduceAdd, Nat.reduceMul, Nat.reduceBEq, Nat.reduceLT, Nat.reduceLeDiff, Int.reduceEq, Int.reduceLT, Int.reduceLE, Int.reduceNeg, Int.reduceToNat, Int.reduceAdd, Nat.reduceDiv, Nat.reduceSub, Nat.reduceMod, encL, lk_len, lk_ld, lk_set, lk_app, lk_imv, lk_snap, lk_sok, lk_one, lk_ldall, lk_setall, lk_mk, List.length_set, List.length_append, List.length_singleton, List.length_replicate, fold_or32, fold_xor32, fold_and32, fold_shl32, fold_shr32, fold_add32, fold_not32, sc_one, rv2, rv3, Option.bind_some, Option.map_some, Option.some.injEq, exists_eq_left', List.getElem?_cons_zero, List.getElem?_cons_succ, ld_0, ld_1, ld_2, sc_0, sc_1, sc_2, List.take_succ_cons, List.take_zero, List.all_cons, List.all_nil, List.map_cons, List.map_nil, Bool.and_true, Bool.true_and, flt_snap, flt_sok, flt_imv, flt_one, flt_eq, set_hs, ld_hs, sumS_len, lk_ints, setK_nil]
theorem sortH_mut (l : List HS) (hl : l.length < 4611686018427387904) : PMut Try.prog 31 [.fn 32 []] 32 l.length (l.flatMap HS.cells) none ((sortH l).flatMap HS.cells) :=
  sortFunc_mut Try.sortH (k := 32) (by decide) Try.isAgg29 Try.sizeOf29 HS.cells HS.len (fun x v hv => List.all_eq_true.1 (HS.onec x) v hv) cmpH swoH 32 [] (by kernel_rfl) (by kernel_rfl) cmpH_ret l (sortH l) hl (fun m2 h1 h2 => sortH_uniq h1 h2)
theorem keys_perm {bs : List (List Int)} {j : Nat} (h : j < bs.length) : bs.Perm (bs[j] :: bs.eraseIdx j) := by
  induction bs generalizing j with
  | nil => exact absurd h (Nat.not_lt_zero _)
  | cons x r ih =>
    cases j with
    | zero => exact .refl _
    | succ j =>
      rw [List.eraseIdx_cons_succ, List.getElem_cons_succ]
      exact ((ih (Nat.lt_of_succ_lt_succ h)).cons x).trans (.swap _ _ _)
theorem ents_erase (bs : List (List Int)) (j : Nat) : (ents bs).eraseIdx j = ents (bs.eraseIdx j) := by
  induction bs generalizing j with
  | nil => rfl
  | cons b r ih =>
    cases j with
    | zero => rfl
    | succ j => rw [List.eraseIdx_cons_succ, ents, ents, List.map_cons, List.map_cons, List.eraseIdx_cons_succ]; exact congrArg _ (ih j)
theorem hh_app1 (ks : List HS) (b : List Int) : ks.flatMap HS.cells ++ (sumS b).flatMap (cK .u8) = (ks ++ [hsum b]).flatMap HS.cells := by
  rw [List.flatMap_append]; simp [HS.cells, hsum]
theorem ents_imv2 (bs : List (List Int)) : (ents bs).all (fun p => imV 8 p.1 && imV 8 p.2) = true := by
  simp only [ents, List.all_map]
  refine List.all_eq_true.2 fun b _ => ?_
  simp only [Function.comp, entB, imV, lk_imv, Bool.and_self]
theorem list_own (n : V) (bs : List (List Int)) (hb : bs.length ≤ 1000000) : PRetM Try.prog 18 [.ip [n, .im (ents bs)] 0] 32 (sortH (bs.map hsum)).length ((sortH (bs.map hsum)).flatMap HS.cells) := by
  refine pretM_intro fd18 (by simp) (hh_len _) ?_
  simp only [lc18, VC0, VC1, VC2, VC3, VC4, VC5, VC6, VC7, VC8, VC9, reduceIte, reduceCtorEq, Nat.reduceEqDiff, Nat.reduceAdd, Nat.reduceMul, Nat.reduceBEq, Nat.reduceLT, Nat.reduceLeDiff, Int.reduceEq, Int.reduceLT, Int.reduceLE, Int.reduceNeg, Int.reduceToNat, Int.reduceAdd, Nat.reduceDiv, Nat.reduceSub, Nat.reduceMod, encL, lk_len, lk_ld, lk_set, lk_app, lk_imv, lk_snap, lk_sok, lk_one, lk_ldall, lk_setall, lk_mk, List.length_set, List.length_append, List.length_singleton, List.length_replicate, fold_or32, fold_xor32, fold_and32, fold_shl32, fold_shr32, fold_add32, fold_not32, sc_one, rv2, rv3, Option.bind_some, Option.map_some, Option.some.injEq, exists_eq_left', List.getElem?_cons_zero, List.getElem?_cons_succ, ld_0, ld_1, ld_2, sc_0, sc_1, sc_2, List.take_succ_cons, List.take_zero, List.all_cons, List.all_nil, List.map_cons, List.map_nil, Bool.and_true, Bool.true_and, flt_snap, flt_sok, flt_imv, flt_one, flt_eq, set_hs, ld_hs, sumS_len, lk_ints, setK_nil]
  refine vstepC_rng (ents bs) rfl ?_
  simp only [VC0, VC1, VC2, VC3, VC4, VC5, VC6, VC7, VC8, VC9, reduceIte, reduceCtorEq, Nat.reduceEqDiff, Nat.reduceAdd, Nat.reduceMul, Nat.reduceBEq, Nat.reduceLT, Nat.reduceLeDiff, Int.reduceEq, Int.reduceLT, Int.reduceLE, Int.reduceNeg, Int.reduceToNat, Int.reduceAdd, Nat.reduceDiv, Nat.reduceSub, Nat.reduceMod, encL, lk_len, lk_ld, lk_set, lk_app, lk_imv, lk_snap, lk_sok, lk_one, lk_ldall, lk_setall, lk_mk, List.length_set, List.length_append, List.length_singleton, List.length_replicate, fold_or32, fold_xor32, fold_and32, fold_shl32, fold_shr32, fold_add32, fold_not32, sc_one, rv2, rv3, Option.bind_some, Option.map_some, Option.some.injEq, exists_eq_left', List.getElem?_cons_zero, List.getElem?_cons_succ, ld_0, ld_1, ld_2, sc_0, sc_1, sc_2, List.take_succ_cons, List.take_zero, List.all_cons, List.all_nil, List.map_cons, List.map_nil, Bool.and_true, Bool.true_and, flt_snap, flt_sok, flt_imv, flt_one, flt_eq, set_hs, ld_hs, sumS_len, lk_ints, setK_nil]
  refine loop_vcg (ι := (List HS × List (List Int)) × (Nat → Nat)) (fun y => stO [(3, .own 32 y.1.1.length (y.1.1.flatMap HS.cells)), (11, .itr (ents y.1.2))] y.2)
    (fun y => (y.1.1 ++ y.1.2.map hsum).Perm (bs.map hsum)) (fun y => y.1.2.length) (([], bs), _) (.refl _) (ent_of _ [] rfl rfl (by simp only [VC0, VC1, VC2, VC3, VC4, VC5, VC6, VC7, VC8, VC9, reduceIte, reduceCtorEq, Nat.reduceEqDiff, Nat.reduceAdd, Nat.reduceMul, Nat.reduceBEq, Nat.reduceLT, Nat.reduceLeDiff, Int.reduceEq, Int.reduceLT, Int.reduceLE, Int.reduceNeg, Int.reduceToNat, Int.reduceAdd, Nat.reduceDiv, Nat.reduceSub, Nat.reduceMod, encL, lk_len, lk_ld, lk_set, lk_app, lk_imv, lk_snap, lk_sok, lk_one, lk_ldall, lk_setall, lk_mk, List.length_set, List.length_append, List.length_singleton, List.length_replicate, fold_or32, fold_xor32, fold_and32, fold_shl32, fold_shr32, fold_add32, fold_not32, sc_one, rv2, rv3, Option.bind_some, Option.map_some, Option.some.injEq, exists_eq_left', List.getElem?_cons_zero, List.getElem?_cons_succ, ld_0, ld_1, ld_2, sc_0, sc_1, sc_2, List.take_succ_cons, List.take_zero, List.all_cons, List.all_nil, List.map_cons, List.map_nil, Bool.and_true, Bool.true_and, flt_snap, flt_sok, flt_imv, flt_one, flt_eq, set_hs, ld_hs, sumS_len, lk_ints, setK_nil, hh_e0, ents_imv2])) ?_
  rintro ⟨⟨ks, lb⟩, c⟩ hp
  simp only [] at hp
  simp only [VC0, VC1, VC2, VC3, VC4, VC5, VC6, VC7, VC8, VC9, reduceIte, reduceCtorEq, Nat.reduceEqDiff, Nat.reduceAdd, Nat.reduceMul, Nat.reduceBEq, Nat.reduceLT, Nat.reduceLeDiff, Int.reduceEq, Int.reduceLT, Int.reduceLE, Int.reduceNeg, Int.reduceToNat, Int.reduceAdd, Nat.reduceDiv, Nat.reduceSub, Nat.reduceMod, encL, lk_len, lk_ld, lk_set, lk_app, lk_imv, lk_snap, lk_sok, lk_one, lk_ldall, lk_setall, lk_mk, List.length_set, List.length_append, List.length_singleton, List.length_replicate, fold_or32, fold_xor32, fold_and32, fold_shl32, fold_shr32, fold_add32, fold_not32, sc_one, rv2, rv3, Option.bind_some, Option.map_some, Option.some.injEq, exists_eq_left', List.getElem?_cons_zero, List.getElem?_cons_succ, ld_0, ld_1, ld_2, sc_0, sc_1, sc_2, List.take_succ_cons, List.take_zero, List.all_cons, List.all_nil, List.map_cons, List.map_nil, Bool.and_true, Bool.true_and, flt_snap, flt_sok, flt_imv, flt_one, flt_eq, set_hs, ld_hs, sumS_len, lk_ints, setK_nil]
  have hkl : ks.length + lb.length = bs.length := by have := hp.length_eq; simpa using this
  refine vstepC_nxt (2199023255552 + 11, 0) (ents lb) none rfl rfl (fun h => ?_) (fun j h => ?_)
  · obtain rfl : lb = [] := by cases lb with | nil => rfl | cons b r => cases h
    simp only [List.map_nil, List.append_nil] at hp
    have hq := sortH_mut ks (by simp at hkl; omega)
    have hs := sortH_of hp
    have hsl := sortH_len ks
    have hsl2 : (sortH (bs.map hsum)).length = ks.length := by rw [← hs, hsl]
    simp only [VC0, VC1, VC2, VC3, VC4, VC5, VC6, VC7, VC8, VC9, reduceIte, reduceCtorEq, Nat.reduceEqDiff, Nat.reduceAdd, Nat.reduceMul, Nat.reduceBEq, Nat.reduceLT, Nat.reduceLeDiff, Int.reduceEq, Int.reduceLT, Int.reduceLE, Int.reduceNeg, Int.reduceToNat, Int.reduceAdd, Nat.reduceDiv, Nat.reduceSub, Nat.reduceMod, encL, lk_len, lk_ld, lk_set, lk_app, lk_imv, lk_snap, lk_sok, lk_one, lk_ldall, lk_setall, lk_mk, List.length_set, List.length_append, List.length_singleton, List.length_replicate, fold_or32, fold_xor32, fold_and32, fold_shl32, fold_shr32, fold_add32, fold_not32, sc_one, rv2, rv3, Option.bind_some, Option.map_some, Option.some.injEq, exists_eq_left', List.getElem?_cons_zero, List.getElem?_cons_succ, ld_0, ld_1, ld_2, sc_0, sc_1, sc_2, List.take_succ_cons, List.take_zero, List.all_cons, List.all_nil, List.map_cons, List.map_nil, Bool.and_true, Bool.true_and, flt_snap, flt_sok, flt_imv, flt_one, flt_eq, set_hs, ld_hs, sumS_len, lk_ints, setK_nil, hh_len, hh_take (Nat.le_refl _), Nat.le_refl, decide_true, Bool.and_true, if_true, true_and]
    refine ⟨hh_sok _ _ _, ?_⟩
    refine callX_mut hq (by simp only [VC0, VC1, VC2, VC3, VC4, VC5, VC6, VC7, VC8, VC9, reduceIte, reduceCtorEq, Nat.reduceEqDiff, Nat.reduceAdd, Nat.reduceMul, Nat.reduceBEq, Nat.reduceLT, Nat.reduceLeDiff, Int.reduceEq, Int.reduceLT, Int.reduceLE, Int.reduceNeg, Int.reduceToNat, Int.reduceAdd, Nat.reduceDiv, Nat.reduceSub, Nat.reduceMod, encL, lk_len, lk_ld, lk_set, lk_app, lk_imv, lk_snap, lk_sok, lk_one, lk_ldall, lk_setall, lk_mk, List.length_set, List.length_append, List.length_singleton, List.length_replicate, fold_or32, fold_xor32, fold_and32, fold_shl32, fold_shr32, fold_add32, fold_not32, sc_one, rv2, rv3, Option.bind_some, Option.map_some, Option.some.injEq, exists_eq_left', List.getElem?_cons_zero, List.getElem?_cons_succ, ld_0, ld_1, ld_2, sc_0, sc_1, sc_2, List.take_succ_cons, List.take_zero, List.all_cons, List.all_nil, List.map_cons, List.map_nil, Bool.and_true, Bool.true_and, flt_snap, flt_sok, flt_imv, flt_one, flt_eq, set_hs, ld_hs, sumS_len, lk_ints, setK_nil]) ?_ rfl ?_ <;> simp only [VC0, VC1, VC2, VC3, VC4, VC5, VC6, VC7, VC8, VC9, reduceIte, reduceCtorEq, Nat.reduceEqDiff, Nat.reduceAdd, Nat.reduceMul, Nat.reduceBEq, Nat.reduceLT, Nat.reduceLeDiff, Int.reduceEq, Int.reduceLT, Int.reduceLE, Int.reduceNeg, Int.reduceToNat, Int.reduceAdd, Nat.reduceDiv, Nat.reduceSub, Nat.reduceMod, encL, lk_len, lk_ld, lk_set, lk_app, lk_imv, lk_snap, lk_sok, lk_one, lk_ldall, lk_setall, lk_mk, List.length_set, List.length_append, List.length_singleton, List.length_replicate, fold_or32, fold_xor32, fold_and32, fold_shl32, fold_shr32, fold_add32, fold_not32, sc_one, rv2, rv3, Option.bind_some, Option.map_some, Option.some.injEq, exists_eq_left', List.getElem?_cons_zero, List.getElem?_cons_succ, ld_0, ld_1, ld_2, sc_0, sc_1, sc_2, List.take_succ_cons, List.take_zero, List.all_cons, List.all_nil, List.map_cons, List.map_nil, Bool.and_true, Bool.true_and, flt_snap, flt_sok, flt_imv, flt_one, flt_eq, set_hs, ld_hs, sumS_len, lk_ints, setK_nil, hh_snap, rmut, ownR, hh_len, hsl2, hs, Nat.le_refl, if_true, hh_take (Nat.le_of_eq (congrArg (· * 32) hsl2)), slOf]
  · have hj : j < lb.length := by rw [ents_len] at h; exact h
    have e : (ents lb)[j] = entB lb[j] := by simp [ents]
    have hp2 : (ks ++ [hsum lb[j]] ++ (lb.eraseIdx j).map hsum).Perm (bs.map hsum) := by
      refine List.Perm.trans ?_ hp
      rw [List.append_assoc]
      exact ((((keys_perm hj).map hsum).symm)).append_left ks
    have hel : (lb.eraseIdx j).length + 1 = lb.length := by rw [List.length_eraseIdx, if_pos hj]; omega
    simp only [VC0, VC1, VC2, VC3, VC4, VC5, VC6, VC7, VC8, VC9, reduceIte, reduceCtorEq, Nat.reduceEqDiff, Nat.reduceAdd, Nat.reduceMul, Nat.reduceBEq, Nat.reduceLT, Nat.reduceLeDiff, Int.reduceEq, Int.reduceLT, Int.reduceLE, Int.reduceNeg, Int.reduceToNat, Int.reduceAdd, Nat.reduceDiv, Nat.reduceSub, Nat.reduceMod, encL, lk_len, lk_ld, lk_set, lk_app, lk_imv, lk_snap, lk_sok, lk_one, lk_ldall, lk_setall, lk_mk, List.length_set, List.length_append, List.length_singleton, List.length_replicate, fold_or32, fold_xor32, fold_and32, fold_shl32, fold_shr32, fold_add32, fold_not32, sc_one, rv2, rv3, Option.bind_some, Option.map_some, Option.some.injEq, exists_eq_left', List.getElem?_cons_zero, List.getElem?_cons_succ, ld_0, ld_1, ld_2, sc_0, sc_1, sc_2, List.take_succ_cons, List.take_zero, List.all_cons, List.all_nil, List.map_cons, List.map_nil, Bool.and_true, Bool.true_and, flt_snap, flt_sok, flt_imv, flt_one, flt_eq, set_hs, ld_hs, sumS_len, lk_ints, setK_nil]
    refine vstepC_ent (2199023255552 + 11, 0) ((ents lb).eraseIdx j) (ents lb)[j] rfl (by simp only [VC0, VC1, VC2, VC3, VC4, VC5, VC6, VC7, VC8, VC9, reduceIte, reduceCtorEq, Nat.reduceEqDiff, Nat.reduceAdd, Nat.reduceMul, Nat.reduceBEq, Nat.reduceLT, Nat.reduceLeDiff, Int.reduceEq, Int.reduceLT, Int.reduceLE, Int.reduceNeg, Int.reduceToNat, Int.reduceAdd, Nat.reduceDiv, Nat.reduceSub, Nat.reduceMod, encL, lk_len, lk_ld, lk_set, lk_app, lk_imv, lk_snap, lk_sok, lk_one, lk_ldall, lk_setall, lk_mk, List.length_set, List.length_append, List.length_singleton, List.length_replicate, fold_or32, fold_xor32, fold_and32, fold_shl32, fold_shr32, fold_add32, fold_not32, sc_one, rv2, rv3, Option.bind_some, Option.map_some, Option.some.injEq, exists_eq_left', List.getElem?_cons_zero, List.getElem?_cons_succ, ld_0, ld_1, ld_2, sc_0, sc_1, sc_2, List.take_succ_cons, List.take_zero, List.all_cons, List.all_nil, List.map_cons, List.map_nil, Bool.and_true, Bool.true_and, flt_snap, flt_sok, flt_imv, flt_one, flt_eq, set_hs, ld_hs, sumS_len, lk_ints, setK_nil]) ?_
    rw [e, ents_erase]
    simp only [entB, VC0, VC1, VC2, VC3, VC4, VC5, VC6, VC7, VC8, VC9, reduceIte, reduceCtorEq, Nat.reduceEqDiff, Nat.reduceAdd, Nat.reduceMul, Nat.reduceBEq, Nat.reduceLT, Nat.reduceLeDiff, Int.reduceEq, Int.reduceLT, Int.reduceLE, Int.reduceNeg, Int.reduceToNat, Int.reduceAdd, Nat.reduceDiv, Nat.reduceSub, Nat.reduceMod, encL, lk_len, lk_ld, lk_set, lk_app, lk_imv, lk_snap, lk_sok, lk_one, lk_ldall, lk_setall, lk_mk, List.length_set, List.length_append, List.length_singleton, List.length_replicate, fold_or32, fold_xor32, fold_and32, fold_shl32, fold_shr32, fold_add32, fold_not32, sc_one, rv2, rv3, Option.bind_some, Option.map_some, Option.some.injEq, exists_eq_left', List.getElem?_cons_zero, List.getElem?_cons_succ, ld_0, ld_1, ld_2, sc_0, sc_1, sc_2, List.take_succ_cons, List.take_zero, List.all_cons, List.all_nil, List.map_cons, List.map_nil, Bool.and_true, Bool.true_and, flt_snap, flt_sok, flt_imv, flt_one, flt_eq, set_hs, ld_hs, sumS_len, lk_ints, setK_nil, sumS_len, set_hs, ld_hs, hh_len, hh_app1]
    refine ⟨⟨by omega, by omega⟩, backTo_of ((ks ++ [hsum lb[j]], lb.eraseIdx j), _) hp2 (by simp only []; omega) (ent_of _ [] rfl rfl ?_)⟩
    simp only [VC0, VC1, VC2, VC3, VC4, VC5, VC6, VC7, VC8, VC9, reduceIte, reduceCtorEq, Nat.reduceEqDiff, Nat.reduceAdd, Nat.reduceMul, Nat.reduceBEq, Nat.reduceLT, Nat.reduceLeDiff, Int.reduceEq, Int.reduceLT, Int.reduceLE, Int.reduceNeg, Int.reduceToNat, Int.reduceAdd, Nat.reduceDiv, Nat.reduceSub, Nat.reduceMod, encL, lk_len, lk_ld, lk_set, lk_app, lk_imv, lk_snap, lk_sok, lk_one, lk_ldall, lk_setall, lk_mk, List.length_set, List.length_append, List.length_singleton, List.length_replicate, fold_or32, fold_xor32, fold_and32, fold_shl32, fold_shr32, fold_add32, fold_not32, sc_one, rv2, rv3, Option.bind_some, Option.map_some, Option.some.injEq, exists_eq_left', List.getElem?_cons_zero, List.getElem?_cons_succ, ld_0, ld_1, ld_2, sc_0, sc_1, sc_2, List.take_succ_cons, List.take_zero, List.all_cons, List.all_nil, List.map_cons, List.map_nil, Bool.and_true, Bool.true_and, flt_snap, flt_sok, flt_imv, flt_one, flt_eq, set_hs, ld_hs, sumS_len, lk_ints, setK_nil, hh_imv, ents_imv2, List.length_append, List.length_cons, List.length_nil]
end Go.Proofs.Ythpffaofpcikiaa

set_option linter.unusedSimpArgs false
set_option linter.unusedVariables false
namespace Go.Proofs.Ythpffaofpcikiaa
open Go Go.Lg Go.RowKit
set_option linter.unusedVariables false
set_option linter.unusedSimpArgs false

theorem fold_bytS (b : List Int) : strOf (b.flatMap (cK .u8)) = bytS b := rfl
end Go.Proofs.Ythpffaofpcikiaa

set_option linter.unusedSimpArgs false
set_option linter.unusedVariables false
namespace Go.Proofs.Ythpffaofpcikiaa
open Go Go.Lg Go.RowKit
set_option linter.unusedVariables false
set_option linter.unusedSimpArgs false

theorem lk_frs {q : IntKind} (H : Heap) (d : Nat) (l : List Int) : (l.flatMap (cK q)).all (frs H d) = true := by
  induction l with
  | nil => rfl
  | cons x r ih => rw [List.flatMap_cons, List.all_append, ih]; cases d <;> rfl
theorem get_new (n : V) (es : List (V × V)) (b : List Int) (j : Nat) (hb : b.length ≤ 200) (hes : es.all (fun e => keyV (.arr 32 .u8) e.1) = true) (hf : findK (.agg ((sumS b).flatMap (cK .u8))) es = some (j, .sl b.length (b.flatMap (cK .u8)))) :
    PRetF Try.prog 16 [.ip [n, .im es] 0, .agg ((sumS b).flatMap (cK .u8))] (.tup [.sl b.length (b.flatMap (cK .u8)), .nili]) := by
  refine pretF_intro fd16 (by simp) ?_
  have h1 : keyV (.arr 32 .u8) (.agg ((sumS b).flatMap (cK .u8))) = true := keyB_hs b
  have h2 : ((b.length : Nat) : Int) ≤ 200 := by omega
  simp only [lc16, VC0, VC1, VC2, VC3, VC4, VC5, VC6, VC7, VC8, VC9, reduceIte, reduceCtorEq, Nat.reduceEqDiff, Nat.reduceAdd, Nat.reduceMul, Nat.reduceBEq, Nat.reduceLT, Nat.reduceLeDiff, Int.reduceEq, Int.reduceLT, Int.reduceLE, Int.reduceNeg, Int.reduceToNat, Int.reduceAdd, Nat.reduceDiv, Nat.reduceSub, Nat.reduceMod, encL, lk_len, lk_ld, lk_set, lk_app, lk_imv, lk_snap, lk_sok, lk_one, lk_ldall, lk_setall, lk_mk, List.length_set, List.length_append, List.length_singleton, List.length_replicate, fold_or32, fold_xor32, fold_and32, fold_shl32, fold_shr32, fold_add32, fold_not32, sc_one, rv2, rv3, Option.bind_some, Option.map_some, Option.some.injEq, exists_eq_left', List.getElem?_cons_zero, List.getElem?_cons_succ, ld_0, ld_1, ld_2, sc_0, sc_1, sc_2, List.take_succ_cons, List.take_zero, List.all_cons, List.all_nil, List.map_cons, List.map_nil, Bool.and_true, Bool.true_and, flt_snap, flt_sok, flt_imv, flt_one, flt_eq, set_hs, ld_hs, sumS_len, lk_ints, setK_nil, hf, hes]
  refine callV_of (sum_ret b (by omega)) (.inr (lk_flat 3 _)) ?_
  simp only [VC0, VC1, VC2, VC3, VC4, VC5, VC6, VC7, VC8, VC9, reduceIte, reduceCtorEq, Nat.reduceEqDiff, Nat.reduceAdd, Nat.reduceMul, Nat.reduceBEq, Nat.reduceLT, Nat.reduceLeDiff, Int.reduceEq, Int.reduceLT, Int.reduceLE, Int.reduceNeg, Int.reduceToNat, Int.reduceAdd, Nat.reduceDiv, Nat.reduceSub, Nat.reduceMod, encL, lk_len, lk_ld, lk_set, lk_app, lk_imv, lk_snap, lk_sok, lk_one, lk_ldall, lk_setall, lk_mk, List.length_set, List.length_append, List.length_singleton, List.length_replicate, fold_or32, fold_xor32, fold_and32, fold_shl32, fold_shr32, fold_add32, fold_not32, sc_one, rv2, rv3, Option.bind_some, Option.map_some, Option.some.injEq, exists_eq_left', List.getElem?_cons_zero, List.getElem?_cons_succ, ld_0, ld_1, ld_2, sc_0, sc_1, sc_2, List.take_succ_cons, List.take_zero, List.all_cons, List.all_nil, List.map_cons, List.map_nil, Bool.and_true, Bool.true_and, flt_snap, flt_sok, flt_imv, flt_one, flt_eq, set_hs, ld_hs, sumS_len, lk_ints, setK_nil, lk_eq]
  refine ⟨⟨by omega, by omega⟩, ?_, lk_frs _ _ _⟩
  rw [List.take_of_length_le (by rw [lk_len]; exact Nat.le_refl _), lk_snap]

end Go.Proofs.Ythpffaofpcikiaa

set_option linter.unusedSimpArgs false
set_option linter.unusedVariables false
namespace Go.Lg
open Go Go.RowKit
/-- One more. -/
def addB (s : List (List Int)) (b : List Int) : List (List Int) := if b ∈ s then s else s ++ [b]
def addsB (s l : List (List Int)) : List (List Int) := l.foldl addB s
theorem mem_addB {s : List (List Int)} {b x : List Int} : x ∈ addB s b ↔ x ∈ s ∨ x = b := by
  unfold addB
  split
  · rename_i h
    exact ⟨.inl, fun q => q.elim id fun e => e ▸ h⟩
  · simp
theorem mem_addsB {l : List (List Int)} : ∀ {s : List (List Int)} {x : List Int}, x ∈ addsB s l ↔ x ∈ s ∨ x ∈ l := by
  induction l with
  | nil => intro s x; simp [addsB]
  | cons b l ih =>
    intro s x
    show x ∈ addsB (addB s b) l ↔ _
    rw [ih, mem_addB, List.mem_cons, or_assoc]
theorem len_addB (s : List (List Int)) (b : List Int) : (addB s b).length ≤ s.length + 1 := by
  unfold addB; split <;> simp
theorem len_addsB (l : List (List Int)) : ∀ s, (addsB s l).length ≤ s.length + l.length := by
  induction l with
  | nil => intro s; simp [addsB]
  | cons b l ih =>
    intro s
    show (addsB (addB s b) l).length ≤ _
    have h1 := ih (addB s b)
    have h2 := len_addB s b
    rw [List.length_cons]; omega
theorem nd_addB {s : List (List Int)} {b : List Int} (h : s.Nodup) : (addB s b).Nodup := by
  unfold addB
  split
  · exact h
  · rename_i hn
    exact List.nodup_append.2 ⟨h, by simp, fun a ha c hc e => by rw [List.mem_singleton.1 hc] at e; exact hn (e ▸ ha)⟩
theorem nd_addsB {l : List (List Int)} : ∀ {s : List (List Int)}, s.Nodup → (addsB s l).Nodup := by
  induction l with
  | nil => intro s h; exact h
  | cons b l ih => intro s h; exact ih (nd_addB h)
theorem addsB_next {L : List (List Int)} {i : Nat} (h : i < L.length) : addsB [] (L.take (i + 1)) = addB (addsB [] (L.take i)) (L.getD i []) := by
  have e : L.take (i + 1) = L.take i ++ [L.getD i []] := by rw [List.take_add_one, List.getElem?_eq_getElem h]; simp [h]
  rw [e, addsB, List.foldl_append]; rfl
theorem perm_of_mem : ∀ {a b : List (List Int)}, a.Nodup → b.Nodup → (∀ x, x ∈ a ↔ x ∈ b) → a.Perm b
  | [], [], _, _, _ => .refl _
  | [], y :: b, _, _, h => absurd ((h y).2 (List.mem_cons_self ..)) (List.not_mem_nil)
  | x :: a, b, ha, hb, h => by
    have hx : x ∈ b := (h x).1 (List.mem_cons_self ..)
    obtain ⟨h1, h2⟩ := List.nodup_cons.1 ha
    refine ((perm_of_mem h2 (hb.erase x) fun y => ?_).cons x).trans (List.perm_cons_erase hx).symm
    rw [hb.mem_erase_iff, ← h y, List.mem_cons]
    constructor
    · intro hy
      exact ⟨fun e => h1 (e ▸ hy), .inr hy⟩
    · rintro ⟨hy, e | e⟩
      · exact absurd e hy
      · exact e
/-- Two orders, one list. -/
theorem sort_adds (M : List (List Int)) : sortH ((addsB [] M.reverse).map hsum) = sortH ((addsB [] M).map hsum) := by
  refine sortH_of (List.Perm.map _ (perm_of_mem (nd_addsB List.nodup_nil) (nd_addsB List.nodup_nil) fun x => ?_))
  rw [mem_addsB, mem_addsB, List.mem_reverse]
theorem hsum_inj {a b : List Int} (e : hsum a = hsum b) : sumS a = sumS b := by
  have h := congrArg Subtype.val e
  simp only [hsum] at h
  exact h
theorem strict_of {S : List HS} (hp : S.Pairwise (fun x y => Go.Proofs.ltOf cmpH y x = false)) (hn : S.Nodup) {i : Nat} (h0 : i < S.length) (h : i + 1 < S.length) : cmpI S[i].1 S[i + 1].1 < 0 := by
  have h1 := List.pairwise_iff_getElem.1 hp i (i + 1) h0 h (by omega)
  have h2 := List.pairwise_iff_getElem.1 hn i (i + 1) h0 h (by omega)
  rw [ltOf_cmpH, decide_eq_false_iff_not] at h1
  have h3 := cmpI_neg S[i].1 S[i + 1].1
  by_cases h4 : cmpI S[i].1 S[i + 1].1 = 0
  · exact absurd (Subtype.ext (cmpI_eq h4)) h2
  · omega
theorem nd_map {A : List (List Int)} (hA : A.Nodup) (hu : ∀ b ∈ A, ∀ c ∈ A, sumS b = sumS c → b = c) : (A.map hsum).Nodup := by
  unfold List.Nodup
  rw [List.pairwise_map]
  exact hA.imp_of_mem fun {a b} ha hb hne e => hne (hu a ha b hb (hsum_inj e))
theorem sort_nd {l : List HS} (h : l.Nodup) : (sortH l).Nodup := (sortH_perm _).nodup_iff.2 h
theorem sort_mem {A : List (List Int)} {i : Nat} (h : i < (sortH (A.map hsum)).length) : ∃ b ∈ A, hsum b = (sortH (A.map hsum))[i] := by
  have h1 : (sortH (A.map hsum))[i] ∈ A.map hsum := (sortH_perm _).mem_iff.1 (List.getElem_mem h)
  obtain ⟨b, hb, e⟩ := List.mem_map.1 h1
  exact ⟨b, hb, e⟩
/-- Of the first, no two unlike ones have one sum. -/
structure Apart (M : List (List Int)) (i : Nat) : Prop where
  apart : ∀ j k, j < i → k < i → M.getD j [] = M.getD k [] ∨ sumS (M.getD j []) ≠ sumS (M.getD k [])
  short : ∀ j, j < i → (M.getD j []).length ≤ 200
theorem Apart.zero (M : List (List Int)) : Apart M 0 := ⟨fun j k h => by omega, fun j h => by omega⟩
theorem Apart.next {M : List (List Int)} {i : Nat} (h : Apart M i) (hl : (M.getD i []).length ≤ 200) (hne : ∀ j, j < i → M.getD i [] = M.getD j [] ∨ sumS (M.getD i []) ≠ sumS (M.getD j [])) : Apart M (i + 1) := by
  refine ⟨fun j k hj hk => ?_, fun j hj => ?_⟩
  · rcases Nat.lt_or_ge j i with a | a <;> rcases Nat.lt_or_ge k i with b | b
    · exact h.apart j k a b
    · obtain rfl : k = i := by omega
      rcases hne j a with e | e
      · exact .inl e.symm
      · exact .inr (Ne.symm e)
    · obtain rfl : j = i := by omega
      exact hne k b
    · obtain rfl : j = i := by omega
      obtain rfl : k = j := by omega
      exact .inl rfl
  · rcases Nat.lt_or_ge j i with a | a
    · exact h.short j a
    · obtain rfl : j = i := by omega
      exact hl
theorem Apart.uniq {M : List (List Int)} (h : Apart M M.length) {b c : List Int} (hb : b ∈ M) (hc : c ∈ M) (e : sumS b = sumS c) : b = c := by
  obtain ⟨j, hj, rfl⟩ := List.mem_iff_getElem.1 hb
  obtain ⟨k, hk, rfl⟩ := List.mem_iff_getElem.1 hc
  have q := h.apart j k hj hk
  rw [List.getD_eq_getElem?_getD, List.getD_eq_getElem?_getD, List.getElem?_eq_getElem hj, List.getElem?_eq_getElem hk] at q
  exact q.resolve_right fun h2 => h2 e
theorem Apart.all {M : List (List Int)} (h : Apart M M.length) {b : List Int} (hb : b ∈ M) : b.length ≤ 200 := by
  obtain ⟨j, hj, rfl⟩ := List.mem_iff_getElem.1 hb
  have q := h.short j hj
  rw [List.getD_eq_getElem?_getD, List.getElem?_eq_getElem hj] at q
  exact q
theorem HS.ld {l : List HS} {i : Nat} (h : i < l.length) : ldV true 32 (l.flatMap HS.cells) (i * 32) = some (.agg l[i].cells) := by
  rw [ld_flat0 HS.len h (by decide) (by decide)]
  exact lk_ldall l[i].2.1
theorem cmpI_drop {a b : List Int} {k : Nat} (ha : k < a.length) (hb : k < b.length) : cmpI (a.drop k) (b.drop k) = if a.getD k 0 < b.getD k 0 then -1 else if b.getD k 0 < a.getD k 0 then 1 else cmpI (a.drop (k + 1)) (b.drop (k + 1)) := by
  rw [List.drop_eq_getElem_cons ha, List.drop_eq_getElem_cons hb, cmpI]
  simp only [List.getD_eq_getElem?_getD, List.getElem?_eq_getElem ha, List.getElem?_eq_getElem hb, Option.getD_some]
theorem hh_flat (d : Nat) (l : List HS) : (l.flatMap HS.cells).all (flat d) = true := by
  induction l with
  | nil => rfl
  | cons x r ih => rw [List.flatMap_cons, List.all_append, ih, HS.cells, lk_flat]; rfl
end Go.Lg
namespace Go.Proofs.Ythpffaofpcikiaa
open Go Go.Lg Go.RowKit
set_option linter.unusedVariables false
set_option linter.unusedSimpArgs false
theorem rless_ret (x y : HS) : PRet Try.prog 19 [.agg x.cells, .agg y.cells] (.bool (decide (cmpI x.1 y.1 < 0))) := by
  obtain ⟨a, a1, a2⟩ := x
  obtain ⟨b, b1, b2⟩ := y
  unfold HS.cells
  simp only []
  refine pret_intro fd19 (by simp) ?_
  simp only [lc19, VC0, VC1, VC2, VC3, VC4, VC5, VC6, VC7, VC8, VC9, reduceIte, reduceCtorEq, Nat.reduceEqDiff, Nat.reduceAdd, Nat.reduceMul, Nat.reduceBEq, Nat.reduceLT, Nat.reduceLeDiff, Int.reduceEq, Int.reduceLT, Int.reduceLE, Int.reduceNeg, Int.reduceToNat, Int.reduceAdd, Nat.reduceDiv, Nat.reduceSub, Nat.reduceMod, encL, lk_len, lk_ld, lk_set, lk_app, lk_imv, lk_snap, lk_sok, lk_one, lk_ldall, lk_setall, lk_mk, List.length_set, List.length_append, List.length_singleton, List.length_replicate, fold_or32, fold_xor32, fold_and32, fold_shl32, fold_shr32, fold_add32, fold_not32, sc_one, rv2, rv3, Option.bind_some, Option.map_some, Option.some.injEq, exists_eq_left', List.getElem?_cons_zero, List.getElem?_cons_succ, ld_0, ld_1, ld_2, sc_0, sc_1, sc_2, List.take_succ_cons, List.take_zero, List.all_cons, List.all_nil, List.map_cons, List.map_nil, Bool.and_true, Bool.true_and, flt_snap, flt_sok, flt_imv, flt_one, flt_eq, set_hs, ld_hs, sumS_len, lk_ints, setK_nil]
  refine loop_vcg (ι := Nat × (Nat → Nat)) (fun (k, c) => stO [(2, .box (a.flatMap (cK .u8))), (3, .box (b.flatMap (cK .u8))), (5, .val (.int .i64 k))] c)
    (fun (k, _) => k ≤ 32 ∧ cmpI (a.drop k) (b.drop k) = cmpI a b) (fun (k, _) => 32 - k) (0, _) ⟨Nat.zero_le _, rfl⟩ (ent_of _ [] rfl rfl (by simp only [VC0, VC1, VC2, VC3, VC4, VC5, VC6, VC7, VC8, VC9, reduceIte, reduceCtorEq, Nat.reduceEqDiff, Nat.reduceAdd, Nat.reduceMul, Nat.reduceBEq, Nat.reduceLT, Nat.reduceLeDiff, Int.reduceEq, Int.reduceLT, Int.reduceLE, Int.reduceNeg, Int.reduceToNat, Int.reduceAdd, Nat.reduceDiv, Nat.reduceSub, Nat.reduceMod, encL, lk_len, lk_ld, lk_set, lk_app, lk_imv, lk_snap, lk_sok, lk_one, lk_ldall, lk_setall, lk_mk, List.length_set, List.length_append, List.length_singleton, List.length_replicate, fold_or32, fold_xor32, fold_and32, fold_shl32, fold_shr32, fold_add32, fold_not32, sc_one, rv2, rv3, Option.bind_some, Option.map_some, Option.some.injEq, exists_eq_left', List.getElem?_cons_zero, List.getElem?_cons_succ, ld_0, ld_1, ld_2, sc_0, sc_1, sc_2, List.take_succ_cons, List.take_zero, List.all_cons, List.all_nil, List.map_cons, List.map_nil, Bool.and_true, Bool.true_and, flt_snap, flt_sok, flt_imv, flt_one, flt_eq, set_hs, ld_hs, sumS_len, lk_ints, setK_nil])) ?_
  rintro ⟨k, c⟩ hk
  obtain ⟨hk, he⟩ : k ≤ 32 ∧ cmpI (a.drop k) (b.drop k) = cmpI a b := hk
  simp only [VC0, VC1, VC2, VC3, VC4, VC5, VC6, VC7, VC8, VC9, reduceIte, reduceCtorEq, Nat.reduceEqDiff, Nat.reduceAdd, Nat.reduceMul, Nat.reduceBEq, Nat.reduceLT, Nat.reduceLeDiff, Int.reduceEq, Int.reduceLT, Int.reduceLE, Int.reduceNeg, Int.reduceToNat, Int.reduceAdd, Nat.reduceDiv, Nat.reduceSub, Nat.reduceMod, encL, lk_len, lk_ld, lk_set, lk_app, lk_imv, lk_snap, lk_sok, lk_one, lk_ldall, lk_setall, lk_mk, List.length_set, List.length_append, List.length_singleton, List.length_replicate, fold_or32, fold_xor32, fold_and32, fold_shl32, fold_shr32, fold_add32, fold_not32, sc_one, rv2, rv3, Option.bind_some, Option.map_some, Option.some.injEq, exists_eq_left', List.getElem?_cons_zero, List.getElem?_cons_succ, ld_0, ld_1, ld_2, sc_0, sc_1, sc_2, List.take_succ_cons, List.take_zero, List.all_cons, List.all_nil, List.map_cons, List.map_nil, Bool.and_true, Bool.true_and, flt_snap, flt_sok, flt_imv, flt_one, flt_eq, set_hs, ld_hs, sumS_len, lk_ints, setK_nil]
  refine condD_of (fun h => ?_) (fun h => ?_)
  · have hka : k < a.length := by omega
    have hkb : k < b.length := by omega
    have i1 : 0 ≤ (k : Int) ∧ (k : Int) < 32 := by omega
    have i2 : InI64 ((k : Int) + 1) := by unfold InI64; omega
    rw [cmpI_drop hka hkb] at he
    simp only [VC0, VC1, VC2, VC3, VC4, VC5, VC6, VC7, VC8, VC9, reduceIte, reduceCtorEq, Nat.reduceEqDiff, Nat.reduceAdd, Nat.reduceMul, Nat.reduceBEq, Nat.reduceLT, Nat.reduceLeDiff, Int.reduceEq, Int.reduceLT, Int.reduceLE, Int.reduceNeg, Int.reduceToNat, Int.reduceAdd, Nat.reduceDiv, Nat.reduceSub, Nat.reduceMod, encL, lk_len, lk_ld, lk_set, lk_app, lk_imv, lk_snap, lk_sok, lk_one, lk_ldall, lk_setall, lk_mk, List.length_set, List.length_append, List.length_singleton, List.length_replicate, fold_or32, fold_xor32, fold_and32, fold_shl32, fold_shr32, fold_add32, fold_not32, sc_one, rv2, rv3, Option.bind_some, Option.map_some, Option.some.injEq, exists_eq_left', List.getElem?_cons_zero, List.getElem?_cons_succ, ld_0, ld_1, ld_2, sc_0, sc_1, sc_2, List.take_succ_cons, List.take_zero, List.all_cons, List.all_nil, List.map_cons, List.map_nil, Bool.and_true, Bool.true_and, flt_snap, flt_sok, flt_imv, flt_one, flt_eq, set_hs, ld_hs, sumS_len, lk_ints, setK_nil, i1, lk_ld hka, lk_ld hkb]
    cases b3 : decide (a.getD k 0 = b.getD k 0) <;> simp only [VC0, VC1, VC2, VC3, VC4, VC5, VC6, VC7, VC8, VC9, reduceIte, reduceCtorEq, Nat.reduceEqDiff, Nat.reduceAdd, Nat.reduceMul, Nat.reduceBEq, Nat.reduceLT, Nat.reduceLeDiff, Int.reduceEq, Int.reduceLT, Int.reduceLE, Int.reduceNeg, Int.reduceToNat, Int.reduceAdd, Nat.reduceDiv, Nat.reduceSub, Nat.reduceMod, encL, lk_len, lk_ld, lk_set, lk_app, lk_imv, lk_snap, lk_sok, lk_one, lk_ldall, lk_setall, lk_mk, List.length_set, List.length_append, List.length_singleton, List.length_replicate, fold_or32, fold_xor32, fold_and32, fold_shl32, fold_shr32, fold_add32, fold_not32, sc_one, rv2, rv3, Option.bind_some, Option.map_some, Option.some.injEq, exists_eq_left', List.getElem?_cons_zero, List.getElem?_cons_succ, ld_0, ld_1, ld_2, sc_0, sc_1, sc_2, List.take_succ_cons, List.take_zero, List.all_cons, List.all_nil, List.map_cons, List.map_nil, Bool.and_true, Bool.true_and, flt_snap, flt_sok, flt_imv, flt_one, flt_eq, set_hs, ld_hs, sumS_len, lk_ints, setK_nil, b3, i1, i2, lk_ld hka, lk_ld hkb]
    · have hne : ¬ a.getD k 0 = b.getD k 0 := of_decide_eq_false b3
      rw [← he]
      by_cases h1 : a.getD k 0 < b.getD k 0
      · rw [if_pos h1, decide_eq_true h1]; rfl
      · have h2 : b.getD k 0 < a.getD k 0 := by omega
        rw [if_neg h1, if_pos h2, decide_eq_false h1]; rfl
    · have he2 : a.getD k 0 = b.getD k 0 := of_decide_eq_true b3
      rw [if_neg (by omega), if_neg (by omega)] at he
      exact backTo_of (k + 1, _) ⟨by omega, he⟩ (by simp only []; omega) (ent_of _ [] rfl rfl (by simp only [VC0, VC1, VC2, VC3, VC4, VC5, VC6, VC7, VC8, VC9, reduceIte, reduceCtorEq, Nat.reduceEqDiff, Nat.reduceAdd, Nat.reduceMul, Nat.reduceBEq, Nat.reduceLT, Nat.reduceLeDiff, Int.reduceEq, Int.reduceLT, Int.reduceLE, Int.reduceNeg, Int.reduceToNat, Int.reduceAdd, Nat.reduceDiv, Nat.reduceSub, Nat.reduceMod, encL, lk_len, lk_ld, lk_set, lk_app, lk_imv, lk_snap, lk_sok, lk_one, lk_ldall, lk_setall, lk_mk, List.length_set, List.length_append, List.length_singleton, List.length_replicate, fold_or32, fold_xor32, fold_and32, fold_shl32, fold_shr32, fold_add32, fold_not32, sc_one, rv2, rv3, Option.bind_some, Option.map_some, Option.some.injEq, exists_eq_left', List.getElem?_cons_zero, List.getElem?_cons_succ, ld_0, ld_1, ld_2, sc_0, sc_1, sc_2, List.take_succ_cons, List.take_zero, List.all_cons, List.all_nil, List.map_cons, List.map_nil, Bool.and_true, Bool.true_and, flt_snap, flt_sok, flt_imv, flt_one, flt_eq, set_hs, ld_hs, sumS_len, lk_ints, setK_nil]))
  · have hk' : k = 32 := by omega
    subst hk'
    rw [List.drop_of_length_le (by omega), List.drop_of_length_le (by omega)] at he
    simp only [VC0, VC1, VC2, VC3, VC4, VC5, VC6, VC7, VC8, VC9, reduceIte, reduceCtorEq, Nat.reduceEqDiff, Nat.reduceAdd, Nat.reduceMul, Nat.reduceBEq, Nat.reduceLT, Nat.reduceLeDiff, Int.reduceEq, Int.reduceLT, Int.reduceLE, Int.reduceNeg, Int.reduceToNat, Int.reduceAdd, Nat.reduceDiv, Nat.reduceSub, Nat.reduceMod, encL, lk_len, lk_ld, lk_set, lk_app, lk_imv, lk_snap, lk_sok, lk_one, lk_ldall, lk_setall, lk_mk, List.length_set, List.length_append, List.length_singleton, List.length_replicate, fold_or32, fold_xor32, fold_and32, fold_shl32, fold_shr32, fold_add32, fold_not32, sc_one, rv2, rv3, Option.bind_some, Option.map_some, Option.some.injEq, exists_eq_left', List.getElem?_cons_zero, List.getElem?_cons_succ, ld_0, ld_1, ld_2, sc_0, sc_1, sc_2, List.take_succ_cons, List.take_zero, List.all_cons, List.all_nil, List.map_cons, List.map_nil, Bool.and_true, Bool.true_and, flt_snap, flt_sok, flt_imv, flt_one, flt_eq, set_hs, ld_hs, sumS_len, lk_ints, setK_nil, ← he]
    rfl
end Go.Proofs.Ythpffaofpcikiaa

set_option linter.unusedSimpArgs false
set_option linter.unusedVariables false
namespace Go.Proofs.Ythpffaofpcikiaa
open Go Go.Lg Go.RowKit
set_option linter.unusedVariables false
set_option linter.unusedSimpArgs false

theorem hc_snap (H : Heap) (d : Nat) (x : HS) : x.cells.map (snap H (d + 1)) = x.cells := by rw [HS.cells, lk_snap]
theorem hc_sok (H : Heap) (d : Nat) (x : HS) : x.cells.all (sok H (d + 1)) = true := by rw [HS.cells, lk_sok]
theorem lk_tk {q : IntKind} (b : List Int) : (b.flatMap (cK q)).take b.length = b.flatMap (cK q) := List.take_of_length_le (by rw [lk_len]; exact Nat.le_refl _)
set_option maxHeartbeats 1000000 in
theorem casOrder_ret (L : List (List Int)) (hn : L.length ≤ maxLen) (hL : ∀ b ∈ L, b.length ≤ maxLen ∧ isBy b) : PRet Try.prog 6 [encL cBs L] (.bool true) := by
  rw [maxLen_eq] at hn hL
  refine pret_intro fd6 (by simp) ?_
  simp only [lc6, VC0, VC1, VC2, VC3, VC4, VC5, VC6, VC7, VC8, VC9, reduceIte, reduceCtorEq, Nat.reduceEqDiff, Nat.reduceAdd, Nat.reduceMul, Nat.reduceBEq, Nat.reduceLT, Nat.reduceLeDiff, Int.reduceEq, Int.reduceLT, Int.reduceLE, Int.reduceNeg, Int.reduceToNat, Int.reduceAdd, Nat.reduceDiv, Nat.reduceSub, Nat.reduceMod, encL, lk_len, lk_ld, lk_set, lk_app, lk_imv, lk_snap, lk_sok, lk_one, lk_ldall, lk_setall, lk_mk, List.length_set, List.length_append, List.length_singleton, List.length_replicate, fold_or32, fold_xor32, fold_and32, fold_shl32, fold_shr32, fold_add32, fold_not32, sc_one, rv2, rv3, Option.bind_some, Option.map_some, Option.some.injEq, exists_eq_left', List.getElem?_cons_zero, List.getElem?_cons_succ, ld_0, ld_1, ld_2, sc_0, sc_1, sc_2, List.take_succ_cons, List.take_zero, List.all_cons, List.all_nil, List.map_cons, List.map_nil, Bool.and_true, Bool.true_and, flt_snap, flt_sok, flt_imv, flt_one, flt_eq, set_hs, ld_hs, sumS_len, lk_ints, setK_nil]
  refine join_vcg (ι := Nat → Nat) (fun c => stO [(0, .val (encL cBs (L.take 16)))] c) (fun _ => True) ?_ ?_
  · cases h16 : decide ((16 : Int) < L.length) <;> simp only [VC0, VC1, VC2, VC3, VC4, VC5, VC6, VC7, VC8, VC9, reduceIte, reduceCtorEq, Nat.reduceEqDiff, Nat.reduceAdd, Nat.reduceMul, Nat.reduceBEq, Nat.reduceLT, Nat.reduceLeDiff, Int.reduceEq, Int.reduceLT, Int.reduceLE, Int.reduceNeg, Int.reduceToNat, Int.reduceAdd, Nat.reduceDiv, Nat.reduceSub, Nat.reduceMod, encL, lk_len, lk_ld, lk_set, lk_app, lk_imv, lk_snap, lk_sok, lk_one, lk_ldall, lk_setall, lk_mk, List.length_set, List.length_append, List.length_singleton, List.length_replicate, fold_or32, fold_xor32, fold_and32, fold_shl32, fold_shr32, fold_add32, fold_not32, sc_one, rv2, rv3, Option.bind_some, Option.map_some, Option.some.injEq, exists_eq_left', List.getElem?_cons_zero, List.getElem?_cons_succ, ld_0, ld_1, ld_2, sc_0, sc_1, sc_2, List.take_succ_cons, List.take_zero, List.all_cons, List.all_nil, List.map_cons, List.map_nil, Bool.and_true, Bool.true_and, flt_snap, flt_sok, flt_imv, flt_one, flt_eq, set_hs, ld_hs, sumS_len, lk_ints, setK_nil, h16]
    · have : L.take 16 = L := List.take_of_length_le (by simp at h16; omega)
      exact joinTo_of _ trivial (ent_of _ [] rfl rfl (by simp only [VC0, VC1, VC2, VC3, VC4, VC5, VC6, VC7, VC8, VC9, reduceIte, reduceCtorEq, Nat.reduceEqDiff, Nat.reduceAdd, Nat.reduceMul, Nat.reduceBEq, Nat.reduceLT, Nat.reduceLeDiff, Int.reduceEq, Int.reduceLT, Int.reduceLE, Int.reduceNeg, Int.reduceToNat, Int.reduceAdd, Nat.reduceDiv, Nat.reduceSub, Nat.reduceMod, encL, lk_len, lk_ld, lk_set, lk_app, lk_imv, lk_snap, lk_sok, lk_one, lk_ldall, lk_setall, lk_mk, List.length_set, List.length_append, List.length_singleton, List.length_replicate, fold_or32, fold_xor32, fold_and32, fold_shl32, fold_shr32, fold_add32, fold_not32, sc_one, rv2, rv3, Option.bind_some, Option.map_some, Option.some.injEq, exists_eq_left', List.getElem?_cons_zero, List.getElem?_cons_succ, ld_0, ld_1, ld_2, sc_0, sc_1, sc_2, List.take_succ_cons, List.take_zero, List.all_cons, List.all_nil, List.map_cons, List.map_nil, Bool.and_true, Bool.true_and, flt_snap, flt_sok, flt_imv, flt_one, flt_eq, set_hs, ld_hs, sumS_len, lk_ints, setK_nil, bs_imv, this]))
    · have h1 : (16 : Int) ≤ L.length ∧ 16 ≤ L.length := by simp at h16; omega
      have h2 : (L.take 16).length = 16 := by simp; omega
      simp only [VC0, VC1, VC2, VC3, VC4, VC5, VC6, VC7, VC8, VC9, reduceIte, reduceCtorEq, Nat.reduceEqDiff, Nat.reduceAdd, Nat.reduceMul, Nat.reduceBEq, Nat.reduceLT, Nat.reduceLeDiff, Int.reduceEq, Int.reduceLT, Int.reduceLE, Int.reduceNeg, Int.reduceToNat, Int.reduceAdd, Nat.reduceDiv, Nat.reduceSub, Nat.reduceMod, encL, lk_len, lk_ld, lk_set, lk_app, lk_imv, lk_snap, lk_sok, lk_one, lk_ldall, lk_setall, lk_mk, List.length_set, List.length_append, List.length_singleton, List.length_replicate, fold_or32, fold_xor32, fold_and32, fold_shl32, fold_shr32, fold_add32, fold_not32, sc_one, rv2, rv3, Option.bind_some, Option.map_some, Option.some.injEq, exists_eq_left', List.getElem?_cons_zero, List.getElem?_cons_succ, ld_0, ld_1, ld_2, sc_0, sc_1, sc_2, List.take_succ_cons, List.take_zero, List.all_cons, List.all_nil, List.map_cons, List.map_nil, Bool.and_true, Bool.true_and, flt_snap, flt_sok, flt_imv, flt_one, flt_eq, set_hs, ld_hs, sumS_len, lk_ints, setK_nil, h1, bs_len, bs_take]
      exact joinTo_of _ trivial (ent_of _ [] rfl rfl (by simp only [VC0, VC1, VC2, VC3, VC4, VC5, VC6, VC7, VC8, VC9, reduceIte, reduceCtorEq, Nat.reduceEqDiff, Nat.reduceAdd, Nat.reduceMul, Nat.reduceBEq, Nat.reduceLT, Nat.reduceLeDiff, Int.reduceEq, Int.reduceLT, Int.reduceLE, Int.reduceNeg, Int.reduceToNat, Int.reduceAdd, Nat.reduceDiv, Nat.reduceSub, Nat.reduceMod, encL, lk_len, lk_ld, lk_set, lk_app, lk_imv, lk_snap, lk_sok, lk_one, lk_ldall, lk_setall, lk_mk, List.length_set, List.length_append, List.length_singleton, List.length_replicate, fold_or32, fold_xor32, fold_and32, fold_shl32, fold_shr32, fold_add32, fold_not32, sc_one, rv2, rv3, Option.bind_some, Option.map_some, Option.some.injEq, exists_eq_left', List.getElem?_cons_zero, List.getElem?_cons_succ, ld_0, ld_1, ld_2, sc_0, sc_1, sc_2, List.take_succ_cons, List.take_zero, List.all_cons, List.all_nil, List.map_cons, List.map_nil, Bool.and_true, Bool.true_and, flt_snap, flt_sok, flt_imv, flt_one, flt_eq, set_hs, ld_hs, sumS_len, lk_ints, setK_nil, bs_imv, h2]))
  rintro c _
  have hM : (L.take 16).length ≤ 16 := by simp; omega
  have hMb : ∀ b ∈ L.take 16, isBy b := fun b hb => (hL b (List.mem_of_mem_take hb)).2
  generalize L.take 16 = M at hM hMb
  have mem : ∀ {k : Nat}, k < M.length → M.getD k [] ∈ M := fun h => by rw [List.getD_eq_getElem?_getD, List.getElem?_eq_getElem h]; exact List.getElem_mem h
  have hby : ∀ {k : Nat}, k < M.length → isBy (M.getD k []) := fun h => hMb _ (mem h)
  simp only [VC0, VC1, VC2, VC3, VC4, VC5, VC6, VC7, VC8, VC9, reduceIte, reduceCtorEq, Nat.reduceEqDiff, Nat.reduceAdd, Nat.reduceMul, Nat.reduceBEq, Nat.reduceLT, Nat.reduceLeDiff, Int.reduceEq, Int.reduceLT, Int.reduceLE, Int.reduceNeg, Int.reduceToNat, Int.reduceAdd, Nat.reduceDiv, Nat.reduceSub, Nat.reduceMod, encL, lk_len, lk_ld, lk_set, lk_app, lk_imv, lk_snap, lk_sok, lk_one, lk_ldall, lk_setall, lk_mk, List.length_set, List.length_append, List.length_singleton, List.length_replicate, fold_or32, fold_xor32, fold_and32, fold_shl32, fold_shr32, fold_add32, fold_not32, sc_one, rv2, rv3, Option.bind_some, Option.map_some, Option.some.injEq, exists_eq_left', List.getElem?_cons_zero, List.getElem?_cons_succ, ld_0, ld_1, ld_2, sc_0, sc_1, sc_2, List.take_succ_cons, List.take_zero, List.all_cons, List.all_nil, List.map_cons, List.map_nil, Bool.and_true, Bool.true_and, flt_snap, flt_sok, flt_imv, flt_one, flt_eq, set_hs, ld_hs, sumS_len, lk_ints, setK_nil, bs_imv]
  refine loop_vcg (ι := Nat × (Nat → Nat)) (fun (k, c) => stO [(0, .val (encL cBs M)), (3, .val (.int .i64 k))] c)
    (fun (k, _) => k ≤ M.length ∧ Apart M k) (fun (k, _) => M.length - k) (0, _) ⟨Nat.zero_le _, Apart.zero M⟩ (ent_of _ [] rfl rfl (by simp only [VC0, VC1, VC2, VC3, VC4, VC5, VC6, VC7, VC8, VC9, reduceIte, reduceCtorEq, Nat.reduceEqDiff, Nat.reduceAdd, Nat.reduceMul, Nat.reduceBEq, Nat.reduceLT, Nat.reduceLeDiff, Int.reduceEq, Int.reduceLT, Int.reduceLE, Int.reduceNeg, Int.reduceToNat, Int.reduceAdd, Nat.reduceDiv, Nat.reduceSub, Nat.reduceMod, encL, lk_len, lk_ld, lk_set, lk_app, lk_imv, lk_snap, lk_sok, lk_one, lk_ldall, lk_setall, lk_mk, List.length_set, List.length_append, List.length_singleton, List.length_replicate, fold_or32, fold_xor32, fold_and32, fold_shl32, fold_shr32, fold_add32, fold_not32, sc_one, rv2, rv3, Option.bind_some, Option.map_some, Option.some.injEq, exists_eq_left', List.getElem?_cons_zero, List.getElem?_cons_succ, ld_0, ld_1, ld_2, sc_0, sc_1, sc_2, List.take_succ_cons, List.take_zero, List.all_cons, List.all_nil, List.map_cons, List.map_nil, Bool.and_true, Bool.true_and, flt_snap, flt_sok, flt_imv, flt_one, flt_eq, set_hs, ld_hs, sumS_len, lk_ints, setK_nil, bs_imv])) ?_
  rintro ⟨i, c⟩ hi
  obtain ⟨hi, inv⟩ : i ≤ M.length ∧ Apart M i := hi
  simp only [VC0, VC1, VC2, VC3, VC4, VC5, VC6, VC7, VC8, VC9, reduceIte, reduceCtorEq, Nat.reduceEqDiff, Nat.reduceAdd, Nat.reduceMul, Nat.reduceBEq, Nat.reduceLT, Nat.reduceLeDiff, Int.reduceEq, Int.reduceLT, Int.reduceLE, Int.reduceNeg, Int.reduceToNat, Int.reduceAdd, Nat.reduceDiv, Nat.reduceSub, Nat.reduceMod, encL, lk_len, lk_ld, lk_set, lk_app, lk_imv, lk_snap, lk_sok, lk_one, lk_ldall, lk_setall, lk_mk, List.length_set, List.length_append, List.length_singleton, List.length_replicate, fold_or32, fold_xor32, fold_and32, fold_shl32, fold_shr32, fold_add32, fold_not32, sc_one, rv2, rv3, Option.bind_some, Option.map_some, Option.some.injEq, exists_eq_left', List.getElem?_cons_zero, List.getElem?_cons_succ, ld_0, ld_1, ld_2, sc_0, sc_1, sc_2, List.take_succ_cons, List.take_zero, List.all_cons, List.all_nil, List.map_cons, List.map_nil, Bool.and_true, Bool.true_and, flt_snap, flt_sok, flt_imv, flt_one, flt_eq, set_hs, ld_hs, sumS_len, lk_ints, setK_nil, bs_imv]
  refine condD_of (fun h => ?_) (fun h => ?_)
  · have hil : i < M.length := by omega
    have i1 : 0 ≤ (i : Int) ∧ (i : Int) < M.length := by omega
    have i2 : InI64 ((i : Int) + 1) := by unfold InI64; omega
    simp only [VC0, VC1, VC2, VC3, VC4, VC5, VC6, VC7, VC8, VC9, reduceIte, reduceCtorEq, Nat.reduceEqDiff, Nat.reduceAdd, Nat.reduceMul, Nat.reduceBEq, Nat.reduceLT, Nat.reduceLeDiff, Int.reduceEq, Int.reduceLT, Int.reduceLE, Int.reduceNeg, Int.reduceToNat, Int.reduceAdd, Nat.reduceDiv, Nat.reduceSub, Nat.reduceMod, encL, lk_len, lk_ld, lk_set, lk_app, lk_imv, lk_snap, lk_sok, lk_one, lk_ldall, lk_setall, lk_mk, List.length_set, List.length_append, List.length_singleton, List.length_replicate, fold_or32, fold_xor32, fold_and32, fold_shl32, fold_shr32, fold_add32, fold_not32, sc_one, rv2, rv3, Option.bind_some, Option.map_some, Option.some.injEq, exists_eq_left', List.getElem?_cons_zero, List.getElem?_cons_succ, ld_0, ld_1, ld_2, sc_0, sc_1, sc_2, List.take_succ_cons, List.take_zero, List.all_cons, List.all_nil, List.map_cons, List.map_nil, Bool.and_true, Bool.true_and, flt_snap, flt_sok, flt_imv, flt_one, flt_eq, set_hs, ld_hs, sumS_len, lk_ints, setK_nil, bs_ld hil, i1, bs_imv]
    cases c3 : decide ((200 : Int) < (M.getD i []).length) <;> simp only [VC0, VC1, VC2, VC3, VC4, VC5, VC6, VC7, VC8, VC9, reduceIte, reduceCtorEq, Nat.reduceEqDiff, Nat.reduceAdd, Nat.reduceMul, Nat.reduceBEq, Nat.reduceLT, Nat.reduceLeDiff, Int.reduceEq, Int.reduceLT, Int.reduceLE, Int.reduceNeg, Int.reduceToNat, Int.reduceAdd, Nat.reduceDiv, Nat.reduceSub, Nat.reduceMod, encL, lk_len, lk_ld, lk_set, lk_app, lk_imv, lk_snap, lk_sok, lk_one, lk_ldall, lk_setall, lk_mk, List.length_set, List.length_append, List.length_singleton, List.length_replicate, fold_or32, fold_xor32, fold_and32, fold_shl32, fold_shr32, fold_add32, fold_not32, sc_one, rv2, rv3, Option.bind_some, Option.map_some, Option.some.injEq, exists_eq_left', List.getElem?_cons_zero, List.getElem?_cons_succ, ld_0, ld_1, ld_2, sc_0, sc_1, sc_2, List.take_succ_cons, List.take_zero, List.all_cons, List.all_nil, List.map_cons, List.map_nil, Bool.and_true, Bool.true_and, flt_snap, flt_sok, flt_imv, flt_one, flt_eq, set_hs, ld_hs, sumS_len, lk_ints, setK_nil, c3]
    case true =>
      refine callX_of told_ret (.inl rfl) ?_
      simp only [VC0, VC1, VC2, VC3, VC4, VC5, VC6, VC7, VC8, VC9, reduceIte, reduceCtorEq, Nat.reduceEqDiff, Nat.reduceAdd, Nat.reduceMul, Nat.reduceBEq, Nat.reduceLT, Nat.reduceLeDiff, Int.reduceEq, Int.reduceLT, Int.reduceLE, Int.reduceNeg, Int.reduceToNat, Int.reduceAdd, Nat.reduceDiv, Nat.reduceSub, Nat.reduceMod, encL, lk_len, lk_ld, lk_set, lk_app, lk_imv, lk_snap, lk_sok, lk_one, lk_ldall, lk_setall, lk_mk, List.length_set, List.length_append, List.length_singleton, List.length_replicate, fold_or32, fold_xor32, fold_and32, fold_shl32, fold_shr32, fold_add32, fold_not32, sc_one, rv2, rv3, Option.bind_some, Option.map_some, Option.some.injEq, exists_eq_left', List.getElem?_cons_zero, List.getElem?_cons_succ, ld_0, ld_1, ld_2, sc_0, sc_1, sc_2, List.take_succ_cons, List.take_zero, List.all_cons, List.all_nil, List.map_cons, List.map_nil, Bool.and_true, Bool.true_and, flt_snap, flt_sok, flt_imv, flt_one, flt_eq, set_hs, ld_hs, sumS_len, lk_ints, setK_nil]
    have hlen : (M.getD i []).length ≤ 200 := by have := of_decide_eq_false c3; omega
    refine loop_vcg (ι := Nat × (Nat → Nat)) (fun (k, c) => stO [(0, .val (encL cBs M)), (3, .val (.int .i64 i)), (4, .val (.int .i64 k))] c)
      (fun (k, _) => k ≤ i ∧ ∀ j, j < k → M.getD i [] = M.getD j [] ∨ sumS (M.getD i []) ≠ sumS (M.getD j [])) (fun (k, _) => i - k) (0, _) ⟨Nat.zero_le _, fun j h => by omega⟩ (ent_of _ [] rfl rfl (by simp only [VC0, VC1, VC2, VC3, VC4, VC5, VC6, VC7, VC8, VC9, reduceIte, reduceCtorEq, Nat.reduceEqDiff, Nat.reduceAdd, Nat.reduceMul, Nat.reduceBEq, Nat.reduceLT, Nat.reduceLeDiff, Int.reduceEq, Int.reduceLT, Int.reduceLE, Int.reduceNeg, Int.reduceToNat, Int.reduceAdd, Nat.reduceDiv, Nat.reduceSub, Nat.reduceMod, encL, lk_len, lk_ld, lk_set, lk_app, lk_imv, lk_snap, lk_sok, lk_one, lk_ldall, lk_setall, lk_mk, List.length_set, List.length_append, List.length_singleton, List.length_replicate, fold_or32, fold_xor32, fold_and32, fold_shl32, fold_shr32, fold_add32, fold_not32, sc_one, rv2, rv3, Option.bind_some, Option.map_some, Option.some.injEq, exists_eq_left', List.getElem?_cons_zero, List.getElem?_cons_succ, ld_0, ld_1, ld_2, sc_0, sc_1, sc_2, List.take_succ_cons, List.take_zero, List.all_cons, List.all_nil, List.map_cons, List.map_nil, Bool.and_true, Bool.true_and, flt_snap, flt_sok, flt_imv, flt_one, flt_eq, set_hs, ld_hs, sumS_len, lk_ints, setK_nil, bs_imv])) ?_
    rintro ⟨k, c⟩ hk
    obtain ⟨hk, hne⟩ : k ≤ i ∧ ∀ j, j < k → M.getD i [] = M.getD j [] ∨ sumS (M.getD i []) ≠ sumS (M.getD j []) := hk
    simp only [VC0, VC1, VC2, VC3, VC4, VC5, VC6, VC7, VC8, VC9, reduceIte, reduceCtorEq, Nat.reduceEqDiff, Nat.reduceAdd, Nat.reduceMul, Nat.reduceBEq, Nat.reduceLT, Nat.reduceLeDiff, Int.reduceEq, Int.reduceLT, Int.reduceLE, Int.reduceNeg, Int.reduceToNat, Int.reduceAdd, Nat.reduceDiv, Nat.reduceSub, Nat.reduceMod, encL, lk_len, lk_ld, lk_set, lk_app, lk_imv, lk_snap, lk_sok, lk_one, lk_ldall, lk_setall, lk_mk, List.length_set, List.length_append, List.length_singleton, List.length_replicate, fold_or32, fold_xor32, fold_and32, fold_shl32, fold_shr32, fold_add32, fold_not32, sc_one, rv2, rv3, Option.bind_some, Option.map_some, Option.some.injEq, exists_eq_left', List.getElem?_cons_zero, List.getElem?_cons_succ, ld_0, ld_1, ld_2, sc_0, sc_1, sc_2, List.take_succ_cons, List.take_zero, List.all_cons, List.all_nil, List.map_cons, List.map_nil, Bool.and_true, Bool.true_and, flt_snap, flt_sok, flt_imv, flt_one, flt_eq, set_hs, ld_hs, sumS_len, lk_ints, setK_nil, bs_imv]
    refine condD_of (fun h => ?_) (fun h => ?_)
    · have hk' : k < i := by omega
      have hkl : k < M.length := by omega
      have j1 : 0 ≤ (k : Int) ∧ (k : Int) < M.length := by omega
      have j2 : InI64 ((k : Int) + 1) := by unfold InI64; omega
      have s1 := rsum_ret (M.getD i []) (by omega) (hby hil)
      have s2 := rsum_ret (M.getD k []) (by have := inv.short k hk'; omega) (hby hkl)
      simp only [VC0, VC1, VC2, VC3, VC4, VC5, VC6, VC7, VC8, VC9, reduceIte, reduceCtorEq, Nat.reduceEqDiff, Nat.reduceAdd, Nat.reduceMul, Nat.reduceBEq, Nat.reduceLT, Nat.reduceLeDiff, Int.reduceEq, Int.reduceLT, Int.reduceLE, Int.reduceNeg, Int.reduceToNat, Int.reduceAdd, Nat.reduceDiv, Nat.reduceSub, Nat.reduceMod, encL, lk_len, lk_ld, lk_set, lk_app, lk_imv, lk_snap, lk_sok, lk_one, lk_ldall, lk_setall, lk_mk, List.length_set, List.length_append, List.length_singleton, List.length_replicate, fold_or32, fold_xor32, fold_and32, fold_shl32, fold_shr32, fold_add32, fold_not32, sc_one, rv2, rv3, Option.bind_some, Option.map_some, Option.some.injEq, exists_eq_left', List.getElem?_cons_zero, List.getElem?_cons_succ, ld_0, ld_1, ld_2, sc_0, sc_1, sc_2, List.take_succ_cons, List.take_zero, List.all_cons, List.all_nil, List.map_cons, List.map_nil, Bool.and_true, Bool.true_and, flt_snap, flt_sok, flt_imv, flt_one, flt_eq, set_hs, ld_hs, sumS_len, lk_ints, setK_nil, bs_imv, bs_ld hil, bs_ld hkl, i1, j1, lk_ints, fold_bytS, bytS_eq (hby hil) (hby hkl), Nat.mul_one]
      cases b2 : decide (M.getD i [] = M.getD k []) <;> simp only [VC0, VC1, VC2, VC3, VC4, VC5, VC6, VC7, VC8, VC9, reduceIte, reduceCtorEq, Nat.reduceEqDiff, Nat.reduceAdd, Nat.reduceMul, Nat.reduceBEq, Nat.reduceLT, Nat.reduceLeDiff, Int.reduceEq, Int.reduceLT, Int.reduceLE, Int.reduceNeg, Int.reduceToNat, Int.reduceAdd, Nat.reduceDiv, Nat.reduceSub, Nat.reduceMod, encL, lk_len, lk_ld, lk_set, lk_app, lk_imv, lk_snap, lk_sok, lk_one, lk_ldall, lk_setall, lk_mk, List.length_set, List.length_append, List.length_singleton, List.length_replicate, fold_or32, fold_xor32, fold_and32, fold_shl32, fold_shr32, fold_add32, fold_not32, sc_one, rv2, rv3, Option.bind_some, Option.map_some, Option.some.injEq, exists_eq_left', List.getElem?_cons_zero, List.getElem?_cons_succ, ld_0, ld_1, ld_2, sc_0, sc_1, sc_2, List.take_succ_cons, List.take_zero, List.all_cons, List.all_nil, List.map_cons, List.map_nil, Bool.and_true, Bool.true_and, flt_snap, flt_sok, flt_imv, flt_one, flt_eq, set_hs, ld_hs, sumS_len, lk_ints, setK_nil, b2, bs_imv, bs_ld hil, bs_ld hkl, i1, j1, j2]
      · refine callV_of s1 (.inr (lk_flat 3 _)) ?_
        simp only [VC0, VC1, VC2, VC3, VC4, VC5, VC6, VC7, VC8, VC9, reduceIte, reduceCtorEq, Nat.reduceEqDiff, Nat.reduceAdd, Nat.reduceMul, Nat.reduceBEq, Nat.reduceLT, Nat.reduceLeDiff, Int.reduceEq, Int.reduceLT, Int.reduceLE, Int.reduceNeg, Int.reduceToNat, Int.reduceAdd, Nat.reduceDiv, Nat.reduceSub, Nat.reduceMod, encL, lk_len, lk_ld, lk_set, lk_app, lk_imv, lk_snap, lk_sok, lk_one, lk_ldall, lk_setall, lk_mk, List.length_set, List.length_append, List.length_singleton, List.length_replicate, fold_or32, fold_xor32, fold_and32, fold_shl32, fold_shr32, fold_add32, fold_not32, sc_one, rv2, rv3, Option.bind_some, Option.map_some, Option.some.injEq, exists_eq_left', List.getElem?_cons_zero, List.getElem?_cons_succ, ld_0, ld_1, ld_2, sc_0, sc_1, sc_2, List.take_succ_cons, List.take_zero, List.all_cons, List.all_nil, List.map_cons, List.map_nil, Bool.and_true, Bool.true_and, flt_snap, flt_sok, flt_imv, flt_one, flt_eq, set_hs, ld_hs, sumS_len, lk_ints, setK_nil, b2, bs_imv, bs_ld hil, bs_ld hkl, i1, j1, j2]
        refine callV_of s2 (.inr (lk_flat 3 _)) ?_
        simp only [VC0, VC1, VC2, VC3, VC4, VC5, VC6, VC7, VC8, VC9, reduceIte, reduceCtorEq, Nat.reduceEqDiff, Nat.reduceAdd, Nat.reduceMul, Nat.reduceBEq, Nat.reduceLT, Nat.reduceLeDiff, Int.reduceEq, Int.reduceLT, Int.reduceLE, Int.reduceNeg, Int.reduceToNat, Int.reduceAdd, Nat.reduceDiv, Nat.reduceSub, Nat.reduceMod, encL, lk_len, lk_ld, lk_set, lk_app, lk_imv, lk_snap, lk_sok, lk_one, lk_ldall, lk_setall, lk_mk, List.length_set, List.length_append, List.length_singleton, List.length_replicate, fold_or32, fold_xor32, fold_and32, fold_shl32, fold_shr32, fold_add32, fold_not32, sc_one, rv2, rv3, Option.bind_some, Option.map_some, Option.some.injEq, exists_eq_left', List.getElem?_cons_zero, List.getElem?_cons_succ, ld_0, ld_1, ld_2, sc_0, sc_1, sc_2, List.take_succ_cons, List.take_zero, List.all_cons, List.all_nil, List.map_cons, List.map_nil, Bool.and_true, Bool.true_and, flt_snap, flt_sok, flt_imv, flt_one, flt_eq, set_hs, ld_hs, sumS_len, lk_ints, setK_nil, b2, bs_imv, lk_eq, sumS_len, lk_ints]
        cases b1 : decide (sumS (M.getD i []) = sumS (M.getD k [])) <;> simp only [VC0, VC1, VC2, VC3, VC4, VC5, VC6, VC7, VC8, VC9, reduceIte, reduceCtorEq, Nat.reduceEqDiff, Nat.reduceAdd, Nat.reduceMul, Nat.reduceBEq, Nat.reduceLT, Nat.reduceLeDiff, Int.reduceEq, Int.reduceLT, Int.reduceLE, Int.reduceNeg, Int.reduceToNat, Int.reduceAdd, Nat.reduceDiv, Nat.reduceSub, Nat.reduceMod, encL, lk_len, lk_ld, lk_set, lk_app, lk_imv, lk_snap, lk_sok, lk_one, lk_ldall, lk_setall, lk_mk, List.length_set, List.length_append, List.length_singleton, List.length_replicate, fold_or32, fold_xor32, fold_and32, fold_shl32, fold_shr32, fold_add32, fold_not32, sc_one, rv2, rv3, Option.bind_some, Option.map_some, Option.some.injEq, exists_eq_left', List.getElem?_cons_zero, List.getElem?_cons_succ, ld_0, ld_1, ld_2, sc_0, sc_1, sc_2, List.take_succ_cons, List.take_zero, List.all_cons, List.all_nil, List.map_cons, List.map_nil, Bool.and_true, Bool.true_and, flt_snap, flt_sok, flt_imv, flt_one, flt_eq, set_hs, ld_hs, sumS_len, lk_ints, setK_nil, b1, bs_imv, j2]
        · refine backTo_of (k + 1, _) ⟨hk', fun j hj => ?_⟩ (by simp only []; omega) (ent_of _ [] rfl rfl (by simp only [VC0, VC1, VC2, VC3, VC4, VC5, VC6, VC7, VC8, VC9, reduceIte, reduceCtorEq, Nat.reduceEqDiff, Nat.reduceAdd, Nat.reduceMul, Nat.reduceBEq, Nat.reduceLT, Nat.reduceLeDiff, Int.reduceEq, Int.reduceLT, Int.reduceLE, Int.reduceNeg, Int.reduceToNat, Int.reduceAdd, Nat.reduceDiv, Nat.reduceSub, Nat.reduceMod, encL, lk_len, lk_ld, lk_set, lk_app, lk_imv, lk_snap, lk_sok, lk_one, lk_ldall, lk_setall, lk_mk, List.length_set, List.length_append, List.length_singleton, List.length_replicate, fold_or32, fold_xor32, fold_and32, fold_shl32, fold_shr32, fold_add32, fold_not32, sc_one, rv2, rv3, Option.bind_some, Option.map_some, Option.some.injEq, exists_eq_left', List.getElem?_cons_zero, List.getElem?_cons_succ, ld_0, ld_1, ld_2, sc_0, sc_1, sc_2, List.take_succ_cons, List.take_zero, List.all_cons, List.all_nil, List.map_cons, List.map_nil, Bool.and_true, Bool.true_and, flt_snap, flt_sok, flt_imv, flt_one, flt_eq, set_hs, ld_hs, sumS_len, lk_ints, setK_nil, bs_imv]))
          rcases Nat.lt_or_ge j k with h' | h'
          · exact hne j h'
          · obtain rfl : j = k := by simp only [] at hj; omega
            exact .inr (of_decide_eq_false b1)
        · refine callX_of told_ret (.inl rfl) ?_
          simp only [VC0, VC1, VC2, VC3, VC4, VC5, VC6, VC7, VC8, VC9, reduceIte, reduceCtorEq, Nat.reduceEqDiff, Nat.reduceAdd, Nat.reduceMul, Nat.reduceBEq, Nat.reduceLT, Nat.reduceLeDiff, Int.reduceEq, Int.reduceLT, Int.reduceLE, Int.reduceNeg, Int.reduceToNat, Int.reduceAdd, Nat.reduceDiv, Nat.reduceSub, Nat.reduceMod, encL, lk_len, lk_ld, lk_set, lk_app, lk_imv, lk_snap, lk_sok, lk_one, lk_ldall, lk_setall, lk_mk, List.length_set, List.length_append, List.length_singleton, List.length_replicate, fold_or32, fold_xor32, fold_and32, fold_shl32, fold_shr32, fold_add32, fold_not32, sc_one, rv2, rv3, Option.bind_some, Option.map_some, Option.some.injEq, exists_eq_left', List.getElem?_cons_zero, List.getElem?_cons_succ, ld_0, ld_1, ld_2, sc_0, sc_1, sc_2, List.take_succ_cons, List.take_zero, List.all_cons, List.all_nil, List.map_cons, List.map_nil, Bool.and_true, Bool.true_and, flt_snap, flt_sok, flt_imv, flt_one, flt_eq, set_hs, ld_hs, sumS_len, lk_ints, setK_nil]
      · refine backTo_of (k + 1, _) ⟨hk', fun j hj => ?_⟩ (by simp only []; omega) (ent_of _ [] rfl rfl (by simp only [VC0, VC1, VC2, VC3, VC4, VC5, VC6, VC7, VC8, VC9, reduceIte, reduceCtorEq, Nat.reduceEqDiff, Nat.reduceAdd, Nat.reduceMul, Nat.reduceBEq, Nat.reduceLT, Nat.reduceLeDiff, Int.reduceEq, Int.reduceLT, Int.reduceLE, Int.reduceNeg, Int.reduceToNat, Int.reduceAdd, Nat.reduceDiv, Nat.reduceSub, Nat.reduceMod, encL, lk_len, lk_ld, lk_set, lk_app, lk_imv, lk_snap, lk_sok, lk_one, lk_ldall, lk_setall, lk_mk, List.length_set, List.length_append, List.length_singleton, List.length_replicate, fold_or32, fold_xor32, fold_and32, fold_shl32, fold_shr32, fold_add32, fold_not32, sc_one, rv2, rv3, Option.bind_some, Option.map_some, Option.some.injEq, exists_eq_left', List.getElem?_cons_zero, List.getElem?_cons_succ, ld_0, ld_1, ld_2, sc_0, sc_1, sc_2, List.take_succ_cons, List.take_zero, List.all_cons, List.all_nil, List.map_cons, List.map_nil, Bool.and_true, Bool.true_and, flt_snap, flt_sok, flt_imv, flt_one, flt_eq, set_hs, ld_hs, sumS_len, lk_ints, setK_nil, bs_imv]))
        rcases Nat.lt_or_ge j k with h' | h'
        · exact hne j h'
        · obtain rfl : j = k := by simp only [] at hj; omega
          exact .inl (of_decide_eq_true b2)
    obtain rfl : i = k := by omega
    simp only [VC0, VC1, VC2, VC3, VC4, VC5, VC6, VC7, VC8, VC9, reduceIte, reduceCtorEq, Nat.reduceEqDiff, Nat.reduceAdd, Nat.reduceMul, Nat.reduceBEq, Nat.reduceLT, Nat.reduceLeDiff, Int.reduceEq, Int.reduceLT, Int.reduceLE, Int.reduceNeg, Int.reduceToNat, Int.reduceAdd, Nat.reduceDiv, Nat.reduceSub, Nat.reduceMod, encL, lk_len, lk_ld, lk_set, lk_app, lk_imv, lk_snap, lk_sok, lk_one, lk_ldall, lk_setall, lk_mk, List.length_set, List.length_append, List.length_singleton, List.length_replicate, fold_or32, fold_xor32, fold_and32, fold_shl32, fold_shr32, fold_add32, fold_not32, sc_one, rv2, rv3, Option.bind_some, Option.map_some, Option.some.injEq, exists_eq_left', List.getElem?_cons_zero, List.getElem?_cons_succ, ld_0, ld_1, ld_2, sc_0, sc_1, sc_2, List.take_succ_cons, List.take_zero, List.all_cons, List.all_nil, List.map_cons, List.map_nil, Bool.and_true, Bool.true_and, flt_snap, flt_sok, flt_imv, flt_one, flt_eq, set_hs, ld_hs, sumS_len, lk_ints, setK_nil, bs_imv, i2]
    exact backTo_of (i + 1, _) ⟨hil, inv.next hlen hne⟩ (by simp only []; omega) (ent_of _ [] rfl rfl (by simp only [VC0, VC1, VC2, VC3, VC4, VC5, VC6, VC7, VC8, VC9, reduceIte, reduceCtorEq, Nat.reduceEqDiff, Nat.reduceAdd, Nat.reduceMul, Nat.reduceBEq, Nat.reduceLT, Nat.reduceLeDiff, Int.reduceEq, Int.reduceLT, Int.reduceLE, Int.reduceNeg, Int.reduceToNat, Int.reduceAdd, Nat.reduceDiv, Nat.reduceSub, Nat.reduceMod, encL, lk_len, lk_ld, lk_set, lk_app, lk_imv, lk_snap, lk_sok, lk_one, lk_ldall, lk_setall, lk_mk, List.length_set, List.length_append, List.length_singleton, List.length_replicate, fold_or32, fold_xor32, fold_and32, fold_shl32, fold_shr32, fold_add32, fold_not32, sc_one, rv2, rv3, Option.bind_some, Option.map_some, Option.some.injEq, exists_eq_left', List.getElem?_cons_zero, List.getElem?_cons_succ, ld_0, ld_1, ld_2, sc_0, sc_1, sc_2, List.take_succ_cons, List.take_zero, List.all_cons, List.all_nil, List.map_cons, List.map_nil, Bool.and_true, Bool.true_and, flt_snap, flt_sok, flt_imv, flt_one, flt_eq, set_hs, ld_hs, sumS_len, lk_ints, setK_nil, bs_imv]))
  obtain rfl : i = M.length := by omega
  have hu : ∀ b ∈ M, ∀ c ∈ M, sumS b = sumS c → b = c := fun b hb c hc e => inv.uniq hb hc e
  have hsh : ∀ b ∈ M, b.length ≤ 200 := fun b hb => inv.all hb
  clear inv hi h
  simp only [VC0, VC1, VC2, VC3, VC4, VC5, VC6, VC7, VC8, VC9, reduceIte, reduceCtorEq, Nat.reduceEqDiff, Nat.reduceAdd, Nat.reduceMul, Nat.reduceBEq, Nat.reduceLT, Nat.reduceLeDiff, Int.reduceEq, Int.reduceLT, Int.reduceLE, Int.reduceNeg, Int.reduceToNat, Int.reduceAdd, Nat.reduceDiv, Nat.reduceSub, Nat.reduceMod, encL, lk_len, lk_ld, lk_set, lk_app, lk_imv, lk_snap, lk_sok, lk_one, lk_ldall, lk_setall, lk_mk, List.length_set, List.length_append, List.length_singleton, List.length_replicate, fold_or32, fold_xor32, fold_and32, fold_shl32, fold_shr32, fold_add32, fold_not32, sc_one, rv2, rv3, Option.bind_some, Option.map_some, Option.some.injEq, exists_eq_left', List.getElem?_cons_zero, List.getElem?_cons_succ, ld_0, ld_1, ld_2, sc_0, sc_1, sc_2, List.take_succ_cons, List.take_zero, List.all_cons, List.all_nil, List.map_cons, List.map_nil, Bool.and_true, Bool.true_and, flt_snap, flt_sok, flt_imv, flt_one, flt_eq, set_hs, ld_hs, sumS_len, lk_ints, setK_nil, bs_imv]
  refine callX_inl fd8 (by simp) ?_
  simp only [lc8, VC0, VC1, VC2, VC3, VC4, VC5, VC6, VC7, VC8, VC9, reduceIte, reduceCtorEq, Nat.reduceEqDiff, Nat.reduceAdd, Nat.reduceMul, Nat.reduceBEq, Nat.reduceLT, Nat.reduceLeDiff, Int.reduceEq, Int.reduceLT, Int.reduceLE, Int.reduceNeg, Int.reduceToNat, Int.reduceAdd, Nat.reduceDiv, Nat.reduceSub, Nat.reduceMod, encL, lk_len, lk_ld, lk_set, lk_app, lk_imv, lk_snap, lk_sok, lk_one, lk_ldall, lk_setall, lk_mk, List.length_set, List.length_append, List.length_singleton, List.length_replicate, fold_or32, fold_xor32, fold_and32, fold_shl32, fold_shr32, fold_add32, fold_not32, sc_one, rv2, rv3, Option.bind_some, Option.map_some, Option.some.injEq, exists_eq_left', List.getElem?_cons_zero, List.getElem?_cons_succ, ld_0, ld_1, ld_2, sc_0, sc_1, sc_2, List.take_succ_cons, List.take_zero, List.all_cons, List.all_nil, List.map_cons, List.map_nil, Bool.and_true, Bool.true_and, flt_snap, flt_sok, flt_imv, flt_one, flt_eq, set_hs, ld_hs, sumS_len, lk_ints, setK_nil, bs_imv]
  refine callX_inl fd8 (by simp) ?_
  simp only [lc8, VC0, VC1, VC2, VC3, VC4, VC5, VC6, VC7, VC8, VC9, reduceIte, reduceCtorEq, Nat.reduceEqDiff, Nat.reduceAdd, Nat.reduceMul, Nat.reduceBEq, Nat.reduceLT, Nat.reduceLeDiff, Int.reduceEq, Int.reduceLT, Int.reduceLE, Int.reduceNeg, Int.reduceToNat, Int.reduceAdd, Nat.reduceDiv, Nat.reduceSub, Nat.reduceMod, encL, lk_len, lk_ld, lk_set, lk_app, lk_imv, lk_snap, lk_sok, lk_one, lk_ldall, lk_setall, lk_mk, List.length_set, List.length_append, List.length_singleton, List.length_replicate, fold_or32, fold_xor32, fold_and32, fold_shl32, fold_shr32, fold_add32, fold_not32, sc_one, rv2, rv3, Option.bind_some, Option.map_some, Option.some.injEq, exists_eq_left', List.getElem?_cons_zero, List.getElem?_cons_succ, ld_0, ld_1, ld_2, sc_0, sc_1, sc_2, List.take_succ_cons, List.take_zero, List.all_cons, List.all_nil, List.map_cons, List.map_nil, Bool.and_true, Bool.true_and, flt_snap, flt_sok, flt_imv, flt_one, flt_eq, set_hs, ld_hs, sumS_len, lk_ints, setK_nil, bs_imv]
  refine loop_vcg (ι := Nat × (Nat → Nat)) (fun (i, c) => stO [(0, .val (encL cBs M)), (5, .boxm [.int .i64 16] (ents (addsB [] (M.take i)))), (7, .boxm [.int .i64 16] (ents (addsB [] (M.reverse.take i)))), (9, .val (.int .i64 i))] c)
    (fun (i, _) => i ≤ M.length) (fun (i, _) => M.length - i) (0, _) (Nat.zero_le _) (ent_of _ [] rfl rfl (by simp only [VC0, VC1, VC2, VC3, VC4, VC5, VC6, VC7, VC8, VC9, reduceIte, reduceCtorEq, Nat.reduceEqDiff, Nat.reduceAdd, Nat.reduceMul, Nat.reduceBEq, Nat.reduceLT, Nat.reduceLeDiff, Int.reduceEq, Int.reduceLT, Int.reduceLE, Int.reduceNeg, Int.reduceToNat, Int.reduceAdd, Nat.reduceDiv, Nat.reduceSub, Nat.reduceMod, encL, lk_len, lk_ld, lk_set, lk_app, lk_imv, lk_snap, lk_sok, lk_one, lk_ldall, lk_setall, lk_mk, List.length_set, List.length_append, List.length_singleton, List.length_replicate, fold_or32, fold_xor32, fold_and32, fold_shl32, fold_shr32, fold_add32, fold_not32, sc_one, rv2, rv3, Option.bind_some, Option.map_some, Option.some.injEq, exists_eq_left', List.getElem?_cons_zero, List.getElem?_cons_succ, ld_0, ld_1, ld_2, sc_0, sc_1, sc_2, List.take_succ_cons, List.take_zero, List.all_cons, List.all_nil, List.map_cons, List.map_nil, Bool.and_true, Bool.true_and, flt_snap, flt_sok, flt_imv, flt_one, flt_eq, set_hs, ld_hs, sumS_len, lk_ints, setK_nil, bs_imv, List.take_zero]; rfl)) ?_
  rintro ⟨i, c⟩ hi
  have hi : i ≤ M.length := hi
  simp only [VC0, VC1, VC2, VC3, VC4, VC5, VC6, VC7, VC8, VC9, reduceIte, reduceCtorEq, Nat.reduceEqDiff, Nat.reduceAdd, Nat.reduceMul, Nat.reduceBEq, Nat.reduceLT, Nat.reduceLeDiff, Int.reduceEq, Int.reduceLT, Int.reduceLE, Int.reduceNeg, Int.reduceToNat, Int.reduceAdd, Nat.reduceDiv, Nat.reduceSub, Nat.reduceMod, encL, lk_len, lk_ld, lk_set, lk_app, lk_imv, lk_snap, lk_sok, lk_one, lk_ldall, lk_setall, lk_mk, List.length_set, List.length_append, List.length_singleton, List.length_replicate, fold_or32, fold_xor32, fold_and32, fold_shl32, fold_shr32, fold_add32, fold_not32, sc_one, rv2, rv3, Option.bind_some, Option.map_some, Option.some.injEq, exists_eq_left', List.getElem?_cons_zero, List.getElem?_cons_succ, ld_0, ld_1, ld_2, sc_0, sc_1, sc_2, List.take_succ_cons, List.take_zero, List.all_cons, List.all_nil, List.map_cons, List.map_nil, Bool.and_true, Bool.true_and, flt_snap, flt_sok, flt_imv, flt_one, flt_eq, set_hs, ld_hs, sumS_len, lk_ints, setK_nil, bs_imv, ents_snapv, ents_imv]
  refine condD_of (fun h => ?_) (fun h => ?_)
  · have hil : i < M.length := by omega
    have i1 : 0 ≤ (i : Int) ∧ (i : Int) < M.length := by omega
    have i2 : InI64 ((i : Int) + 1) := by unfold InI64; omega
    have hs2 : ∀ b ∈ M, decide ((4194304 : Int) < b.length) = false := fun b hb => decide_eq_false (by have := hsh b hb; omega)
    have hs3 : ∀ b ∈ M, b.length ≤ 140737488355328 ∧ b.length ≤ 4611686018427387904 := fun b hb => by have := hsh b hb; omega
    have hAl : (addsB [] (M.take i)).length ≤ i := by have := len_addsB (M.take i) []; rw [List.length_take] at this; simp only [List.length_nil] at this; omega
    have hBl : (addsB [] (M.reverse.take i)).length ≤ i := by have := len_addsB (M.reverse.take i) []; rw [List.length_take] at this; simp only [List.length_nil] at this; omega
    have hA : ∀ b ∈ addsB [] (M.take i), b ∈ M := fun b hb => (mem_addsB.1 hb).elim (fun h => (by cases h)) List.mem_of_mem_take
    have hB : ∀ b ∈ addsB [] (M.reverse.take i), b ∈ M := fun b hb => (mem_addsB.1 hb).elim (fun h => (by cases h)) fun h => List.mem_reverse.1 (List.mem_of_mem_take h)
    have eA := addsB_next hil
    have eB := addsB_next (L := M.reverse) (i := i) (by rw [List.length_reverse]; exact hil)
    have hx1 : M.getD (M.length - 1 - i) [] = M.reverse.getD i [] := by
      rw [List.getD_eq_getElem?_getD, List.getD_eq_getElem?_getD, List.getElem?_reverse hil]
    have hxm : M.reverse.getD i [] ∈ M := by rw [← hx1]; exact mem (by omega)
    have hxb : M.length - 1 - i < M.length := by omega
    have hz1 : ((M.length : Int) - 1) - i = ((M.length - 1 - i : Nat) : Int) := by omega
    have hz2 : InI64 ((M.length : Int) - 1) := by unfold InI64; omega
    have hz3 : InI64 ((M.length - 1 - i : Nat) : Int) := by unfold InI64; omega
    have hz4 : 0 ≤ ((M.length - 1 - i : Nat) : Int) ∧ ((M.length - 1 - i : Nat) : Int) < M.length := by omega
    have hfull : ∀ s : List (List Int), s.length ≤ i → decide ((16 : Int) ≤ s.length) = false := fun s h => decide_eq_false (by omega)
    refine join_vcg (ι := Nat → Nat) (fun c => stO [(0, .val (encL cBs M)), (5, .boxm [.int .i64 16] (ents (addsB [] (M.take (i + 1))))), (7, .boxm [.int .i64 16] (ents (addsB [] (M.reverse.take i)))), (9, .val (.int .i64 i)), (11, .val .nili)] c) (fun _ => True) ?_ ?_
    · rw [eA]
      generalize addsB [] (M.reverse.take i) = B at hB hBl
      generalize addsB [] (M.take i) = A at hA hAl
      have hbm := hs3 _ (mem hil)
      simp only [VC0, VC1, VC2, VC3, VC4, VC5, VC6, VC7, VC8, VC9, reduceIte, reduceCtorEq, Nat.reduceEqDiff, Nat.reduceAdd, Nat.reduceMul, Nat.reduceBEq, Nat.reduceLT, Nat.reduceLeDiff, Int.reduceEq, Int.reduceLT, Int.reduceLE, Int.reduceNeg, Int.reduceToNat, Int.reduceAdd, Nat.reduceDiv, Nat.reduceSub, Nat.reduceMod, encL, lk_len, lk_ld, lk_set, lk_app, lk_imv, lk_snap, lk_sok, lk_one, lk_ldall, lk_setall, lk_mk, List.length_set, List.length_append, List.length_singleton, List.length_replicate, fold_or32, fold_xor32, fold_and32, fold_shl32, fold_shr32, fold_add32, fold_not32, sc_one, rv2, rv3, Option.bind_some, Option.map_some, Option.some.injEq, exists_eq_left', List.getElem?_cons_zero, List.getElem?_cons_succ, ld_0, ld_1, ld_2, sc_0, sc_1, sc_2, List.take_succ_cons, List.take_zero, List.all_cons, List.all_nil, List.map_cons, List.map_nil, Bool.and_true, Bool.true_and, flt_snap, flt_sok, flt_imv, flt_one, flt_eq, set_hs, ld_hs, sumS_len, lk_ints, setK_nil, bs_imv, bs_ld hil, i1, ents_snapv, ents_imv, ents_sok, ents_snap]
      refine callX_inl fd11 (by simp) ?_
      simp only [lc11, VC0, VC1, VC2, VC3, VC4, VC5, VC6, VC7, VC8, VC9, reduceIte, reduceCtorEq, Nat.reduceEqDiff, Nat.reduceAdd, Nat.reduceMul, Nat.reduceBEq, Nat.reduceLT, Nat.reduceLeDiff, Int.reduceEq, Int.reduceLT, Int.reduceLE, Int.reduceNeg, Int.reduceToNat, Int.reduceAdd, Nat.reduceDiv, Nat.reduceSub, Nat.reduceMod, encL, lk_len, lk_ld, lk_set, lk_app, lk_imv, lk_snap, lk_sok, lk_one, lk_ldall, lk_setall, lk_mk, List.length_set, List.length_append, List.length_singleton, List.length_replicate, fold_or32, fold_xor32, fold_and32, fold_shl32, fold_shr32, fold_add32, fold_not32, sc_one, rv2, rv3, Option.bind_some, Option.map_some, Option.some.injEq, exists_eq_left', List.getElem?_cons_zero, List.getElem?_cons_succ, ld_0, ld_1, ld_2, sc_0, sc_1, sc_2, List.take_succ_cons, List.take_zero, List.all_cons, List.all_nil, List.map_cons, List.map_nil, Bool.and_true, Bool.true_and, flt_snap, flt_sok, flt_imv, flt_one, flt_eq, set_hs, ld_hs, sumS_len, lk_ints, setK_nil, hs2 _ (mem hil)]
      refine callX_of (sum_ret (M.getD i []) (by have := hsh _ (mem hil); omega)) (.inr (lk_flat 3 _)) ?_
      simp only [VC0, VC1, VC2, VC3, VC4, VC5, VC6, VC7, VC8, VC9, reduceIte, reduceCtorEq, Nat.reduceEqDiff, Nat.reduceAdd, Nat.reduceMul, Nat.reduceBEq, Nat.reduceLT, Nat.reduceLeDiff, Int.reduceEq, Int.reduceLT, Int.reduceLE, Int.reduceNeg, Int.reduceToNat, Int.reduceAdd, Nat.reduceDiv, Nat.reduceSub, Nat.reduceMod, encL, lk_len, lk_ld, lk_set, lk_app, lk_imv, lk_snap, lk_sok, lk_one, lk_ldall, lk_setall, lk_mk, List.length_set, List.length_append, List.length_singleton, List.length_replicate, fold_or32, fold_xor32, fold_and32, fold_shl32, fold_shr32, fold_add32, fold_not32, sc_one, rv2, rv3, Option.bind_some, Option.map_some, Option.some.injEq, exists_eq_left', List.getElem?_cons_zero, List.getElem?_cons_succ, ld_0, ld_1, ld_2, sc_0, sc_1, sc_2, List.take_succ_cons, List.take_zero, List.all_cons, List.all_nil, List.map_cons, List.map_nil, Bool.and_true, Bool.true_and, flt_snap, flt_sok, flt_imv, flt_one, flt_eq, set_hs, ld_hs, sumS_len, lk_ints, setK_nil, ents_sok, ents_snap]
      refine callX_inl fd28 (by simp) ?_
      by_cases hin : M.getD i [] ∈ A
      · obtain ⟨p, hf⟩ := ents_in hin
        rw [addB, if_pos hin]
        simp only [lc28, VC0, VC1, VC2, VC3, VC4, VC5, VC6, VC7, VC8, VC9, reduceIte, reduceCtorEq, Nat.reduceEqDiff, Nat.reduceAdd, Nat.reduceMul, Nat.reduceBEq, Nat.reduceLT, Nat.reduceLeDiff, Int.reduceEq, Int.reduceLT, Int.reduceLE, Int.reduceNeg, Int.reduceToNat, Int.reduceAdd, Nat.reduceDiv, Nat.reduceSub, Nat.reduceMod, encL, lk_len, lk_ld, lk_set, lk_app, lk_imv, lk_snap, lk_sok, lk_one, lk_ldall, lk_setall, lk_mk, List.length_set, List.length_append, List.length_singleton, List.length_replicate, fold_or32, fold_xor32, fold_and32, fold_shl32, fold_shr32, fold_add32, fold_not32, sc_one, rv2, rv3, Option.bind_some, Option.map_some, Option.some.injEq, exists_eq_left', List.getElem?_cons_zero, List.getElem?_cons_succ, ld_0, ld_1, ld_2, sc_0, sc_1, sc_2, List.take_succ_cons, List.take_zero, List.all_cons, List.all_nil, List.map_cons, List.map_nil, Bool.and_true, Bool.true_and, flt_snap, flt_sok, flt_imv, flt_one, flt_eq, set_hs, ld_hs, sumS_len, lk_ints, setK_nil, hf, ents_key, ents_len]
        exact joinTo_of _ trivial (ent_of _ [] rfl rfl (by simp only [VC0, VC1, VC2, VC3, VC4, VC5, VC6, VC7, VC8, VC9, reduceIte, reduceCtorEq, Nat.reduceEqDiff, Nat.reduceAdd, Nat.reduceMul, Nat.reduceBEq, Nat.reduceLT, Nat.reduceLeDiff, Int.reduceEq, Int.reduceLT, Int.reduceLE, Int.reduceNeg, Int.reduceToNat, Int.reduceAdd, Nat.reduceDiv, Nat.reduceSub, Nat.reduceMod, encL, lk_len, lk_ld, lk_set, lk_app, lk_imv, lk_snap, lk_sok, lk_one, lk_ldall, lk_setall, lk_mk, List.length_set, List.length_append, List.length_singleton, List.length_replicate, fold_or32, fold_xor32, fold_and32, fold_shl32, fold_shr32, fold_add32, fold_not32, sc_one, rv2, rv3, Option.bind_some, Option.map_some, Option.some.injEq, exists_eq_left', List.getElem?_cons_zero, List.getElem?_cons_succ, ld_0, ld_1, ld_2, sc_0, sc_1, sc_2, List.take_succ_cons, List.take_zero, List.all_cons, List.all_nil, List.map_cons, List.map_nil, Bool.and_true, Bool.true_and, flt_snap, flt_sok, flt_imv, flt_one, flt_eq, set_hs, ld_hs, sumS_len, lk_ints, setK_nil, bs_imv, ents_snapv, ents_imv]))
      · have hf := ents_none (b := M.getD i []) (bs := A) fun c hc e => hin (by rw [hu _ (mem hil) c (hA c hc) e]; exact hc)
        have hset := fun v => setK_none v hf
        rw [addB, if_neg hin]
        simp only [lc28, VC0, VC1, VC2, VC3, VC4, VC5, VC6, VC7, VC8, VC9, reduceIte, reduceCtorEq, Nat.reduceEqDiff, Nat.reduceAdd, Nat.reduceMul, Nat.reduceBEq, Nat.reduceLT, Nat.reduceLeDiff, Int.reduceEq, Int.reduceLT, Int.reduceLE, Int.reduceNeg, Int.reduceToNat, Int.reduceAdd, Nat.reduceDiv, Nat.reduceSub, Nat.reduceMod, encL, lk_len, lk_ld, lk_set, lk_app, lk_imv, lk_snap, lk_sok, lk_one, lk_ldall, lk_setall, lk_mk, List.length_set, List.length_append, List.length_singleton, List.length_replicate, fold_or32, fold_xor32, fold_and32, fold_shl32, fold_shr32, fold_add32, fold_not32, sc_one, rv2, rv3, Option.bind_some, Option.map_some, Option.some.injEq, exists_eq_left', List.getElem?_cons_zero, List.getElem?_cons_succ, ld_0, ld_1, ld_2, sc_0, sc_1, sc_2, List.take_succ_cons, List.take_zero, List.all_cons, List.all_nil, List.map_cons, List.map_nil, Bool.and_true, Bool.true_and, flt_snap, flt_sok, flt_imv, flt_one, flt_eq, set_hs, ld_hs, sumS_len, lk_ints, setK_nil, hf, ents_key, ents_len, hfull A hAl, hset, hbm]
        exact joinTo_of _ trivial (ent_of _ [(24583, 0)] rfl rfl (by simp only [VC0, VC1, VC2, VC3, VC4, VC5, VC6, VC7, VC8, VC9, reduceIte, reduceCtorEq, Nat.reduceEqDiff, Nat.reduceAdd, Nat.reduceMul, Nat.reduceBEq, Nat.reduceLT, Nat.reduceLeDiff, Int.reduceEq, Int.reduceLT, Int.reduceLE, Int.reduceNeg, Int.reduceToNat, Int.reduceAdd, Nat.reduceDiv, Nat.reduceSub, Nat.reduceMod, encL, lk_len, lk_ld, lk_set, lk_app, lk_imv, lk_snap, lk_sok, lk_one, lk_ldall, lk_setall, lk_mk, List.length_set, List.length_append, List.length_singleton, List.length_replicate, fold_or32, fold_xor32, fold_and32, fold_shl32, fold_shr32, fold_add32, fold_not32, sc_one, rv2, rv3, Option.bind_some, Option.map_some, Option.some.injEq, exists_eq_left', List.getElem?_cons_zero, List.getElem?_cons_succ, ld_0, ld_1, ld_2, sc_0, sc_1, sc_2, List.take_succ_cons, List.take_zero, List.all_cons, List.all_nil, List.map_cons, List.map_nil, Bool.and_true, Bool.true_and, flt_snap, flt_sok, flt_imv, flt_one, flt_eq, set_hs, ld_hs, sumS_len, lk_ints, setK_nil, bs_imv, ents_snapv, ents_imv, lk_imv, lk_snap, lk_tk, hs, List.map_append, List.all_append, ents_app, List.mem_cons, List.not_mem_nil, or_false, or_true, true_or, false_or]))
    rintro c _
    obtain ⟨A, hAe⟩ : ∃ A, A = addsB [] (M.take (i + 1)) := ⟨_, rfl⟩
    rw [← hAe]
    generalize addsB [] (M.reverse.take i) = B at hB hBl eB
    have hbm := hs3 _ hxm
    simp only [VC0, VC1, VC2, VC3, VC4, VC5, VC6, VC7, VC8, VC9, reduceIte, reduceCtorEq, Nat.reduceEqDiff, Nat.reduceAdd, Nat.reduceMul, Nat.reduceBEq, Nat.reduceLT, Nat.reduceLeDiff, Int.reduceEq, Int.reduceLT, Int.reduceLE, Int.reduceNeg, Int.reduceToNat, Int.reduceAdd, Nat.reduceDiv, Nat.reduceSub, Nat.reduceMod, encL, lk_len, lk_ld, lk_set, lk_app, lk_imv, lk_snap, lk_sok, lk_one, lk_ldall, lk_setall, lk_mk, List.length_set, List.length_append, List.length_singleton, List.length_replicate, fold_or32, fold_xor32, fold_and32, fold_shl32, fold_shr32, fold_add32, fold_not32, sc_one, rv2, rv3, Option.bind_some, Option.map_some, Option.some.injEq, exists_eq_left', List.getElem?_cons_zero, List.getElem?_cons_succ, ld_0, ld_1, ld_2, sc_0, sc_1, sc_2, List.take_succ_cons, List.take_zero, List.all_cons, List.all_nil, List.map_cons, List.map_nil, Bool.and_true, Bool.true_and, flt_snap, flt_sok, flt_imv, flt_one, flt_eq, set_hs, ld_hs, sumS_len, lk_ints, setK_nil, bs_imv, hz1, hz2, hz3, hz4, bs_ld hxb, hx1, ents_snapv, ents_imv]
    refine callX_of (rsum_ret (M.reverse.getD i []) (by have := hsh _ hxm; omega) (hMb _ hxm)) (.inr (lk_flat 3 _)) ?_
    simp only [VC0, VC1, VC2, VC3, VC4, VC5, VC6, VC7, VC8, VC9, reduceIte, reduceCtorEq, Nat.reduceEqDiff, Nat.reduceAdd, Nat.reduceMul, Nat.reduceBEq, Nat.reduceLT, Nat.reduceLeDiff, Int.reduceEq, Int.reduceLT, Int.reduceLE, Int.reduceNeg, Int.reduceToNat, Int.reduceAdd, Nat.reduceDiv, Nat.reduceSub, Nat.reduceMod, encL, lk_len, lk_ld, lk_set, lk_app, lk_imv, lk_snap, lk_sok, lk_one, lk_ldall, lk_setall, lk_mk, List.length_set, List.length_append, List.length_singleton, List.length_replicate, fold_or32, fold_xor32, fold_and32, fold_shl32, fold_shr32, fold_add32, fold_not32, sc_one, rv2, rv3, Option.bind_some, Option.map_some, Option.some.injEq, exists_eq_left', List.getElem?_cons_zero, List.getElem?_cons_succ, ld_0, ld_1, ld_2, sc_0, sc_1, sc_2, List.take_succ_cons, List.take_zero, List.all_cons, List.all_nil, List.map_cons, List.map_nil, Bool.and_true, Bool.true_and, flt_snap, flt_sok, flt_imv, flt_one, flt_eq, set_hs, ld_hs, sumS_len, lk_ints, setK_nil, lk_sok, lk_snap, bs_imv, ents_sok, ents_snap]
    refine callX_inl fdi17 (by simp) ?_
    simp only [lci17, VC0, VC1, VC2, VC3, VC4, VC5, VC6, VC7, VC8, VC9, reduceIte, reduceCtorEq, Nat.reduceEqDiff, Nat.reduceAdd, Nat.reduceMul, Nat.reduceBEq, Nat.reduceLT, Nat.reduceLeDiff, Int.reduceEq, Int.reduceLT, Int.reduceLE, Int.reduceNeg, Int.reduceToNat, Int.reduceAdd, Nat.reduceDiv, Nat.reduceSub, Nat.reduceMod, encL, lk_len, lk_ld, lk_set, lk_app, lk_imv, lk_snap, lk_sok, lk_one, lk_ldall, lk_setall, lk_mk, List.length_set, List.length_append, List.length_singleton, List.length_replicate, fold_or32, fold_xor32, fold_and32, fold_shl32, fold_shr32, fold_add32, fold_not32, sc_one, rv2, rv3, Option.bind_some, Option.map_some, Option.some.injEq, exists_eq_left', List.getElem?_cons_zero, List.getElem?_cons_succ, ld_0, ld_1, ld_2, sc_0, sc_1, sc_2, List.take_succ_cons, List.take_zero, List.all_cons, List.all_nil, List.map_cons, List.map_nil, Bool.and_true, Bool.true_and, flt_snap, flt_sok, flt_imv, flt_one, flt_eq, set_hs, ld_hs, sumS_len, lk_ints, setK_nil, hs2 _ hxm]
    refine callV_of (sum_ret (M.reverse.getD i []) (by have := hsh _ hxm; omega)) (.inr (lk_flat 3 _)) ?_
    simp only [VC0, VC1, VC2, VC3, VC4, VC5, VC6, VC7, VC8, VC9, reduceIte, reduceCtorEq, Nat.reduceEqDiff, Nat.reduceAdd, Nat.reduceMul, Nat.reduceBEq, Nat.reduceLT, Nat.reduceLeDiff, Int.reduceEq, Int.reduceLT, Int.reduceLE, Int.reduceNeg, Int.reduceToNat, Int.reduceAdd, Nat.reduceDiv, Nat.reduceSub, Nat.reduceMod, encL, lk_len, lk_ld, lk_set, lk_app, lk_imv, lk_snap, lk_sok, lk_one, lk_ldall, lk_setall, lk_mk, List.length_set, List.length_append, List.length_singleton, List.length_replicate, fold_or32, fold_xor32, fold_and32, fold_shl32, fold_shr32, fold_add32, fold_not32, sc_one, rv2, rv3, Option.bind_some, Option.map_some, Option.some.injEq, exists_eq_left', List.getElem?_cons_zero, List.getElem?_cons_succ, ld_0, ld_1, ld_2, sc_0, sc_1, sc_2, List.take_succ_cons, List.take_zero, List.all_cons, List.all_nil, List.map_cons, List.map_nil, Bool.and_true, Bool.true_and, flt_snap, flt_sok, flt_imv, flt_one, flt_eq, set_hs, ld_hs, sumS_len, lk_ints, setK_nil, lk_eq, lk_ints, sumS_len, ld_hs, ents_sok, ents_snap]
    refine callX_inl fd28 (by simp) ?_
    by_cases hin : M.reverse.getD i [] ∈ B
    · obtain ⟨p, hf⟩ := ents_in hin
      rw [addB, if_pos hin] at eB
      simp only [lc28, VC0, VC1, VC2, VC3, VC4, VC5, VC6, VC7, VC8, VC9, reduceIte, reduceCtorEq, Nat.reduceEqDiff, Nat.reduceAdd, Nat.reduceMul, Nat.reduceBEq, Nat.reduceLT, Nat.reduceLeDiff, Int.reduceEq, Int.reduceLT, Int.reduceLE, Int.reduceNeg, Int.reduceToNat, Int.reduceAdd, Nat.reduceDiv, Nat.reduceSub, Nat.reduceMod, encL, lk_len, lk_ld, lk_set, lk_app, lk_imv, lk_snap, lk_sok, lk_one, lk_ldall, lk_setall, lk_mk, List.length_set, List.length_append, List.length_singleton, List.length_replicate, fold_or32, fold_xor32, fold_and32, fold_shl32, fold_shr32, fold_add32, fold_not32, sc_one, rv2, rv3, Option.bind_some, Option.map_some, Option.some.injEq, exists_eq_left', List.getElem?_cons_zero, List.getElem?_cons_succ, ld_0, ld_1, ld_2, sc_0, sc_1, sc_2, List.take_succ_cons, List.take_zero, List.all_cons, List.all_nil, List.map_cons, List.map_nil, Bool.and_true, Bool.true_and, flt_snap, flt_sok, flt_imv, flt_one, flt_eq, set_hs, ld_hs, sumS_len, lk_ints, setK_nil, hf, ents_key, ents_len, i2]
      exact backTo_of (i + 1, _) hil (by simp only []; omega) (ent_of _ [] rfl rfl (by simp only [VC0, VC1, VC2, VC3, VC4, VC5, VC6, VC7, VC8, VC9, reduceIte, reduceCtorEq, Nat.reduceEqDiff, Nat.reduceAdd, Nat.reduceMul, Nat.reduceBEq, Nat.reduceLT, Nat.reduceLeDiff, Int.reduceEq, Int.reduceLT, Int.reduceLE, Int.reduceNeg, Int.reduceToNat, Int.reduceAdd, Nat.reduceDiv, Nat.reduceSub, Nat.reduceMod, encL, lk_len, lk_ld, lk_set, lk_app, lk_imv, lk_snap, lk_sok, lk_one, lk_ldall, lk_setall, lk_mk, List.length_set, List.length_append, List.length_singleton, List.length_replicate, fold_or32, fold_xor32, fold_and32, fold_shl32, fold_shr32, fold_add32, fold_not32, sc_one, rv2, rv3, Option.bind_some, Option.map_some, Option.some.injEq, exists_eq_left', List.getElem?_cons_zero, List.getElem?_cons_succ, ld_0, ld_1, ld_2, sc_0, sc_1, sc_2, List.take_succ_cons, List.take_zero, List.all_cons, List.all_nil, List.map_cons, List.map_nil, Bool.and_true, Bool.true_and, flt_snap, flt_sok, flt_imv, flt_one, flt_eq, set_hs, ld_hs, sumS_len, lk_ints, setK_nil, bs_imv, ents_snapv, ents_imv, eB, hAe]))
    · have hf := ents_none (b := M.reverse.getD i []) (bs := B) fun c hc e => hin (by rw [hu _ hxm c (hB c hc) e]; exact hc)
      have hset := fun v => setK_none v hf
      rw [addB, if_neg hin] at eB
      simp only [lc28, VC0, VC1, VC2, VC3, VC4, VC5, VC6, VC7, VC8, VC9, reduceIte, reduceCtorEq, Nat.reduceEqDiff, Nat.reduceAdd, Nat.reduceMul, Nat.reduceBEq, Nat.reduceLT, Nat.reduceLeDiff, Int.reduceEq, Int.reduceLT, Int.reduceLE, Int.reduceNeg, Int.reduceToNat, Int.reduceAdd, Nat.reduceDiv, Nat.reduceSub, Nat.reduceMod, encL, lk_len, lk_ld, lk_set, lk_app, lk_imv, lk_snap, lk_sok, lk_one, lk_ldall, lk_setall, lk_mk, List.length_set, List.length_append, List.length_singleton, List.length_replicate, fold_or32, fold_xor32, fold_and32, fold_shl32, fold_shr32, fold_add32, fold_not32, sc_one, rv2, rv3, Option.bind_some, Option.map_some, Option.some.injEq, exists_eq_left', List.getElem?_cons_zero, List.getElem?_cons_succ, ld_0, ld_1, ld_2, sc_0, sc_1, sc_2, List.take_succ_cons, List.take_zero, List.all_cons, List.all_nil, List.map_cons, List.map_nil, Bool.and_true, Bool.true_and, flt_snap, flt_sok, flt_imv, flt_one, flt_eq, set_hs, ld_hs, sumS_len, lk_ints, setK_nil, hf, ents_key, ents_len, hfull B hBl, hset, hbm, i2]
      exact backTo_of (i + 1, _) hil (by simp only []; omega) (ent_of _ [(24583, 0)] rfl rfl (by simp only [VC0, VC1, VC2, VC3, VC4, VC5, VC6, VC7, VC8, VC9, reduceIte, reduceCtorEq, Nat.reduceEqDiff, Nat.reduceAdd, Nat.reduceMul, Nat.reduceBEq, Nat.reduceLT, Nat.reduceLeDiff, Int.reduceEq, Int.reduceLT, Int.reduceLE, Int.reduceNeg, Int.reduceToNat, Int.reduceAdd, Nat.reduceDiv, Nat.reduceSub, Nat.reduceMod, encL, lk_len, lk_ld, lk_set, lk_app, lk_imv, lk_snap, lk_sok, lk_one, lk_ldall, lk_setall, lk_mk, List.length_set, List.length_append, List.length_singleton, List.length_replicate, fold_or32, fold_xor32, fold_and32, fold_shl32, fold_shr32, fold_add32, fold_not32, sc_one, rv2, rv3, Option.bind_some, Option.map_some, Option.some.injEq, exists_eq_left', List.getElem?_cons_zero, List.getElem?_cons_succ, ld_0, ld_1, ld_2, sc_0, sc_1, sc_2, List.take_succ_cons, List.take_zero, List.all_cons, List.all_nil, List.map_cons, List.map_nil, Bool.and_true, Bool.true_and, flt_snap, flt_sok, flt_imv, flt_one, flt_eq, set_hs, ld_hs, sumS_len, lk_ints, setK_nil, bs_imv, ents_snapv, ents_imv, lk_imv, lk_snap, lk_tk, hs, List.map_append, List.all_append, ents_app, List.mem_cons, List.not_mem_nil, or_false, or_true, true_or, false_or, eB, hAe]))
  · obtain rfl : i = M.length := by omega
    have hA : ∀ b ∈ addsB [] M, b ∈ M := fun b hb => (mem_addsB.1 hb).elim (fun h => (by cases h)) id
    have hB : ∀ b ∈ M, b ∈ addsB [] M.reverse := fun b hb => mem_addsB.2 (.inr (List.mem_reverse.2 hb))
    have hB2 : ∀ b ∈ addsB [] M.reverse, b ∈ M := fun b hb => (mem_addsB.1 hb).elim (fun h => (by cases h)) List.mem_reverse.1
    have eS := sort_adds M
    have hnd := nd_addsB (s := []) (l := M) List.nodup_nil
    have hndB := nd_addsB (s := []) (l := M.reverse) List.nodup_nil
    have e1 : M.reverse.take M.length = M.reverse := List.take_of_length_le (by simp)
    have hAl : (addsB [] M).length ≤ 16 := by have := len_addsB M []; simp only [List.length_nil] at this; omega
    have hBl : (addsB [] M.reverse).length ≤ 16 := by have := len_addsB M.reverse []; simp only [List.length_nil, List.length_reverse] at this; omega
    have hmA : ∀ {j : Nat} (h : j < (sortH ((addsB [] M).map hsum)).length), ∃ b ∈ addsB [] M, hsum b = (sortH ((addsB [] M).map hsum))[j] := fun h => sort_mem h
    have hst := fun j h0 h => strict_of (S := sortH ((addsB [] M).map hsum)) (i := j) (sortH_pw _) (sort_nd (nd_map hnd fun b hb c hc => hu b (hA b hb) c (hA c hc))) h0 h
    have hSl := sortH_len ((addsB [] M).map hsum)
    have hSl2 := sortH_len ((addsB [] M.reverse).map hsum)
    rw [eS] at hSl2
    simp only [List.length_map] at hSl hSl2
    rw [List.take_length, e1]
    have lA := list_own (.int .i64 16) (addsB [] M) (by omega)
    have lB := list_own (.int .i64 16) (addsB [] M.reverse) (by omega)
    rw [eS] at lB
    generalize addsB [] M = A at *
    generalize addsB [] M.reverse = B at *
    generalize sortH (A.map hsum) = S at *
    simp only [VC0, VC1, VC2, VC3, VC4, VC5, VC6, VC7, VC8, VC9, reduceIte, reduceCtorEq, Nat.reduceEqDiff, Nat.reduceAdd, Nat.reduceMul, Nat.reduceBEq, Nat.reduceLT, Nat.reduceLeDiff, Int.reduceEq, Int.reduceLT, Int.reduceLE, Int.reduceNeg, Int.reduceToNat, Int.reduceAdd, Nat.reduceDiv, Nat.reduceSub, Nat.reduceMod, encL, lk_len, lk_ld, lk_set, lk_app, lk_imv, lk_snap, lk_sok, lk_one, lk_ldall, lk_setall, lk_mk, List.length_set, List.length_append, List.length_singleton, List.length_replicate, fold_or32, fold_xor32, fold_and32, fold_shl32, fold_shr32, fold_add32, fold_not32, sc_one, rv2, rv3, Option.bind_some, Option.map_some, Option.some.injEq, exists_eq_left', List.getElem?_cons_zero, List.getElem?_cons_succ, ld_0, ld_1, ld_2, sc_0, sc_1, sc_2, List.take_succ_cons, List.take_zero, List.all_cons, List.all_nil, List.map_cons, List.map_nil, Bool.and_true, Bool.true_and, flt_snap, flt_sok, flt_imv, flt_one, flt_eq, set_hs, ld_hs, sumS_len, lk_ints, setK_nil, ents_sok, ents_snap, ents_snapv, ents_imv]
    refine callX_own lA (.inr (hh_flat 4 S)) ?_
    simp only [VC0, VC1, VC2, VC3, VC4, VC5, VC6, VC7, VC8, VC9, reduceIte, reduceCtorEq, Nat.reduceEqDiff, Nat.reduceAdd, Nat.reduceMul, Nat.reduceBEq, Nat.reduceLT, Nat.reduceLeDiff, Int.reduceEq, Int.reduceLT, Int.reduceLE, Int.reduceNeg, Int.reduceToNat, Int.reduceAdd, Nat.reduceDiv, Nat.reduceSub, Nat.reduceMod, encL, lk_len, lk_ld, lk_set, lk_app, lk_imv, lk_snap, lk_sok, lk_one, lk_ldall, lk_setall, lk_mk, List.length_set, List.length_append, List.length_singleton, List.length_replicate, fold_or32, fold_xor32, fold_and32, fold_shl32, fold_shr32, fold_add32, fold_not32, sc_one, rv2, rv3, Option.bind_some, Option.map_some, Option.some.injEq, exists_eq_left', List.getElem?_cons_zero, List.getElem?_cons_succ, ld_0, ld_1, ld_2, sc_0, sc_1, sc_2, List.take_succ_cons, List.take_zero, List.all_cons, List.all_nil, List.map_cons, List.map_nil, Bool.and_true, Bool.true_and, flt_snap, flt_sok, flt_imv, flt_one, flt_eq, set_hs, ld_hs, sumS_len, lk_ints, setK_nil, ents_sok, ents_snap, ents_snapv, ents_imv]
    refine callX_own lB (.inr (hh_flat 4 S)) ?_
    simp only [VC0, VC1, VC2, VC3, VC4, VC5, VC6, VC7, VC8, VC9, reduceIte, reduceCtorEq, Nat.reduceEqDiff, Nat.reduceAdd, Nat.reduceMul, Nat.reduceBEq, Nat.reduceLT, Nat.reduceLeDiff, Int.reduceEq, Int.reduceLT, Int.reduceLE, Int.reduceNeg, Int.reduceToNat, Int.reduceAdd, Nat.reduceDiv, Nat.reduceSub, Nat.reduceMod, encL, lk_len, lk_ld, lk_set, lk_app, lk_imv, lk_snap, lk_sok, lk_one, lk_ldall, lk_setall, lk_mk, List.length_set, List.length_append, List.length_singleton, List.length_replicate, fold_or32, fold_xor32, fold_and32, fold_shl32, fold_shr32, fold_add32, fold_not32, sc_one, rv2, rv3, Option.bind_some, Option.map_some, Option.some.injEq, exists_eq_left', List.getElem?_cons_zero, List.getElem?_cons_succ, ld_0, ld_1, ld_2, sc_0, sc_1, sc_2, List.take_succ_cons, List.take_zero, List.all_cons, List.all_nil, List.map_cons, List.map_nil, Bool.and_true, Bool.true_and, flt_snap, flt_sok, flt_imv, flt_one, flt_eq, set_hs, ld_hs, sumS_len, lk_ints, setK_nil, ents_sok, ents_snap, ents_snapv, ents_imv]
    refine callX_of (count_ret _ _) (.inr rfl) ?_
    simp only [VC0, VC1, VC2, VC3, VC4, VC5, VC6, VC7, VC8, VC9, reduceIte, reduceCtorEq, Nat.reduceEqDiff, Nat.reduceAdd, Nat.reduceMul, Nat.reduceBEq, Nat.reduceLT, Nat.reduceLeDiff, Int.reduceEq, Int.reduceLT, Int.reduceLE, Int.reduceNeg, Int.reduceToNat, Int.reduceAdd, Nat.reduceDiv, Nat.reduceSub, Nat.reduceMod, encL, lk_len, lk_ld, lk_set, lk_app, lk_imv, lk_snap, lk_sok, lk_one, lk_ldall, lk_setall, lk_mk, List.length_set, List.length_append, List.length_singleton, List.length_replicate, fold_or32, fold_xor32, fold_and32, fold_shl32, fold_shr32, fold_add32, fold_not32, sc_one, rv2, rv3, Option.bind_some, Option.map_some, Option.some.injEq, exists_eq_left', List.getElem?_cons_zero, List.getElem?_cons_succ, ld_0, ld_1, ld_2, sc_0, sc_1, sc_2, List.take_succ_cons, List.take_zero, List.all_cons, List.all_nil, List.map_cons, List.map_nil, Bool.and_true, Bool.true_and, flt_snap, flt_sok, flt_imv, flt_one, flt_eq, set_hs, ld_hs, sumS_len, lk_ints, setK_nil, ents_sok, ents_snap, ents_snapv, ents_imv]
    refine callX_of (count_ret _ _) (.inr rfl) ?_
    simp only [VC0, VC1, VC2, VC3, VC4, VC5, VC6, VC7, VC8, VC9, reduceIte, reduceCtorEq, Nat.reduceEqDiff, Nat.reduceAdd, Nat.reduceMul, Nat.reduceBEq, Nat.reduceLT, Nat.reduceLeDiff, Int.reduceEq, Int.reduceLT, Int.reduceLE, Int.reduceNeg, Int.reduceToNat, Int.reduceAdd, Nat.reduceDiv, Nat.reduceSub, Nat.reduceMod, encL, lk_len, lk_ld, lk_set, lk_app, lk_imv, lk_snap, lk_sok, lk_one, lk_ldall, lk_setall, lk_mk, List.length_set, List.length_append, List.length_singleton, List.length_replicate, fold_or32, fold_xor32, fold_and32, fold_shl32, fold_shr32, fold_add32, fold_not32, sc_one, rv2, rv3, Option.bind_some, Option.map_some, Option.some.injEq, exists_eq_left', List.getElem?_cons_zero, List.getElem?_cons_succ, ld_0, ld_1, ld_2, sc_0, sc_1, sc_2, List.take_succ_cons, List.take_zero, List.all_cons, List.all_nil, List.map_cons, List.map_nil, Bool.and_true, Bool.true_and, flt_snap, flt_sok, flt_imv, flt_one, flt_eq, set_hs, ld_hs, sumS_len, lk_ints, setK_nil, ents_len, ← hSl, ← hSl2]
    clear hi h
    refine loop_vcg (ι := Nat × (Nat → Nat)) (fun (k, c) => stO [(5, .boxm [.int .i64 16] (ents A)), (7, .boxm [.int .i64 16] (ents B)), (13, .own 32 S.length (S.flatMap HS.cells)), (14, .own 32 S.length (S.flatMap HS.cells)), (15, .val (.int .i64 k))] c)
      (fun (k, _) => k ≤ S.length) (fun (k, _) => S.length - k) (0, _) (Nat.zero_le _) (ent_of _ [] rfl rfl (by simp only [VC0, VC1, VC2, VC3, VC4, VC5, VC6, VC7, VC8, VC9, reduceIte, reduceCtorEq, Nat.reduceEqDiff, Nat.reduceAdd, Nat.reduceMul, Nat.reduceBEq, Nat.reduceLT, Nat.reduceLeDiff, Int.reduceEq, Int.reduceLT, Int.reduceLE, Int.reduceNeg, Int.reduceToNat, Int.reduceAdd, Nat.reduceDiv, Nat.reduceSub, Nat.reduceMod, encL, lk_len, lk_ld, lk_set, lk_app, lk_imv, lk_snap, lk_sok, lk_one, lk_ldall, lk_setall, lk_mk, List.length_set, List.length_append, List.length_singleton, List.length_replicate, fold_or32, fold_xor32, fold_and32, fold_shl32, fold_shr32, fold_add32, fold_not32, sc_one, rv2, rv3, Option.bind_some, Option.map_some, Option.some.injEq, exists_eq_left', List.getElem?_cons_zero, List.getElem?_cons_succ, ld_0, ld_1, ld_2, sc_0, sc_1, sc_2, List.take_succ_cons, List.take_zero, List.all_cons, List.all_nil, List.map_cons, List.map_nil, Bool.and_true, Bool.true_and, flt_snap, flt_sok, flt_imv, flt_one, flt_eq, set_hs, ld_hs, sumS_len, lk_ints, setK_nil, bs_imv, hh_imv, ents_snapv, ents_imv])) ?_
    rintro ⟨k, c⟩ hk
    have hk : k ≤ S.length := hk
    simp only [VC0, VC1, VC2, VC3, VC4, VC5, VC6, VC7, VC8, VC9, reduceIte, reduceCtorEq, Nat.reduceEqDiff, Nat.reduceAdd, Nat.reduceMul, Nat.reduceBEq, Nat.reduceLT, Nat.reduceLeDiff, Int.reduceEq, Int.reduceLT, Int.reduceLE, Int.reduceNeg, Int.reduceToNat, Int.reduceAdd, Nat.reduceDiv, Nat.reduceSub, Nat.reduceMod, encL, lk_len, lk_ld, lk_set, lk_app, lk_imv, lk_snap, lk_sok, lk_one, lk_ldall, lk_setall, lk_mk, List.length_set, List.length_append, List.length_singleton, List.length_replicate, fold_or32, fold_xor32, fold_and32, fold_shl32, fold_shr32, fold_add32, fold_not32, sc_one, rv2, rv3, Option.bind_some, Option.map_some, Option.some.injEq, exists_eq_left', List.getElem?_cons_zero, List.getElem?_cons_succ, ld_0, ld_1, ld_2, sc_0, sc_1, sc_2, List.take_succ_cons, List.take_zero, List.all_cons, List.all_nil, List.map_cons, List.map_nil, Bool.and_true, Bool.true_and, flt_snap, flt_sok, flt_imv, flt_one, flt_eq, set_hs, ld_hs, sumS_len, lk_ints, setK_nil, ents_snapv, ents_imv]
    refine condD_of (fun h => ?_) (fun h => ?_)
    · have hk' : k < S.length := by omega
      have kk : 0 ≤ (k : Int) ∧ (k : Int) < S.length := by omega
      have j2 : InI64 ((k : Int) + 1) := by unfold InI64; omega
      obtain ⟨b, hb, hbe⟩ := hmA hk'
      have hc : S[k].cells = (sumS b).flatMap (cK .u8) := by rw [← hbe, hsum_cells]
      have hld := HS.ld hk'
      rw [hc] at hld
      obtain ⟨ja, hfa⟩ := ents_some hb (fun c hc e => hu _ (hA b hb) c (hA c hc) e)
      obtain ⟨jb, hfb⟩ := ents_some (hB b (hA b hb)) (fun c hc e => hu _ (hA b hb) c (hB2 c hc) e)
      have hbl := hsh b (hA b hb)
      have hbb := hMb b (hA b hb)
      simp only [VC0, VC1, VC2, VC3, VC4, VC5, VC6, VC7, VC8, VC9, reduceIte, reduceCtorEq, Nat.reduceEqDiff, Nat.reduceAdd, Nat.reduceMul, Nat.reduceBEq, Nat.reduceLT, Nat.reduceLeDiff, Int.reduceEq, Int.reduceLT, Int.reduceLE, Int.reduceNeg, Int.reduceToNat, Int.reduceAdd, Nat.reduceDiv, Nat.reduceSub, Nat.reduceMod, encL, lk_len, lk_ld, lk_set, lk_app, lk_imv, lk_snap, lk_sok, lk_one, lk_ldall, lk_setall, lk_mk, List.length_set, List.length_append, List.length_singleton, List.length_replicate, fold_or32, fold_xor32, fold_and32, fold_shl32, fold_shr32, fold_add32, fold_not32, sc_one, rv2, rv3, Option.bind_some, Option.map_some, Option.some.injEq, exists_eq_left', List.getElem?_cons_zero, List.getElem?_cons_succ, ld_0, ld_1, ld_2, sc_0, sc_1, sc_2, List.take_succ_cons, List.take_zero, List.all_cons, List.all_nil, List.map_cons, List.map_nil, Bool.and_true, Bool.true_and, flt_snap, flt_sok, flt_imv, flt_one, flt_eq, set_hs, ld_hs, sumS_len, lk_ints, setK_nil, hld, kk, hh_imv, ents_snapv, ents_imv, ents_sok, ents_snap, lk_sok, lk_snap]
      refine callX_new (get_new _ _ b ja hbl (ents_key _) hfa) ?_
      simp only [VC0, VC1, VC2, VC3, VC4, VC5, VC6, VC7, VC8, VC9, reduceIte, reduceCtorEq, Nat.reduceEqDiff, Nat.reduceAdd, Nat.reduceMul, Nat.reduceBEq, Nat.reduceLT, Nat.reduceLeDiff, Int.reduceEq, Int.reduceLT, Int.reduceLE, Int.reduceNeg, Int.reduceToNat, Int.reduceAdd, Nat.reduceDiv, Nat.reduceSub, Nat.reduceMod, encL, lk_len, lk_ld, lk_set, lk_app, lk_imv, lk_snap, lk_sok, lk_one, lk_ldall, lk_setall, lk_mk, List.length_set, List.length_append, List.length_singleton, List.length_replicate, fold_or32, fold_xor32, fold_and32, fold_shl32, fold_shr32, fold_add32, fold_not32, sc_one, rv2, rv3, Option.bind_some, Option.map_some, Option.some.injEq, exists_eq_left', List.getElem?_cons_zero, List.getElem?_cons_succ, ld_0, ld_1, ld_2, sc_0, sc_1, sc_2, List.take_succ_cons, List.take_zero, List.all_cons, List.all_nil, List.map_cons, List.map_nil, Bool.and_true, Bool.true_and, flt_snap, flt_sok, flt_imv, flt_one, flt_eq, set_hs, ld_hs, sumS_len, lk_ints, setK_nil, hld, kk, hh_imv, ents_snapv, ents_imv, ents_sok, ents_snap, lk_sok, lk_snap]
      refine callX_new (get_new _ _ b jb hbl (ents_key _) hfb) ?_
      cases c4 : decide ((0 : Int) < k)
      · simp only [VC0, VC1, VC2, VC3, VC4, VC5, VC6, VC7, VC8, VC9, reduceIte, reduceCtorEq, Nat.reduceEqDiff, Nat.reduceAdd, Nat.reduceMul, Nat.reduceBEq, Nat.reduceLT, Nat.reduceLeDiff, Int.reduceEq, Int.reduceLT, Int.reduceLE, Int.reduceNeg, Int.reduceToNat, Int.reduceAdd, Nat.reduceDiv, Nat.reduceSub, Nat.reduceMod, encL, lk_len, lk_ld, lk_set, lk_app, lk_imv, lk_snap, lk_sok, lk_one, lk_ldall, lk_setall, lk_mk, List.length_set, List.length_append, List.length_singleton, List.length_replicate, fold_or32, fold_xor32, fold_and32, fold_shl32, fold_shr32, fold_add32, fold_not32, sc_one, rv2, rv3, Option.bind_some, Option.map_some, Option.some.injEq, exists_eq_left', List.getElem?_cons_zero, List.getElem?_cons_succ, ld_0, ld_1, ld_2, sc_0, sc_1, sc_2, List.take_succ_cons, List.take_zero, List.all_cons, List.all_nil, List.map_cons, List.map_nil, Bool.and_true, Bool.true_and, flt_snap, flt_sok, flt_imv, flt_one, flt_eq, set_hs, ld_hs, sumS_len, lk_ints, setK_nil, hld, kk, j2, c4, hh_imv, ents_snapv, ents_imv, ents_sok, ents_snap, lk_sok, lk_snap, lk_eq, lk_ints, sumS_len, fold_bytS, bytS_eq hbb hbb, Nat.mul_one]
        exact backTo_of (k + 1, _) hk' (by simp only []; omega) (ent_of _ [] rfl rfl (by simp only [VC0, VC1, VC2, VC3, VC4, VC5, VC6, VC7, VC8, VC9, reduceIte, reduceCtorEq, Nat.reduceEqDiff, Nat.reduceAdd, Nat.reduceMul, Nat.reduceBEq, Nat.reduceLT, Nat.reduceLeDiff, Int.reduceEq, Int.reduceLT, Int.reduceLE, Int.reduceNeg, Int.reduceToNat, Int.reduceAdd, Nat.reduceDiv, Nat.reduceSub, Nat.reduceMod, encL, lk_len, lk_ld, lk_set, lk_app, lk_imv, lk_snap, lk_sok, lk_one, lk_ldall, lk_setall, lk_mk, List.length_set, List.length_append, List.length_singleton, List.length_replicate, fold_or32, fold_xor32, fold_and32, fold_shl32, fold_shr32, fold_add32, fold_not32, sc_one, rv2, rv3, Option.bind_some, Option.map_some, Option.some.injEq, exists_eq_left', List.getElem?_cons_zero, List.getElem?_cons_succ, ld_0, ld_1, ld_2, sc_0, sc_1, sc_2, List.take_succ_cons, List.take_zero, List.all_cons, List.all_nil, List.map_cons, List.map_nil, Bool.and_true, Bool.true_and, flt_snap, flt_sok, flt_imv, flt_one, flt_eq, set_hs, ld_hs, sumS_len, lk_ints, setK_nil, bs_imv, hh_imv, ents_snapv, ents_imv]))
      · have hk0 : 0 < k := by have := of_decide_eq_true c4; omega
        have hk1 : k - 1 < S.length := by omega
        have hz : (k : Int) - 1 = ((k - 1 : Nat) : Int) := by omega
        have hz2 : InI64 ((k - 1 : Nat) : Int) := by unfold InI64; omega
        have hz3 : 0 ≤ ((k - 1 : Nat) : Int) ∧ ((k - 1 : Nat) : Int) < S.length := by omega
        have hld1 := HS.ld hk1
        have h5 : cmpI S[k - 1].1 S[k].1 < 0 := by
          have h6 := hst (k - 1) hk1 (by omega)
          simp only [show k - 1 + 1 = k by omega] at h6
          exact h6
        have hless := rless_ret S[k - 1] S[k]
        rw [hc, decide_eq_true h5] at hless
        simp only [VC0, VC1, VC2, VC3, VC4, VC5, VC6, VC7, VC8, VC9, reduceIte, reduceCtorEq, Nat.reduceEqDiff, Nat.reduceAdd, Nat.reduceMul, Nat.reduceBEq, Nat.reduceLT, Nat.reduceLeDiff, Int.reduceEq, Int.reduceLT, Int.reduceLE, Int.reduceNeg, Int.reduceToNat, Int.reduceAdd, Nat.reduceDiv, Nat.reduceSub, Nat.reduceMod, encL, lk_len, lk_ld, lk_set, lk_app, lk_imv, lk_snap, lk_sok, lk_one, lk_ldall, lk_setall, lk_mk, List.length_set, List.length_append, List.length_singleton, List.length_replicate, fold_or32, fold_xor32, fold_and32, fold_shl32, fold_shr32, fold_add32, fold_not32, sc_one, rv2, rv3, Option.bind_some, Option.map_some, Option.some.injEq, exists_eq_left', List.getElem?_cons_zero, List.getElem?_cons_succ, ld_0, ld_1, ld_2, sc_0, sc_1, sc_2, List.take_succ_cons, List.take_zero, List.all_cons, List.all_nil, List.map_cons, List.map_nil, Bool.and_true, Bool.true_and, flt_snap, flt_sok, flt_imv, flt_one, flt_eq, set_hs, ld_hs, sumS_len, lk_ints, setK_nil, hld, hld1, hc_snap, hc_sok, kk, j2, c4, hz, hz2, hz3, hh_imv, ents_snapv, ents_imv, ents_sok, ents_snap, lk_sok, lk_snap, lk_eq, lk_ints, sumS_len, fold_bytS, bytS_eq hbb hbb, Nat.mul_one]
        refine callV_of hless (.inr rfl) ?_
        simp only [VC0, VC1, VC2, VC3, VC4, VC5, VC6, VC7, VC8, VC9, reduceIte, reduceCtorEq, Nat.reduceEqDiff, Nat.reduceAdd, Nat.reduceMul, Nat.reduceBEq, Nat.reduceLT, Nat.reduceLeDiff, Int.reduceEq, Int.reduceLT, Int.reduceLE, Int.reduceNeg, Int.reduceToNat, Int.reduceAdd, Nat.reduceDiv, Nat.reduceSub, Nat.reduceMod, encL, lk_len, lk_ld, lk_set, lk_app, lk_imv, lk_snap, lk_sok, lk_one, lk_ldall, lk_setall, lk_mk, List.length_set, List.length_append, List.length_singleton, List.length_replicate, fold_or32, fold_xor32, fold_and32, fold_shl32, fold_shr32, fold_add32, fold_not32, sc_one, rv2, rv3, Option.bind_some, Option.map_some, Option.some.injEq, exists_eq_left', List.getElem?_cons_zero, List.getElem?_cons_succ, ld_0, ld_1, ld_2, sc_0, sc_1, sc_2, List.take_succ_cons, List.take_zero, List.all_cons, List.all_nil, List.map_cons, List.map_nil, Bool.and_true, Bool.true_and, flt_snap, flt_sok, flt_imv, flt_one, flt_eq, set_hs, ld_hs, sumS_len, lk_ints, setK_nil, j2]
        exact backTo_of (k + 1, _) hk' (by simp only []; omega) (ent_of _ [] rfl rfl (by simp only [VC0, VC1, VC2, VC3, VC4, VC5, VC6, VC7, VC8, VC9, reduceIte, reduceCtorEq, Nat.reduceEqDiff, Nat.reduceAdd, Nat.reduceMul, Nat.reduceBEq, Nat.reduceLT, Nat.reduceLeDiff, Int.reduceEq, Int.reduceLT, Int.reduceLE, Int.reduceNeg, Int.reduceToNat, Int.reduceAdd, Nat.reduceDiv, Nat.reduceSub, Nat.reduceMod, encL, lk_len, lk_ld, lk_set, lk_app, lk_imv, lk_snap, lk_sok, lk_one, lk_ldall, lk_setall, lk_mk, List.length_set, List.length_append, List.length_singleton, List.length_replicate, fold_or32, fold_xor32, fold_and32, fold_shl32, fold_shr32, fold_add32, fold_not32, sc_one, rv2, rv3, Option.bind_some, Option.map_some, Option.some.injEq, exists_eq_left', List.getElem?_cons_zero, List.getElem?_cons_succ, ld_0, ld_1, ld_2, sc_0, sc_1, sc_2, List.take_succ_cons, List.take_zero, List.all_cons, List.all_nil, List.map_cons, List.map_nil, Bool.and_true, Bool.true_and, flt_snap, flt_sok, flt_imv, flt_one, flt_eq, set_hs, ld_hs, sumS_len, lk_ints, setK_nil, bs_imv, hh_imv, ents_snapv, ents_imv]))
    · simp only [VC0, VC1, VC2, VC3, VC4, VC5, VC6, VC7, VC8, VC9, reduceIte, reduceCtorEq, Nat.reduceEqDiff, Nat.reduceAdd, Nat.reduceMul, Nat.reduceBEq, Nat.reduceLT, Nat.reduceLeDiff, Int.reduceEq, Int.reduceLT, Int.reduceLE, Int.reduceNeg, Int.reduceToNat, Int.reduceAdd, Nat.reduceDiv, Nat.reduceSub, Nat.reduceMod, encL, lk_len, lk_ld, lk_set, lk_app, lk_imv, lk_snap, lk_sok, lk_one, lk_ldall, lk_setall, lk_mk, List.length_set, List.length_append, List.length_singleton, List.length_replicate, fold_or32, fold_xor32, fold_and32, fold_shl32, fold_shr32, fold_add32, fold_not32, sc_one, rv2, rv3, Option.bind_some, Option.map_some, Option.some.injEq, exists_eq_left', List.getElem?_cons_zero, List.getElem?_cons_succ, ld_0, ld_1, ld_2, sc_0, sc_1, sc_2, List.take_succ_cons, List.take_zero, List.all_cons, List.all_nil, List.map_cons, List.map_nil, Bool.and_true, Bool.true_and, flt_snap, flt_sok, flt_imv, flt_one, flt_eq, set_hs, ld_hs, sumS_len, lk_ints, setK_nil]
      refine callX_of told_ret (.inl rfl) ?_
      simp only [VC0, VC1, VC2, VC3, VC4, VC5, VC6, VC7, VC8, VC9, reduceIte, reduceCtorEq, Nat.reduceEqDiff, Nat.reduceAdd, Nat.reduceMul, Nat.reduceBEq, Nat.reduceLT, Nat.reduceLeDiff, Int.reduceEq, Int.reduceLT, Int.reduceLE, Int.reduceNeg, Int.reduceToNat, Int.reduceAdd, Nat.reduceDiv, Nat.reduceSub, Nat.reduceMod, encL, lk_len, lk_ld, lk_set, lk_app, lk_imv, lk_snap, lk_sok, lk_one, lk_ldall, lk_setall, lk_mk, List.length_set, List.length_append, List.length_singleton, List.length_replicate, fold_or32, fold_xor32, fold_and32, fold_shl32, fold_shr32, fold_add32, fold_not32, sc_one, rv2, rv3, Option.bind_some, Option.map_some, Option.some.injEq, exists_eq_left', List.getElem?_cons_zero, List.getElem?_cons_succ, ld_0, ld_1, ld_2, sc_0, sc_1, sc_2, List.take_succ_cons, List.take_zero, List.all_cons, List.all_nil, List.map_cons, List.map_nil, Bool.and_true, Bool.true_and, flt_snap, flt_sok, flt_imv, flt_one, flt_eq, set_hs, ld_hs, sumS_len, lk_ints, setK_nil]
end Go.Proofs.Ythpffaofpcikiaa

set_option linter.unusedSimpArgs false
set_option linter.unusedVariables false
namespace Go.Proofs.Ythpffaofpcikiaa
open Go Go.Lg Go.RowKit Go.ChangeShapes Go.WideShapes Go.ChangeAt
set_option linter.unusedVariables false

theorem own : ownKnob Try.prog.godebug = none := by kernel_rfl
theorem laidOut : laidOutB Try.prog = true := by kernel_rfl
theorem tiles : tilesOk Try.prog = true := by kernel_rfl

theorem isU8T {P : Program} {t : TypeId} (h : kindF P t = some .u8) : IsT P t (fun n : Int => cK .u8 n) (fun n => 0 ≤ n ∧ n < 256) := by
  intro xs hx
  unfold kindF at h
  cases hx with
  | int _ k n hu hw =>
    simp only [hu, Option.some.injEq] at h
    subst h
    refine ⟨n, rfl, ?_⟩
    simp [Lit.wf, IntKind.min, IntKind.max, IntKind.signed, IntKind.bits] at hw
    omega
  | other _ d hu ho => simp only [hu] at h; cases d <;> simp_all [otherOk]
  | _ => simp_all
theorem tyU8 : IsT Try.prog 5 (fun n : Int => cK .u8 n) (fun n => 0 ≤ n ∧ n < 256) := isU8T (by kernel_rfl)
theorem tyBytes : IsT Try.prog 27 cBs (fun b => b.length ≤ maxLen ∧ isBy b) := isSl (e := 5) (s := 1) (by kernel_rfl) (by decide) cK_len tyU8
theorem tyBytess : IsT Try.prog 38 (fun L : List (List Int) => [encL cBs L]) (fun L => L.length ≤ maxLen ∧ ∀ b ∈ L, b.length ≤ maxLen ∧ isBy b) := isSl (e := 27) (s := 1) (by kernel_rfl) (by decide) (fun _ => rfl) tyBytes

/-- An argument of one cell. -/
theorem arg_one {P : Program} (htile : tilesOk P = true) {H : Type} {enc : TypeId × Value → H} {w : World} {t : TypeId} {d0 : TypeDesc} {α : Type} {f : α → V} {ok : α → Prop} {r : Reach} {b0 : Nat} {v : Value} {d : DataW H} {p : List MemPlace}
    (ht : P.underlying t = some d0) (hd : (∃ q, d0 = .int q) ∨ ∃ e, d0 = .slice e) (hin : t < P.types.size) (hT : IsT P t (fun x => [f x]) ok) (hv : Value.okWide P w r b0 t v) (h : DataW.Trod enc P w 0 (fun _ => true) true t v d p) :
    ∃ x : α, ok x ∧ RepI (· < w.heap.size) w v (f x) := by
  have hna : v.cells = #[v] := by
    cases v with
    | agg cs =>
      exfalso
      rcases hd with ⟨q, rfl⟩ | ⟨e, rfl⟩ <;> simp [Value.okWide, Cell.okWide, Cell.ok, ht] at hv
    | _ => rfl
  obtain ⟨fuel, hf⟩ := h
  obtain ⟨xs, hty, hl, hr⟩ := trod_rep htile fuel t _ d p hin hf
  obtain ⟨x, rfl, hok⟩ := hT xs hty
  rw [hna] at hr
  exact ⟨x, hok, hr 0 v (f x) rfl rfl⟩

end Go.Proofs.Ythpffaofpcikiaa
