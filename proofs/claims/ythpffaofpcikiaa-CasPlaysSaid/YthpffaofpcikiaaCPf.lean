/-
  Csf Csg Sf Lib Fi Byd Csi Csm Cso Fj Big Csq: put together.
-/
import Derived.Test.YthpffaofpcikiaaCPe
import Derived.Test.YthpffaofpcikiaaCPc
import Derived.Shelf.SlSortCmp.NoneTotal
import Derived.Shelf.SlGeneric
import Derived.Ground.SlsfProg
import Derived.Test.YthpffaofpcikiaaProg
import Derived.Test.YthpffaofpcikiaaCPd
set_option linter.unusedSimpArgs false
set_option linter.unusedVariables false
namespace Go.Proofs.Ythpffaofpcikiaa
open Go Go.Lg Go.RowKit
set_option linter.unusedVariables false
set_option linter.unusedSimpArgs false

theorem sc_0 (x a : V) (r : List V) : setCells (x :: r) 0 [a] = a :: r := rfl
theorem sc_1 (x y a : V) (r : List V) : setCells (x :: y :: r) 1 [a] = x :: a :: r := rfl
theorem sc_2 (x y z a : V) (r : List V) : setCells (x :: y :: z :: r) 2 [a] = x :: y :: a :: r := rfl
theorem ld_all {n : Nat} {k : List V} (h : k.length = n) : ldV true n k 0 = some (.agg k) := by
  subst h
  simp [ldV]
theorem set_hs (b : List Int) : setCells [.int .u8 0, .int .u8 0, .int .u8 0, .int .u8 0, .int .u8 0, .int .u8 0, .int .u8 0, .int .u8 0, .int .u8 0, .int .u8 0, .int .u8 0, .int .u8 0, .int .u8 0, .int .u8 0, .int .u8 0, .int .u8 0, .int .u8 0, .int .u8 0, .int .u8 0, .int .u8 0, .int .u8 0, .int .u8 0, .int .u8 0, .int .u8 0, .int .u8 0, .int .u8 0, .int .u8 0, .int .u8 0, .int .u8 0, .int .u8 0, .int .u8 0, .int .u8 0] 0 ((sumS b).flatMap (cK .u8)) = (sumS b).flatMap (cK .u8) := setCells_all (by rw [lk_len, sumS_len]; rfl)
theorem ld_hs (b : List Int) : ldV true 32 ((sumS b).flatMap (cK .u8)) 0 = some (.agg ((sumS b).flatMap (cK .u8))) := ld_all (by rw [lk_len, sumS_len])
theorem setK_nil (k v : V) : setK [] k v = [(k, v)] := rfl
theorem setK_none {es : List (V × V)} {k : V} (v : V) (h : findK k es = none) : setK es k v = es ++ [(k, v)] := by simp only [setK, h]
def hs (b : List Int) : List V := (sumS b).flatMap (cK .u8)
theorem hs_len (b : List Int) : (hs b).length = 32 := by rw [hs, lk_len, sumS_len]
def flt (c a : Int) : V := .ifc 83 (.ip [.int .i64 c, .int .i64 a, .ifc 63 (.int .i64 c)] 0)

theorem flt_snap (H : Heap) (c a : Int) : snap H 8 (flt c a) = flt c a := rfl
theorem flt_sok (H : Heap) (c a : Int) : sok H 8 (flt c a) = true := rfl
theorem flt_imv (c a : Int) : imV 8 (flt c a) = true := rfl
theorem flt_one (c a : Int) : V.one (flt c a) = true := rfl
theorem flt_eq (n l : Bool) (c a : Int) : leqi n l (flt c a) .nili = .A True (.bool n) := by cases l <;> rfl

theorem fault_ret (c a : Int) (hc : c ≠ 0) : PRet Try.prog 24 [.int .i64 c, .int .i64 a] (flt c a) := by
  refine pret_intro fd24 (by simp) ?_
  have h1 : (c == 0) = false := by simp [hc]
  simp only [lc24, VC0, VC1, VC2, VC3, VC4, VC5, VC6, VC7, VC8, VC9, reduceIte, reduceCtorEq, Nat.reduceEqDiff, Nat.reduceAdd, Nat.reduceMul, Nat.reduceBEq, Nat.reduceLT, Nat.reduceLeDiff, Int.reduceEq, Int.reduceLT, Int.reduceLE, Int.reduceNeg, Int.reduceToNat, Int.reduceAdd, Nat.reduceDiv, Nat.reduceSub, Nat.reduceMod, encL, lk_len, lk_ld, lk_set, lk_app, lk_imv, lk_snap, lk_sok, lk_one, lk_ldall, lk_setall, lk_mk, List.length_set, List.length_append, List.length_singleton, List.length_replicate, fold_or32, fold_xor32, fold_and32, fold_shl32, fold_shr32, fold_add32, fold_not32, sc_one, rv2, rv3, Option.bind_some, Option.map_some, Option.some.injEq, exists_eq_left', List.getElem?_cons_zero, List.getElem?_cons_succ, ld_0, ld_1, ld_2, sc_0, sc_1, sc_2, List.take_succ_cons, List.take_zero, List.all_cons, List.all_nil, List.map_cons, List.map_nil, Bool.and_true, Bool.true_and, flt_snap, flt_sok, flt_imv, flt_one, flt_eq, set_hs, ld_hs, sumS_len, lk_ints, setK_nil, h1]
  rfl

theorem told_flt (c a : Int) : PRet Try.prog 29 [flt c a] (.tup [.int .i64 c, .int .i64 a]) := by
  refine pret_intro fd29 (by simp) ?_
  simp only [lc29, flt, VC0, VC1, VC2, VC3, VC4, VC5, VC6, VC7, VC8, VC9, reduceIte, reduceCtorEq, Nat.reduceEqDiff, Nat.reduceAdd, Nat.reduceMul, Nat.reduceBEq, Nat.reduceLT, Nat.reduceLeDiff, Int.reduceEq, Int.reduceLT, Int.reduceLE, Int.reduceNeg, Int.reduceToNat, Int.reduceAdd, Nat.reduceDiv, Nat.reduceSub, Nat.reduceMod, encL, lk_len, lk_ld, lk_set, lk_app, lk_imv, lk_snap, lk_sok, lk_one, lk_ldall, lk_setall, lk_mk, List.length_set, List.length_append, List.length_singleton, List.length_replicate, fold_or32, fold_xor32, fold_and32, fold_shl32, fold_shr32, fold_add32, fold_not32, sc_one, rv2, rv3, Option.bind_some, Option.map_some, Option.some.injEq, exists_eq_left', List.getElem?_cons_zero, List.getElem?_cons_succ, ld_0, ld_1, ld_2, sc_0, sc_1, sc_2, List.take_succ_cons, List.take_zero, List.all_cons, List.all_nil, List.map_cons, List.map_nil, Bool.and_true, Bool.true_and, flt_snap, flt_sok, flt_imv, flt_one, flt_eq, set_hs, ld_hs, sumS_len, lk_ints, setK_nil]
  refine loop_vcg (ι := Nat × (Nat → Nat)) (fun (k, c0) => stO [(4, .val (.ip [.int .i64 c, .int .i64 a, .ifc 63 (.int .i64 c)] 0)), (6, .val (.int .i64 c)), (7, .val (.int .i64 a)), (8, .val (.int .i64 k))] c0)
    (fun (k, _) => k = 0) (fun (k, _) => 200 - k) (0, _) rfl (ent_of _ [] rfl rfl (by simp only [VC0, VC1, VC2, VC3, VC4, VC5, VC6, VC7, VC8, VC9, reduceIte, reduceCtorEq, Nat.reduceEqDiff, Nat.reduceAdd, Nat.reduceMul, Nat.reduceBEq, Nat.reduceLT, Nat.reduceLeDiff, Int.reduceEq, Int.reduceLT, Int.reduceLE, Int.reduceNeg, Int.reduceToNat, Int.reduceAdd, Nat.reduceDiv, Nat.reduceSub, Nat.reduceMod, encL, lk_len, lk_ld, lk_set, lk_app, lk_imv, lk_snap, lk_sok, lk_one, lk_ldall, lk_setall, lk_mk, List.length_set, List.length_append, List.length_singleton, List.length_replicate, fold_or32, fold_xor32, fold_and32, fold_shl32, fold_shr32, fold_add32, fold_not32, sc_one, rv2, rv3, Option.bind_some, Option.map_some, Option.some.injEq, exists_eq_left', List.getElem?_cons_zero, List.getElem?_cons_succ, ld_0, ld_1, ld_2, sc_0, sc_1, sc_2, List.take_succ_cons, List.take_zero, List.all_cons, List.all_nil, List.map_cons, List.map_nil, Bool.and_true, Bool.true_and, flt_snap, flt_sok, flt_imv, flt_one, flt_eq, set_hs, ld_hs, sumS_len, lk_ints, setK_nil])) ?_
  rintro ⟨k, c0⟩ hk
  obtain rfl : k = 0 := hk
  simp only [VC0, VC1, VC2, VC3, VC4, VC5, VC6, VC7, VC8, VC9, reduceIte, reduceCtorEq, Nat.reduceEqDiff, Nat.reduceAdd, Nat.reduceMul, Nat.reduceBEq, Nat.reduceLT, Nat.reduceLeDiff, Int.reduceEq, Int.reduceLT, Int.reduceLE, Int.reduceNeg, Int.reduceToNat, Int.reduceAdd, Nat.reduceDiv, Nat.reduceSub, Nat.reduceMod, encL, lk_len, lk_ld, lk_set, lk_app, lk_imv, lk_snap, lk_sok, lk_one, lk_ldall, lk_setall, lk_mk, List.length_set, List.length_append, List.length_singleton, List.length_replicate, fold_or32, fold_xor32, fold_and32, fold_shl32, fold_shr32, fold_add32, fold_not32, sc_one, rv2, rv3, Option.bind_some, Option.map_some, Option.some.injEq, exists_eq_left', List.getElem?_cons_zero, List.getElem?_cons_succ, ld_0, ld_1, ld_2, sc_0, sc_1, sc_2, List.take_succ_cons, List.take_zero, List.all_cons, List.all_nil, List.map_cons, List.map_nil, Bool.and_true, Bool.true_and, flt_snap, flt_sok, flt_imv, flt_one, flt_eq, set_hs, ld_hs, sumS_len, lk_ints, setK_nil]
theorem told_nil : PRet Try.prog 29 [.nili] (.tup [.int .i64 0, .int .i64 0]) := by
  refine pret_intro fd29 (by simp) ?_
  simp only [lc29, VC0, VC1, VC2, VC3, VC4, VC5, VC6, VC7, VC8, VC9, reduceIte, reduceCtorEq, Nat.reduceEqDiff, Nat.reduceAdd, Nat.reduceMul, Nat.reduceBEq, Nat.reduceLT, Nat.reduceLeDiff, Int.reduceEq, Int.reduceLT, Int.reduceLE, Int.reduceNeg, Int.reduceToNat, Int.reduceAdd, Nat.reduceDiv, Nat.reduceSub, Nat.reduceMod, encL, lk_len, lk_ld, lk_set, lk_app, lk_imv, lk_snap, lk_sok, lk_one, lk_ldall, lk_setall, lk_mk, List.length_set, List.length_append, List.length_singleton, List.length_replicate, fold_or32, fold_xor32, fold_and32, fold_shl32, fold_shr32, fold_add32, fold_not32, sc_one, rv2, rv3, Option.bind_some, Option.map_some, Option.some.injEq, exists_eq_left', List.getElem?_cons_zero, List.getElem?_cons_succ, ld_0, ld_1, ld_2, sc_0, sc_1, sc_2, List.take_succ_cons, List.take_zero, List.all_cons, List.all_nil, List.map_cons, List.map_nil, Bool.and_true, Bool.true_and, flt_snap, flt_sok, flt_imv, flt_one, flt_eq, set_hs, ld_hs, sumS_len, lk_ints, setK_nil]

theorem is_flt (c a c' a' : Int) : PRet Try.prog 13 [flt c a, .int .i64 c', .int .i64 a'] (.bool ((c == c') && (a == a'))) := by
  refine pret_intro fd13 (by simp) ?_
  simp only [lc13, VC0, VC1, VC2, VC3, VC4, VC5, VC6, VC7, VC8, VC9, reduceIte, reduceCtorEq, Nat.reduceEqDiff, Nat.reduceAdd, Nat.reduceMul, Nat.reduceBEq, Nat.reduceLT, Nat.reduceLeDiff, Int.reduceEq, Int.reduceLT, Int.reduceLE, Int.reduceNeg, Int.reduceToNat, Int.reduceAdd, Nat.reduceDiv, Nat.reduceSub, Nat.reduceMod, encL, lk_len, lk_ld, lk_set, lk_app, lk_imv, lk_snap, lk_sok, lk_one, lk_ldall, lk_setall, lk_mk, List.length_set, List.length_append, List.length_singleton, List.length_replicate, fold_or32, fold_xor32, fold_and32, fold_shl32, fold_shr32, fold_add32, fold_not32, sc_one, rv2, rv3, Option.bind_some, Option.map_some, Option.some.injEq, exists_eq_left', List.getElem?_cons_zero, List.getElem?_cons_succ, ld_0, ld_1, ld_2, sc_0, sc_1, sc_2, List.take_succ_cons, List.take_zero, List.all_cons, List.all_nil, List.map_cons, List.map_nil, Bool.and_true, Bool.true_and, flt_snap, flt_sok, flt_imv, flt_one, flt_eq, set_hs, ld_hs, sumS_len, lk_ints, setK_nil, flt]
  refine callX_of (told_flt c a) (.inl rfl) ?_
  cases h1 : (c == c') <;> simp only [VC0, VC1, VC2, VC3, VC4, VC5, VC6, VC7, VC8, VC9, reduceIte, reduceCtorEq, Nat.reduceEqDiff, Nat.reduceAdd, Nat.reduceMul, Nat.reduceBEq, Nat.reduceLT, Nat.reduceLeDiff, Int.reduceEq, Int.reduceLT, Int.reduceLE, Int.reduceNeg, Int.reduceToNat, Int.reduceAdd, Nat.reduceDiv, Nat.reduceSub, Nat.reduceMod, encL, lk_len, lk_ld, lk_set, lk_app, lk_imv, lk_snap, lk_sok, lk_one, lk_ldall, lk_setall, lk_mk, List.length_set, List.length_append, List.length_singleton, List.length_replicate, fold_or32, fold_xor32, fold_and32, fold_shl32, fold_shr32, fold_add32, fold_not32, sc_one, rv2, rv3, Option.bind_some, Option.map_some, Option.some.injEq, exists_eq_left', List.getElem?_cons_zero, List.getElem?_cons_succ, ld_0, ld_1, ld_2, sc_0, sc_1, sc_2, List.take_succ_cons, List.take_zero, List.all_cons, List.all_nil, List.map_cons, List.map_nil, Bool.and_true, Bool.true_and, flt_snap, flt_sok, flt_imv, flt_one, flt_eq, set_hs, ld_hs, sumS_len, lk_ints, setK_nil, h1]
  · have : decide (c = c') = false := by simpa using h1
    rw [this, Bool.false_and]
  · have : decide (c = c') = true := by simpa using h1
    rw [this, Bool.true_and]
theorem new_err (n : Int) (h : n < 1 ∨ 4096 < n) : PRet Try.prog 8 [.int .i64 n] (.tup [.nilp, flt 2 0]) := by
  refine pret_intro fd8 (by simp) ?_
  simp only [lc8, VC0, VC1, VC2, VC3, VC4, VC5, VC6, VC7, VC8, VC9, reduceIte, reduceCtorEq, Nat.reduceEqDiff, Nat.reduceAdd, Nat.reduceMul, Nat.reduceBEq, Nat.reduceLT, Nat.reduceLeDiff, Int.reduceEq, Int.reduceLT, Int.reduceLE, Int.reduceNeg, Int.reduceToNat, Int.reduceAdd, Nat.reduceDiv, Nat.reduceSub, Nat.reduceMod, encL, lk_len, lk_ld, lk_set, lk_app, lk_imv, lk_snap, lk_sok, lk_one, lk_ldall, lk_setall, lk_mk, List.length_set, List.length_append, List.length_singleton, List.length_replicate, fold_or32, fold_xor32, fold_and32, fold_shl32, fold_shr32, fold_add32, fold_not32, sc_one, rv2, rv3, Option.bind_some, Option.map_some, Option.some.injEq, exists_eq_left', List.getElem?_cons_zero, List.getElem?_cons_succ, ld_0, ld_1, ld_2, sc_0, sc_1, sc_2, List.take_succ_cons, List.take_zero, List.all_cons, List.all_nil, List.map_cons, List.map_nil, Bool.and_true, Bool.true_and, flt_snap, flt_sok, flt_imv, flt_one, flt_eq, set_hs, ld_hs, sumS_len, lk_ints, setK_nil]
  cases h1 : decide (n < 1) <;> simp only [VC0, VC1, VC2, VC3, VC4, VC5, VC6, VC7, VC8, VC9, reduceIte, reduceCtorEq, Nat.reduceEqDiff, Nat.reduceAdd, Nat.reduceMul, Nat.reduceBEq, Nat.reduceLT, Nat.reduceLeDiff, Int.reduceEq, Int.reduceLT, Int.reduceLE, Int.reduceNeg, Int.reduceToNat, Int.reduceAdd, Nat.reduceDiv, Nat.reduceSub, Nat.reduceMod, encL, lk_len, lk_ld, lk_set, lk_app, lk_imv, lk_snap, lk_sok, lk_one, lk_ldall, lk_setall, lk_mk, List.length_set, List.length_append, List.length_singleton, List.length_replicate, fold_or32, fold_xor32, fold_and32, fold_shl32, fold_shr32, fold_add32, fold_not32, sc_one, rv2, rv3, Option.bind_some, Option.map_some, Option.some.injEq, exists_eq_left', List.getElem?_cons_zero, List.getElem?_cons_succ, ld_0, ld_1, ld_2, sc_0, sc_1, sc_2, List.take_succ_cons, List.take_zero, List.all_cons, List.all_nil, List.map_cons, List.map_nil, Bool.and_true, Bool.true_and, flt_snap, flt_sok, flt_imv, flt_one, flt_eq, set_hs, ld_hs, sumS_len, lk_ints, setK_nil, h1]
  · have h2 : decide (4096 < n) = true := by simp at h1 ⊢; omega
    simp only [VC0, VC1, VC2, VC3, VC4, VC5, VC6, VC7, VC8, VC9, reduceIte, reduceCtorEq, Nat.reduceEqDiff, Nat.reduceAdd, Nat.reduceMul, Nat.reduceBEq, Nat.reduceLT, Nat.reduceLeDiff, Int.reduceEq, Int.reduceLT, Int.reduceLE, Int.reduceNeg, Int.reduceToNat, Int.reduceAdd, Nat.reduceDiv, Nat.reduceSub, Nat.reduceMod, encL, lk_len, lk_ld, lk_set, lk_app, lk_imv, lk_snap, lk_sok, lk_one, lk_ldall, lk_setall, lk_mk, List.length_set, List.length_append, List.length_singleton, List.length_replicate, fold_or32, fold_xor32, fold_and32, fold_shl32, fold_shr32, fold_add32, fold_not32, sc_one, rv2, rv3, Option.bind_some, Option.map_some, Option.some.injEq, exists_eq_left', List.getElem?_cons_zero, List.getElem?_cons_succ, ld_0, ld_1, ld_2, sc_0, sc_1, sc_2, List.take_succ_cons, List.take_zero, List.all_cons, List.all_nil, List.map_cons, List.map_nil, Bool.and_true, Bool.true_and, flt_snap, flt_sok, flt_imv, flt_one, flt_eq, set_hs, ld_hs, sumS_len, lk_ints, setK_nil, h2]
    refine callX_of (fault_ret 2 0 (by decide)) (.inl rfl) ?_
    simp only [VC0, VC1, VC2, VC3, VC4, VC5, VC6, VC7, VC8, VC9, reduceIte, reduceCtorEq, Nat.reduceEqDiff, Nat.reduceAdd, Nat.reduceMul, Nat.reduceBEq, Nat.reduceLT, Nat.reduceLeDiff, Int.reduceEq, Int.reduceLT, Int.reduceLE, Int.reduceNeg, Int.reduceToNat, Int.reduceAdd, Nat.reduceDiv, Nat.reduceSub, Nat.reduceMod, encL, lk_len, lk_ld, lk_set, lk_app, lk_imv, lk_snap, lk_sok, lk_one, lk_ldall, lk_setall, lk_mk, List.length_set, List.length_append, List.length_singleton, List.length_replicate, fold_or32, fold_xor32, fold_and32, fold_shl32, fold_shr32, fold_add32, fold_not32, sc_one, rv2, rv3, Option.bind_some, Option.map_some, Option.some.injEq, exists_eq_left', List.getElem?_cons_zero, List.getElem?_cons_succ, ld_0, ld_1, ld_2, sc_0, sc_1, sc_2, List.take_succ_cons, List.take_zero, List.all_cons, List.all_nil, List.map_cons, List.map_nil, Bool.and_true, Bool.true_and, flt_snap, flt_sok, flt_imv, flt_one, flt_eq, set_hs, ld_hs, sumS_len, lk_ints, setK_nil]
    rfl
  · refine callX_of (fault_ret 2 0 (by decide)) (.inl rfl) ?_
    simp only [VC0, VC1, VC2, VC3, VC4, VC5, VC6, VC7, VC8, VC9, reduceIte, reduceCtorEq, Nat.reduceEqDiff, Nat.reduceAdd, Nat.reduceMul, Nat.reduceBEq, Nat.reduceLT, Nat.reduceLeDiff, Int.reduceEq, Int.reduceLT, Int.reduceLE, Int.reduceNeg, Int.reduceToNat, Int.reduceAdd, Nat.reduceDiv, Nat.reduceSub, Nat.reduceMod, encL, lk_len, lk_ld, lk_set, lk_app, lk_imv, lk_snap, lk_sok, lk_one, lk_ldall, lk_setall, lk_mk, List.length_set, List.length_append, List.length_singleton, List.length_replicate, fold_or32, fold_xor32, fold_and32, fold_shl32, fold_shr32, fold_add32, fold_not32, sc_one, rv2, rv3, Option.bind_some, Option.map_some, Option.some.injEq, exists_eq_left', List.getElem?_cons_zero, List.getElem?_cons_succ, ld_0, ld_1, ld_2, sc_0, sc_1, sc_2, List.take_succ_cons, List.take_zero, List.all_cons, List.all_nil, List.map_cons, List.map_nil, Bool.and_true, Bool.true_and, flt_snap, flt_sok, flt_imv, flt_one, flt_eq, set_hs, ld_hs, sumS_len, lk_ints, setK_nil]
    rfl

theorem count_ret (n : V) (es : List (V × V)) : PRet Try.prog 14 [.ip [n, .im es] 0] (.int .i64 es.length) := by
  refine pret_intro fd14 (by simp) ?_
  simp only [lc14, VC0, VC1, VC2, VC3, VC4, VC5, VC6, VC7, VC8, VC9, reduceIte, reduceCtorEq, Nat.reduceEqDiff, Nat.reduceAdd, Nat.reduceMul, Nat.reduceBEq, Nat.reduceLT, Nat.reduceLeDiff, Int.reduceEq, Int.reduceLT, Int.reduceLE, Int.reduceNeg, Int.reduceToNat, Int.reduceAdd, Nat.reduceDiv, Nat.reduceSub, Nat.reduceMod, encL, lk_len, lk_ld, lk_set, lk_app, lk_imv, lk_snap, lk_sok, lk_one, lk_ldall, lk_setall, lk_mk, List.length_set, List.length_append, List.length_singleton, List.length_replicate, fold_or32, fold_xor32, fold_and32, fold_shl32, fold_shr32, fold_add32, fold_not32, sc_one, rv2, rv3, Option.bind_some, Option.map_some, Option.some.injEq, exists_eq_left', List.getElem?_cons_zero, List.getElem?_cons_succ, ld_0, ld_1, ld_2, sc_0, sc_1, sc_2, List.take_succ_cons, List.take_zero, List.all_cons, List.all_nil, List.map_cons, List.map_nil, Bool.and_true, Bool.true_and, flt_snap, flt_sok, flt_imv, flt_one, flt_eq, set_hs, ld_hs, sumS_len, lk_ints, setK_nil]
end Go.Proofs.Ythpffaofpcikiaa

set_option linter.unusedSimpArgs false
set_option linter.unusedVariables false
namespace Go.Proofs.Ythpffaofpcikiaa
open Go Go.Lg Go.RowKit
set_option linter.unusedVariables false
set_option linter.unusedSimpArgs false

def sumT : Bool := (sumS [121]).getD 0 0 == 161
theorem sumT_true : sumT = true := by kernel_rfl
theorem sum_y : decide (sumS [121] = List.replicate 32 0) = false := by
  have h := sumT_true
  simp only [sumT, beq_iff_eq] at h
  simp only [decide_eq_false_iff_not]
  intro e
  rw [e] at h
  cases h
theorem sum1_ret (x : Int) : PRet Try.prog 27 [.sl 1 [.int .u8 x]] (.agg ((sumS [x]).flatMap (cK .u8))) := sum_ret [x] (by simp)

def keyB (k : List V) : Prop := keyV (.arr 32 .u8) (.agg k) = true
theorem keyB_hs (b : List Int) : keyB (hs b) := by
  have h : decide ((hs b).length = 32) = true := by rw [hs_len]; rfl
  show (decide ((hs b).length = 32) && intsK .u8 (hs b)) = true
  rw [h, Bool.true_and, hs]; exact lk_ints _
theorem keyB_arr {k : List V} (h : keyB k) : k.length = 32 ∧ intsK .u8 k = true := by
  have : (decide (k.length = 32) && intsK .u8 k) = true := h
  simpa using this

theorem take_err (n : V) (es : List (V × V)) (k : List V) (b : List Int) (hb : b.length ≤ 200) (hk : keyB k) (hne : eqInts (hs b) k = false) :
    PRetF Try.prog 17 [.ip [n, .im es] 0, .agg k, encL (cK .u8) b] (flt 11 0) := by
  obtain ⟨k1, k2⟩ := keyB_arr hk
  have h1 : decide ((4194304 : Int) < b.length) = false := by simp; omega
  refine pretF_intro fd17 (by simp) ?_
  simp only [lc17, VC0, VC1, VC2, VC3, VC4, VC5, VC6, VC7, VC8, VC9, reduceIte, reduceCtorEq, Nat.reduceEqDiff, Nat.reduceAdd, Nat.reduceMul, Nat.reduceBEq, Nat.reduceLT, Nat.reduceLeDiff, Int.reduceEq, Int.reduceLT, Int.reduceLE, Int.reduceNeg, Int.reduceToNat, Int.reduceAdd, Nat.reduceDiv, Nat.reduceSub, Nat.reduceMod, encL, lk_len, lk_ld, lk_set, lk_app, lk_imv, lk_snap, lk_sok, lk_one, lk_ldall, lk_setall, lk_mk, List.length_set, List.length_append, List.length_singleton, List.length_replicate, fold_or32, fold_xor32, fold_and32, fold_shl32, fold_shr32, fold_add32, fold_not32, sc_one, rv2, rv3, Option.bind_some, Option.map_some, Option.some.injEq, exists_eq_left', List.getElem?_cons_zero, List.getElem?_cons_succ, ld_0, ld_1, ld_2, sc_0, sc_1, sc_2, List.take_succ_cons, List.take_zero, List.all_cons, List.all_nil, List.map_cons, List.map_nil, Bool.and_true, Bool.true_and, flt_snap, flt_sok, flt_imv, flt_one, flt_eq, set_hs, ld_hs, sumS_len, lk_ints, setK_nil, h1]
  refine callV_of (sum_ret b (by omega)) (.inr (lk_flat 3 _)) ?_
  have hk' : keyV (.arr 32 .u8) (.agg k) = true := hk
  have hb' : keyV (.arr 32 .u8) (.agg (hs b)) = true := keyB_hs b
  have hne' : eqInts ((sumS b).flatMap (cK .u8)) k = false := hne
  simp only [hs] at hb'
  simp only [VC0, VC1, VC2, VC3, VC4, VC5, VC6, VC7, VC8, VC9, reduceIte, reduceCtorEq, Nat.reduceEqDiff, Nat.reduceAdd, Nat.reduceMul, Nat.reduceBEq, Nat.reduceLT, Nat.reduceLeDiff, Int.reduceEq, Int.reduceLT, Int.reduceLE, Int.reduceNeg, Int.reduceToNat, Int.reduceAdd, Nat.reduceDiv, Nat.reduceSub, Nat.reduceMod, encL, lk_len, lk_ld, lk_set, lk_app, lk_imv, lk_snap, lk_sok, lk_one, lk_ldall, lk_setall, lk_mk, List.length_set, List.length_append, List.length_singleton, List.length_replicate, fold_or32, fold_xor32, fold_and32, fold_shl32, fold_shr32, fold_add32, fold_not32, sc_one, rv2, rv3, Option.bind_some, Option.map_some, Option.some.injEq, exists_eq_left', List.getElem?_cons_zero, List.getElem?_cons_succ, ld_0, ld_1, ld_2, sc_0, sc_1, sc_2, List.take_succ_cons, List.take_zero, List.all_cons, List.all_nil, List.map_cons, List.map_nil, Bool.and_true, Bool.true_and, flt_snap, flt_sok, flt_imv, flt_one, flt_eq, set_hs, ld_hs, sumS_len, lk_ints, setK_nil, h1, ld_all k1, k1, k2, hne', sumS_len, lk_ints]
  refine callX_inl fd24 (by simp) ?_
  simp only [lc24, VC0, VC1, VC2, VC3, VC4, VC5, VC6, VC7, VC8, VC9, reduceIte, reduceCtorEq, Nat.reduceEqDiff, Nat.reduceAdd, Nat.reduceMul, Nat.reduceBEq, Nat.reduceLT, Nat.reduceLeDiff, Int.reduceEq, Int.reduceLT, Int.reduceLE, Int.reduceNeg, Int.reduceToNat, Int.reduceAdd, Nat.reduceDiv, Nat.reduceSub, Nat.reduceMod, encL, lk_len, lk_ld, lk_set, lk_app, lk_imv, lk_snap, lk_sok, lk_one, lk_ldall, lk_setall, lk_mk, List.length_set, List.length_append, List.length_singleton, List.length_replicate, fold_or32, fold_xor32, fold_and32, fold_shl32, fold_shr32, fold_add32, fold_not32, sc_one, rv2, rv3, Option.bind_some, Option.map_some, Option.some.injEq, exists_eq_left', List.getElem?_cons_zero, List.getElem?_cons_succ, ld_0, ld_1, ld_2, sc_0, sc_1, sc_2, List.take_succ_cons, List.take_zero, List.all_cons, List.all_nil, List.map_cons, List.map_nil, Bool.and_true, Bool.true_and, flt_snap, flt_sok, flt_imv, flt_one, flt_eq, set_hs, ld_hs, sumS_len, lk_ints, setK_nil, flt]

theorem has_ret (n : V) (es : List (V × V)) (k : List V) (hk : keyB k) (hes : es.all (fun e => keyV (.arr 32 .u8) e.1) = true) : PRet Try.prog 12 [.ip [n, .im es] 0, .agg k] (.bool (findK (.agg k) es).isSome) := by
  refine pret_intro fd12 (by simp) ?_
  obtain ⟨k1, k2⟩ := keyB_arr hk
  simp only [lc12, VC0, VC1, VC2, VC3, VC4, VC5, VC6, VC7, VC8, VC9, reduceIte, reduceCtorEq, Nat.reduceEqDiff, Nat.reduceAdd, Nat.reduceMul, Nat.reduceBEq, Nat.reduceLT, Nat.reduceLeDiff, Int.reduceEq, Int.reduceLT, Int.reduceLE, Int.reduceNeg, Int.reduceToNat, Int.reduceAdd, Nat.reduceDiv, Nat.reduceSub, Nat.reduceMod, encL, lk_len, lk_ld, lk_set, lk_app, lk_imv, lk_snap, lk_sok, lk_one, lk_ldall, lk_setall, lk_mk, List.length_set, List.length_append, List.length_singleton, List.length_replicate, fold_or32, fold_xor32, fold_and32, fold_shl32, fold_shr32, fold_add32, fold_not32, sc_one, rv2, rv3, Option.bind_some, Option.map_some, Option.some.injEq, exists_eq_left', List.getElem?_cons_zero, List.getElem?_cons_succ, ld_0, ld_1, ld_2, sc_0, sc_1, sc_2, List.take_succ_cons, List.take_zero, List.all_cons, List.all_nil, List.map_cons, List.map_nil, Bool.and_true, Bool.true_and, flt_snap, flt_sok, flt_imv, flt_one, flt_eq, set_hs, ld_hs, sumS_len, lk_ints, setK_nil, ld_all k1, k1, k2, hes]
  cases hf : findK (.agg k) es <;> simp only [VC0, VC1, VC2, VC3, VC4, VC5, VC6, VC7, VC8, VC9, reduceIte, reduceCtorEq, Nat.reduceEqDiff, Nat.reduceAdd, Nat.reduceMul, Nat.reduceBEq, Nat.reduceLT, Nat.reduceLeDiff, Int.reduceEq, Int.reduceLT, Int.reduceLE, Int.reduceNeg, Int.reduceToNat, Int.reduceAdd, Nat.reduceDiv, Nat.reduceSub, Nat.reduceMod, encL, lk_len, lk_ld, lk_set, lk_app, lk_imv, lk_snap, lk_sok, lk_one, lk_ldall, lk_setall, lk_mk, List.length_set, List.length_append, List.length_singleton, List.length_replicate, fold_or32, fold_xor32, fold_and32, fold_shl32, fold_shr32, fold_add32, fold_not32, sc_one, rv2, rv3, Option.bind_some, Option.map_some, Option.some.injEq, exists_eq_left', List.getElem?_cons_zero, List.getElem?_cons_succ, ld_0, ld_1, ld_2, sc_0, sc_1, sc_2, List.take_succ_cons, List.take_zero, List.all_cons, List.all_nil, List.map_cons, List.map_nil, Bool.and_true, Bool.true_and, flt_snap, flt_sok, flt_imv, flt_one, flt_eq, set_hs, ld_hs, sumS_len, lk_ints, setK_nil, hf, Option.isSome_none, Option.isSome_some]

theorem rsum1_ret (x : Int) (hx : 0 ≤ x ∧ x < 256) : PRet Try.prog 9 [.sl 1 [.int .u8 x]] (.agg ((sumS [x]).flatMap (cK .u8))) := rsum_ret [x] (by simp) (by simp; omega)
theorem zs_eq : ([.int .u8 0, .int .u8 0, .int .u8 0, .int .u8 0, .int .u8 0, .int .u8 0, .int .u8 0, .int .u8 0, .int .u8 0, .int .u8 0, .int .u8 0, .int .u8 0, .int .u8 0, .int .u8 0, .int .u8 0, .int .u8 0, .int .u8 0, .int .u8 0, .int .u8 0, .int .u8 0, .int .u8 0, .int .u8 0, .int .u8 0, .int .u8 0, .int .u8 0, .int .u8 0, .int .u8 0, .int .u8 0, .int .u8 0, .int .u8 0, .int .u8 0, .int .u8 0] : List V) = (List.replicate 32 (0 : Int)).flatMap (cK .u8) := rfl
theorem take1 (n : V) (es : List (V × V)) : PRetF Try.prog 17 [.ip [n, .im es] 0, .agg [.int .u8 0, .int .u8 0, .int .u8 0, .int .u8 0, .int .u8 0, .int .u8 0, .int .u8 0, .int .u8 0, .int .u8 0, .int .u8 0, .int .u8 0, .int .u8 0, .int .u8 0, .int .u8 0, .int .u8 0, .int .u8 0, .int .u8 0, .int .u8 0, .int .u8 0, .int .u8 0, .int .u8 0, .int .u8 0, .int .u8 0, .int .u8 0, .int .u8 0, .int .u8 0, .int .u8 0, .int .u8 0, .int .u8 0, .int .u8 0, .int .u8 0, .int .u8 0], .sl 1 [.int .u8 121]] (flt 11 0) := by
  have h : eqInts (hs [121]) [.int .u8 0, .int .u8 0, .int .u8 0, .int .u8 0, .int .u8 0, .int .u8 0, .int .u8 0, .int .u8 0, .int .u8 0, .int .u8 0, .int .u8 0, .int .u8 0, .int .u8 0, .int .u8 0, .int .u8 0, .int .u8 0, .int .u8 0, .int .u8 0, .int .u8 0, .int .u8 0, .int .u8 0, .int .u8 0, .int .u8 0, .int .u8 0, .int .u8 0, .int .u8 0, .int .u8 0, .int .u8 0, .int .u8 0, .int .u8 0, .int .u8 0, .int .u8 0] = false := by
    rw [hs, zs_eq, lk_eq]; exact sum_y
  exact take_err n es _ [121] (by simp) (by rw [zs_eq]; rfl) h
theorem told_ret : PRet Try.prog 10 [] (.bool true) := by
  refine pret_intro fd10 (by simp) ?_
  simp only [lc10, VC0, VC1, VC2, VC3, VC4, VC5, VC6, VC7, VC8, VC9, reduceIte, reduceCtorEq, Nat.reduceEqDiff, Nat.reduceAdd, Nat.reduceMul, Nat.reduceBEq, Nat.reduceLT, Nat.reduceLeDiff, Int.reduceEq, Int.reduceLT, Int.reduceLE, Int.reduceNeg, Int.reduceToNat, Int.reduceAdd, Nat.reduceDiv, Nat.reduceSub, Nat.reduceMod, encL, lk_len, lk_ld, lk_set, lk_app, lk_imv, lk_snap, lk_sok, lk_one, lk_ldall, lk_setall, lk_mk, List.length_set, List.length_append, List.length_singleton, List.length_replicate, fold_or32, fold_xor32, fold_and32, fold_shl32, fold_shr32, fold_add32, fold_not32, sc_one, rv2, rv3, Option.bind_some, Option.map_some, Option.some.injEq, exists_eq_left', List.getElem?_cons_zero, List.getElem?_cons_succ, ld_0, ld_1, ld_2, sc_0, sc_1, sc_2, List.take_succ_cons, List.take_zero, List.all_cons, List.all_nil, List.map_cons, List.map_nil, Bool.and_true, Bool.true_and, flt_snap, flt_sok, flt_imv, flt_one, flt_eq, set_hs, ld_hs, sumS_len, lk_ints, setK_nil]
  refine callX_inl fd8 (by simp) ?_
  simp only [lc8, VC0, VC1, VC2, VC3, VC4, VC5, VC6, VC7, VC8, VC9, reduceIte, reduceCtorEq, Nat.reduceEqDiff, Nat.reduceAdd, Nat.reduceMul, Nat.reduceBEq, Nat.reduceLT, Nat.reduceLeDiff, Int.reduceEq, Int.reduceLT, Int.reduceLE, Int.reduceNeg, Int.reduceToNat, Int.reduceAdd, Nat.reduceDiv, Nat.reduceSub, Nat.reduceMod, encL, lk_len, lk_ld, lk_set, lk_app, lk_imv, lk_snap, lk_sok, lk_one, lk_ldall, lk_setall, lk_mk, List.length_set, List.length_append, List.length_singleton, List.length_replicate, fold_or32, fold_xor32, fold_and32, fold_shl32, fold_shr32, fold_add32, fold_not32, sc_one, rv2, rv3, Option.bind_some, Option.map_some, Option.some.injEq, exists_eq_left', List.getElem?_cons_zero, List.getElem?_cons_succ, ld_0, ld_1, ld_2, sc_0, sc_1, sc_2, List.take_succ_cons, List.take_zero, List.all_cons, List.all_nil, List.map_cons, List.map_nil, Bool.and_true, Bool.true_and, flt_snap, flt_sok, flt_imv, flt_one, flt_eq, set_hs, ld_hs, sumS_len, lk_ints, setK_nil]
  refine callX_inl fd11 (by simp) ?_
  simp only [lc11, VC0, VC1, VC2, VC3, VC4, VC5, VC6, VC7, VC8, VC9, reduceIte, reduceCtorEq, Nat.reduceEqDiff, Nat.reduceAdd, Nat.reduceMul, Nat.reduceBEq, Nat.reduceLT, Nat.reduceLeDiff, Int.reduceEq, Int.reduceLT, Int.reduceLE, Int.reduceNeg, Int.reduceToNat, Int.reduceAdd, Nat.reduceDiv, Nat.reduceSub, Nat.reduceMod, encL, lk_len, lk_ld, lk_set, lk_app, lk_imv, lk_snap, lk_sok, lk_one, lk_ldall, lk_setall, lk_mk, List.length_set, List.length_append, List.length_singleton, List.length_replicate, fold_or32, fold_xor32, fold_and32, fold_shl32, fold_shr32, fold_add32, fold_not32, sc_one, rv2, rv3, Option.bind_some, Option.map_some, Option.some.injEq, exists_eq_left', List.getElem?_cons_zero, List.getElem?_cons_succ, ld_0, ld_1, ld_2, sc_0, sc_1, sc_2, List.take_succ_cons, List.take_zero, List.all_cons, List.all_nil, List.map_cons, List.map_nil, Bool.and_true, Bool.true_and, flt_snap, flt_sok, flt_imv, flt_one, flt_eq, set_hs, ld_hs, sumS_len, lk_ints, setK_nil]
  refine callX_of (sum1_ret 120) (.inr (lk_flat 3 _)) ?_
  simp only [VC0, VC1, VC2, VC3, VC4, VC5, VC6, VC7, VC8, VC9, reduceIte, reduceCtorEq, Nat.reduceEqDiff, Nat.reduceAdd, Nat.reduceMul, Nat.reduceBEq, Nat.reduceLT, Nat.reduceLeDiff, Int.reduceEq, Int.reduceLT, Int.reduceLE, Int.reduceNeg, Int.reduceToNat, Int.reduceAdd, Nat.reduceDiv, Nat.reduceSub, Nat.reduceMod, encL, lk_len, lk_ld, lk_set, lk_app, lk_imv, lk_snap, lk_sok, lk_one, lk_ldall, lk_setall, lk_mk, List.length_set, List.length_append, List.length_singleton, List.length_replicate, fold_or32, fold_xor32, fold_and32, fold_shl32, fold_shr32, fold_add32, fold_not32, sc_one, rv2, rv3, Option.bind_some, Option.map_some, Option.some.injEq, exists_eq_left', List.getElem?_cons_zero, List.getElem?_cons_succ, ld_0, ld_1, ld_2, sc_0, sc_1, sc_2, List.take_succ_cons, List.take_zero, List.all_cons, List.all_nil, List.map_cons, List.map_nil, Bool.and_true, Bool.true_and, flt_snap, flt_sok, flt_imv, flt_one, flt_eq, set_hs, ld_hs, sumS_len, lk_ints, setK_nil, sumS_len, set_hs, ld_hs, lk_ints]
  refine callX_inl fd28 (by simp) ?_
  simp only [lc28, VC0, VC1, VC2, VC3, VC4, VC5, VC6, VC7, VC8, VC9, reduceIte, reduceCtorEq, Nat.reduceEqDiff, Nat.reduceAdd, Nat.reduceMul, Nat.reduceBEq, Nat.reduceLT, Nat.reduceLeDiff, Int.reduceEq, Int.reduceLT, Int.reduceLE, Int.reduceNeg, Int.reduceToNat, Int.reduceAdd, Nat.reduceDiv, Nat.reduceSub, Nat.reduceMod, encL, lk_len, lk_ld, lk_set, lk_app, lk_imv, lk_snap, lk_sok, lk_one, lk_ldall, lk_setall, lk_mk, List.length_set, List.length_append, List.length_singleton, List.length_replicate, fold_or32, fold_xor32, fold_and32, fold_shl32, fold_shr32, fold_add32, fold_not32, sc_one, rv2, rv3, Option.bind_some, Option.map_some, Option.some.injEq, exists_eq_left', List.getElem?_cons_zero, List.getElem?_cons_succ, ld_0, ld_1, ld_2, sc_0, sc_1, sc_2, List.take_succ_cons, List.take_zero, List.all_cons, List.all_nil, List.map_cons, List.map_nil, Bool.and_true, Bool.true_and, flt_snap, flt_sok, flt_imv, flt_one, flt_eq, set_hs, ld_hs, sumS_len, lk_ints, setK_nil, sumS_len, set_hs, ld_hs, lk_ints, setK_nil, lk_eq]
  refine callX_inl fd11 (by simp) ?_
  simp only [lc11, VC0, VC1, VC2, VC3, VC4, VC5, VC6, VC7, VC8, VC9, reduceIte, reduceCtorEq, Nat.reduceEqDiff, Nat.reduceAdd, Nat.reduceMul, Nat.reduceBEq, Nat.reduceLT, Nat.reduceLeDiff, Int.reduceEq, Int.reduceLT, Int.reduceLE, Int.reduceNeg, Int.reduceToNat, Int.reduceAdd, Nat.reduceDiv, Nat.reduceSub, Nat.reduceMod, encL, lk_len, lk_ld, lk_set, lk_app, lk_imv, lk_snap, lk_sok, lk_one, lk_ldall, lk_setall, lk_mk, List.length_set, List.length_append, List.length_singleton, List.length_replicate, fold_or32, fold_xor32, fold_and32, fold_shl32, fold_shr32, fold_add32, fold_not32, sc_one, rv2, rv3, Option.bind_some, Option.map_some, Option.some.injEq, exists_eq_left', List.getElem?_cons_zero, List.getElem?_cons_succ, ld_0, ld_1, ld_2, sc_0, sc_1, sc_2, List.take_succ_cons, List.take_zero, List.all_cons, List.all_nil, List.map_cons, List.map_nil, Bool.and_true, Bool.true_and, flt_snap, flt_sok, flt_imv, flt_one, flt_eq, set_hs, ld_hs, sumS_len, lk_ints, setK_nil, setK_nil]
  refine callX_of (sum1_ret 120) (.inr (lk_flat 3 _)) ?_
  simp only [VC0, VC1, VC2, VC3, VC4, VC5, VC6, VC7, VC8, VC9, reduceIte, reduceCtorEq, Nat.reduceEqDiff, Nat.reduceAdd, Nat.reduceMul, Nat.reduceBEq, Nat.reduceLT, Nat.reduceLeDiff, Int.reduceEq, Int.reduceLT, Int.reduceLE, Int.reduceNeg, Int.reduceToNat, Int.reduceAdd, Nat.reduceDiv, Nat.reduceSub, Nat.reduceMod, encL, lk_len, lk_ld, lk_set, lk_app, lk_imv, lk_snap, lk_sok, lk_one, lk_ldall, lk_setall, lk_mk, List.length_set, List.length_append, List.length_singleton, List.length_replicate, fold_or32, fold_xor32, fold_and32, fold_shl32, fold_shr32, fold_add32, fold_not32, sc_one, rv2, rv3, Option.bind_some, Option.map_some, Option.some.injEq, exists_eq_left', List.getElem?_cons_zero, List.getElem?_cons_succ, ld_0, ld_1, ld_2, sc_0, sc_1, sc_2, List.take_succ_cons, List.take_zero, List.all_cons, List.all_nil, List.map_cons, List.map_nil, Bool.and_true, Bool.true_and, flt_snap, flt_sok, flt_imv, flt_one, flt_eq, set_hs, ld_hs, sumS_len, lk_ints, setK_nil, sumS_len, set_hs, ld_hs, lk_ints, setK_nil, lk_eq]
  refine callX_inl fd28 (by simp) ?_
  simp only [lc28, VC0, VC1, VC2, VC3, VC4, VC5, VC6, VC7, VC8, VC9, reduceIte, reduceCtorEq, Nat.reduceEqDiff, Nat.reduceAdd, Nat.reduceMul, Nat.reduceBEq, Nat.reduceLT, Nat.reduceLeDiff, Int.reduceEq, Int.reduceLT, Int.reduceLE, Int.reduceNeg, Int.reduceToNat, Int.reduceAdd, Nat.reduceDiv, Nat.reduceSub, Nat.reduceMod, encL, lk_len, lk_ld, lk_set, lk_app, lk_imv, lk_snap, lk_sok, lk_one, lk_ldall, lk_setall, lk_mk, List.length_set, List.length_append, List.length_singleton, List.length_replicate, fold_or32, fold_xor32, fold_and32, fold_shl32, fold_shr32, fold_add32, fold_not32, sc_one, rv2, rv3, Option.bind_some, Option.map_some, Option.some.injEq, exists_eq_left', List.getElem?_cons_zero, List.getElem?_cons_succ, ld_0, ld_1, ld_2, sc_0, sc_1, sc_2, List.take_succ_cons, List.take_zero, List.all_cons, List.all_nil, List.map_cons, List.map_nil, Bool.and_true, Bool.true_and, flt_snap, flt_sok, flt_imv, flt_one, flt_eq, set_hs, ld_hs, sumS_len, lk_ints, setK_nil, sumS_len, set_hs, ld_hs, lk_ints, setK_nil, lk_eq]
  refine callX_of (new_err 0 (by omega)) (.inl rfl) ?_
  simp only [VC0, VC1, VC2, VC3, VC4, VC5, VC6, VC7, VC8, VC9, reduceIte, reduceCtorEq, Nat.reduceEqDiff, Nat.reduceAdd, Nat.reduceMul, Nat.reduceBEq, Nat.reduceLT, Nat.reduceLeDiff, Int.reduceEq, Int.reduceLT, Int.reduceLE, Int.reduceNeg, Int.reduceToNat, Int.reduceAdd, Nat.reduceDiv, Nat.reduceSub, Nat.reduceMod, encL, lk_len, lk_ld, lk_set, lk_app, lk_imv, lk_snap, lk_sok, lk_one, lk_ldall, lk_setall, lk_mk, List.length_set, List.length_append, List.length_singleton, List.length_replicate, fold_or32, fold_xor32, fold_and32, fold_shl32, fold_shr32, fold_add32, fold_not32, sc_one, rv2, rv3, Option.bind_some, Option.map_some, Option.some.injEq, exists_eq_left', List.getElem?_cons_zero, List.getElem?_cons_succ, ld_0, ld_1, ld_2, sc_0, sc_1, sc_2, List.take_succ_cons, List.take_zero, List.all_cons, List.all_nil, List.map_cons, List.map_nil, Bool.and_true, Bool.true_and, flt_snap, flt_sok, flt_imv, flt_one, flt_eq, set_hs, ld_hs, sumS_len, lk_ints, setK_nil, sumS_len, set_hs, ld_hs, lk_ints, setK_nil, lk_eq]
  refine join_vcg (ι := Nat → Nat) (fun c => stO [(1, .frz (.ip [.int .i64 2, .im [(.agg ((sumS [120]).flatMap (cK .u8)), .sl 1 [.int .u8 120])]] 0)), (3, .box ((sumS [120]).flatMap (cK .u8))), (4, .val .nili), (5, .box ((sumS [120]).flatMap (cK .u8))), (6, .val .nili), (8, .val (flt 2 0)), (10, .val (flt 2 0))] c) (fun _ => True) ?_ ?_
  · simp only [VC0, VC1, VC2, VC3, VC4, VC5, VC6, VC7, VC8, VC9, reduceIte, reduceCtorEq, Nat.reduceEqDiff, Nat.reduceAdd, Nat.reduceMul, Nat.reduceBEq, Nat.reduceLT, Nat.reduceLeDiff, Int.reduceEq, Int.reduceLT, Int.reduceLE, Int.reduceNeg, Int.reduceToNat, Int.reduceAdd, Nat.reduceDiv, Nat.reduceSub, Nat.reduceMod, encL, lk_len, lk_ld, lk_set, lk_app, lk_imv, lk_snap, lk_sok, lk_one, lk_ldall, lk_setall, lk_mk, List.length_set, List.length_append, List.length_singleton, List.length_replicate, fold_or32, fold_xor32, fold_and32, fold_shl32, fold_shr32, fold_add32, fold_not32, sc_one, rv2, rv3, Option.bind_some, Option.map_some, Option.some.injEq, exists_eq_left', List.getElem?_cons_zero, List.getElem?_cons_succ, ld_0, ld_1, ld_2, sc_0, sc_1, sc_2, List.take_succ_cons, List.take_zero, List.all_cons, List.all_nil, List.map_cons, List.map_nil, Bool.and_true, Bool.true_and, flt_snap, flt_sok, flt_imv, flt_one, flt_eq, set_hs, ld_hs, sumS_len, lk_ints, setK_nil]
    refine callX_of (new_err 4097 (by omega)) (.inl rfl) ?_
    simp only [VC0, VC1, VC2, VC3, VC4, VC5, VC6, VC7, VC8, VC9, reduceIte, reduceCtorEq, Nat.reduceEqDiff, Nat.reduceAdd, Nat.reduceMul, Nat.reduceBEq, Nat.reduceLT, Nat.reduceLeDiff, Int.reduceEq, Int.reduceLT, Int.reduceLE, Int.reduceNeg, Int.reduceToNat, Int.reduceAdd, Nat.reduceDiv, Nat.reduceSub, Nat.reduceMod, encL, lk_len, lk_ld, lk_set, lk_app, lk_imv, lk_snap, lk_sok, lk_one, lk_ldall, lk_setall, lk_mk, List.length_set, List.length_append, List.length_singleton, List.length_replicate, fold_or32, fold_xor32, fold_and32, fold_shl32, fold_shr32, fold_add32, fold_not32, sc_one, rv2, rv3, Option.bind_some, Option.map_some, Option.some.injEq, exists_eq_left', List.getElem?_cons_zero, List.getElem?_cons_succ, ld_0, ld_1, ld_2, sc_0, sc_1, sc_2, List.take_succ_cons, List.take_zero, List.all_cons, List.all_nil, List.map_cons, List.map_nil, Bool.and_true, Bool.true_and, flt_snap, flt_sok, flt_imv, flt_one, flt_eq, set_hs, ld_hs, sumS_len, lk_ints, setK_nil, sumS_len, set_hs, ld_hs, lk_ints, setK_nil, lk_eq]
    exact joinTo_of _ trivial (ent_of _ [(12291, 0), (12289, 0), (24583, 0)] rfl rfl (by simp only [VC0, VC1, VC2, VC3, VC4, VC5, VC6, VC7, VC8, VC9, reduceIte, reduceCtorEq, Nat.reduceEqDiff, Nat.reduceAdd, Nat.reduceMul, Nat.reduceBEq, Nat.reduceLT, Nat.reduceLeDiff, Int.reduceEq, Int.reduceLT, Int.reduceLE, Int.reduceNeg, Int.reduceToNat, Int.reduceAdd, Nat.reduceDiv, Nat.reduceSub, Nat.reduceMod, encL, lk_len, lk_ld, lk_set, lk_app, lk_imv, lk_snap, lk_sok, lk_one, lk_ldall, lk_setall, lk_mk, List.length_set, List.length_append, List.length_singleton, List.length_replicate, fold_or32, fold_xor32, fold_and32, fold_shl32, fold_shr32, fold_add32, fold_not32, sc_one, rv2, rv3, Option.bind_some, Option.map_some, Option.some.injEq, exists_eq_left', List.getElem?_cons_zero, List.getElem?_cons_succ, ld_0, ld_1, ld_2, sc_0, sc_1, sc_2, List.take_succ_cons, List.take_zero, List.all_cons, List.all_nil, List.map_cons, List.map_nil, Bool.and_true, Bool.true_and, flt_snap, flt_sok, flt_imv, flt_one, flt_eq, set_hs, ld_hs, sumS_len, lk_ints, setK_nil, setK_nil, lk_imv, lk_snap, List.mem_cons, List.not_mem_nil, or_false, or_true, true_or, false_or, flt]))
  · rintro c _
    simp only [VC0, VC1, VC2, VC3, VC4, VC5, VC6, VC7, VC8, VC9, reduceIte, reduceCtorEq, Nat.reduceEqDiff, Nat.reduceAdd, Nat.reduceMul, Nat.reduceBEq, Nat.reduceLT, Nat.reduceLeDiff, Int.reduceEq, Int.reduceLT, Int.reduceLE, Int.reduceNeg, Int.reduceToNat, Int.reduceAdd, Nat.reduceDiv, Nat.reduceSub, Nat.reduceMod, encL, lk_len, lk_ld, lk_set, lk_app, lk_imv, lk_snap, lk_sok, lk_one, lk_ldall, lk_setall, lk_mk, List.length_set, List.length_append, List.length_singleton, List.length_replicate, fold_or32, fold_xor32, fold_and32, fold_shl32, fold_shr32, fold_add32, fold_not32, sc_one, rv2, rv3, Option.bind_some, Option.map_some, Option.some.injEq, exists_eq_left', List.getElem?_cons_zero, List.getElem?_cons_succ, ld_0, ld_1, ld_2, sc_0, sc_1, sc_2, List.take_succ_cons, List.take_zero, List.all_cons, List.all_nil, List.map_cons, List.map_nil, Bool.and_true, Bool.true_and, flt_snap, flt_sok, flt_imv, flt_one, flt_eq, set_hs, ld_hs, sumS_len, lk_ints, setK_nil, sumS_len, set_hs, ld_hs, lk_ints, setK_nil, lk_eq]
    refine callV_of (rsum1_ret 120 (by omega)) (.inr (lk_flat 3 _)) ?_
    simp only [VC0, VC1, VC2, VC3, VC4, VC5, VC6, VC7, VC8, VC9, reduceIte, reduceCtorEq, Nat.reduceEqDiff, Nat.reduceAdd, Nat.reduceMul, Nat.reduceBEq, Nat.reduceLT, Nat.reduceLeDiff, Int.reduceEq, Int.reduceLT, Int.reduceLE, Int.reduceNeg, Int.reduceToNat, Int.reduceAdd, Nat.reduceDiv, Nat.reduceSub, Nat.reduceMod, encL, lk_len, lk_ld, lk_set, lk_app, lk_imv, lk_snap, lk_sok, lk_one, lk_ldall, lk_setall, lk_mk, List.length_set, List.length_append, List.length_singleton, List.length_replicate, fold_or32, fold_xor32, fold_and32, fold_shl32, fold_shr32, fold_add32, fold_not32, sc_one, rv2, rv3, Option.bind_some, Option.map_some, Option.some.injEq, exists_eq_left', List.getElem?_cons_zero, List.getElem?_cons_succ, ld_0, ld_1, ld_2, sc_0, sc_1, sc_2, List.take_succ_cons, List.take_zero, List.all_cons, List.all_nil, List.map_cons, List.map_nil, Bool.and_true, Bool.true_and, flt_snap, flt_sok, flt_imv, flt_one, flt_eq, set_hs, ld_hs, sumS_len, lk_ints, setK_nil, sumS_len, set_hs, ld_hs, lk_ints, setK_nil, lk_eq]
    refine callV_of (count_ret _ _) (.inl rfl) ?_
    simp only [VC0, VC1, VC2, VC3, VC4, VC5, VC6, VC7, VC8, VC9, reduceIte, reduceCtorEq, Nat.reduceEqDiff, Nat.reduceAdd, Nat.reduceMul, Nat.reduceBEq, Nat.reduceLT, Nat.reduceLeDiff, Int.reduceEq, Int.reduceLT, Int.reduceLE, Int.reduceNeg, Int.reduceToNat, Int.reduceAdd, Nat.reduceDiv, Nat.reduceSub, Nat.reduceMod, encL, lk_len, lk_ld, lk_set, lk_app, lk_imv, lk_snap, lk_sok, lk_one, lk_ldall, lk_setall, lk_mk, List.length_set, List.length_append, List.length_singleton, List.length_replicate, fold_or32, fold_xor32, fold_and32, fold_shl32, fold_shr32, fold_add32, fold_not32, sc_one, rv2, rv3, Option.bind_some, Option.map_some, Option.some.injEq, exists_eq_left', List.getElem?_cons_zero, List.getElem?_cons_succ, ld_0, ld_1, ld_2, sc_0, sc_1, sc_2, List.take_succ_cons, List.take_zero, List.all_cons, List.all_nil, List.map_cons, List.map_nil, Bool.and_true, Bool.true_and, flt_snap, flt_sok, flt_imv, flt_one, flt_eq, set_hs, ld_hs, sumS_len, lk_ints, setK_nil, sumS_len, set_hs, ld_hs, lk_ints, setK_nil, lk_eq]
    refine callV_new (take1 _ _) ?_
    simp only [VC0, VC1, VC2, VC3, VC4, VC5, VC6, VC7, VC8, VC9, reduceIte, reduceCtorEq, Nat.reduceEqDiff, Nat.reduceAdd, Nat.reduceMul, Nat.reduceBEq, Nat.reduceLT, Nat.reduceLeDiff, Int.reduceEq, Int.reduceLT, Int.reduceLE, Int.reduceNeg, Int.reduceToNat, Int.reduceAdd, Nat.reduceDiv, Nat.reduceSub, Nat.reduceMod, encL, lk_len, lk_ld, lk_set, lk_app, lk_imv, lk_snap, lk_sok, lk_one, lk_ldall, lk_setall, lk_mk, List.length_set, List.length_append, List.length_singleton, List.length_replicate, fold_or32, fold_xor32, fold_and32, fold_shl32, fold_shr32, fold_add32, fold_not32, sc_one, rv2, rv3, Option.bind_some, Option.map_some, Option.some.injEq, exists_eq_left', List.getElem?_cons_zero, List.getElem?_cons_succ, ld_0, ld_1, ld_2, sc_0, sc_1, sc_2, List.take_succ_cons, List.take_zero, List.all_cons, List.all_nil, List.map_cons, List.map_nil, Bool.and_true, Bool.true_and, flt_snap, flt_sok, flt_imv, flt_one, flt_eq, set_hs, ld_hs, sumS_len, lk_ints, setK_nil, sumS_len, set_hs, ld_hs, lk_ints, setK_nil, lk_eq]
    refine callV_of (is_flt 11 0 11 0) (.inl rfl) ?_
    simp only [VC0, VC1, VC2, VC3, VC4, VC5, VC6, VC7, VC8, VC9, reduceIte, reduceCtorEq, Nat.reduceEqDiff, Nat.reduceAdd, Nat.reduceMul, Nat.reduceBEq, Nat.reduceLT, Nat.reduceLeDiff, Int.reduceEq, Int.reduceLT, Int.reduceLE, Int.reduceNeg, Int.reduceToNat, Int.reduceAdd, Nat.reduceDiv, Nat.reduceSub, Nat.reduceMod, encL, lk_len, lk_ld, lk_set, lk_app, lk_imv, lk_snap, lk_sok, lk_one, lk_ldall, lk_setall, lk_mk, List.length_set, List.length_append, List.length_singleton, List.length_replicate, fold_or32, fold_xor32, fold_and32, fold_shl32, fold_shr32, fold_add32, fold_not32, sc_one, rv2, rv3, Option.bind_some, Option.map_some, Option.some.injEq, exists_eq_left', List.getElem?_cons_zero, List.getElem?_cons_succ, ld_0, ld_1, ld_2, sc_0, sc_1, sc_2, List.take_succ_cons, List.take_zero, List.all_cons, List.all_nil, List.map_cons, List.map_nil, Bool.and_true, Bool.true_and, flt_snap, flt_sok, flt_imv, flt_one, flt_eq, set_hs, ld_hs, sumS_len, lk_ints, setK_nil, sumS_len, set_hs, ld_hs, lk_ints, setK_nil, lk_eq]
    refine callV_of (is_flt 2 0 2 0) (.inl rfl) ?_
    simp only [VC0, VC1, VC2, VC3, VC4, VC5, VC6, VC7, VC8, VC9, reduceIte, reduceCtorEq, Nat.reduceEqDiff, Nat.reduceAdd, Nat.reduceMul, Nat.reduceBEq, Nat.reduceLT, Nat.reduceLeDiff, Int.reduceEq, Int.reduceLT, Int.reduceLE, Int.reduceNeg, Int.reduceToNat, Int.reduceAdd, Nat.reduceDiv, Nat.reduceSub, Nat.reduceMod, encL, lk_len, lk_ld, lk_set, lk_app, lk_imv, lk_snap, lk_sok, lk_one, lk_ldall, lk_setall, lk_mk, List.length_set, List.length_append, List.length_singleton, List.length_replicate, fold_or32, fold_xor32, fold_and32, fold_shl32, fold_shr32, fold_add32, fold_not32, sc_one, rv2, rv3, Option.bind_some, Option.map_some, Option.some.injEq, exists_eq_left', List.getElem?_cons_zero, List.getElem?_cons_succ, ld_0, ld_1, ld_2, sc_0, sc_1, sc_2, List.take_succ_cons, List.take_zero, List.all_cons, List.all_nil, List.map_cons, List.map_nil, Bool.and_true, Bool.true_and, flt_snap, flt_sok, flt_imv, flt_one, flt_eq, set_hs, ld_hs, sumS_len, lk_ints, setK_nil, sumS_len, set_hs, ld_hs, lk_ints, setK_nil, lk_eq]
    refine callV_of (is_flt 2 0 2 0) (.inl rfl) ?_
    simp only [VC0, VC1, VC2, VC3, VC4, VC5, VC6, VC7, VC8, VC9, reduceIte, reduceCtorEq, Nat.reduceEqDiff, Nat.reduceAdd, Nat.reduceMul, Nat.reduceBEq, Nat.reduceLT, Nat.reduceLeDiff, Int.reduceEq, Int.reduceLT, Int.reduceLE, Int.reduceNeg, Int.reduceToNat, Int.reduceAdd, Nat.reduceDiv, Nat.reduceSub, Nat.reduceMod, encL, lk_len, lk_ld, lk_set, lk_app, lk_imv, lk_snap, lk_sok, lk_one, lk_ldall, lk_setall, lk_mk, List.length_set, List.length_append, List.length_singleton, List.length_replicate, fold_or32, fold_xor32, fold_and32, fold_shl32, fold_shr32, fold_add32, fold_not32, sc_one, rv2, rv3, Option.bind_some, Option.map_some, Option.some.injEq, exists_eq_left', List.getElem?_cons_zero, List.getElem?_cons_succ, ld_0, ld_1, ld_2, sc_0, sc_1, sc_2, List.take_succ_cons, List.take_zero, List.all_cons, List.all_nil, List.map_cons, List.map_nil, Bool.and_true, Bool.true_and, flt_snap, flt_sok, flt_imv, flt_one, flt_eq, set_hs, ld_hs, sumS_len, lk_ints, setK_nil, sumS_len, set_hs, ld_hs, lk_ints, setK_nil, lk_eq]
end Go.Proofs.Ythpffaofpcikiaa

set_option linter.unusedSimpArgs false
set_option linter.unusedVariables false
namespace Go.Lg
open Go Go.RowKit

theorem flatMap_at {α β : Type} {f : α → List β} {k : Nat} (k0 : 0 < k) (hk : ∀ x, (f x).length = k) : ∀ (l : List α) (j : Nat), (l.flatMap f)[j]? = (l[j / k]?).bind fun x => (f x)[j % k]?
  | [], j => by simp
  | x :: r, j => by
    rw [List.flatMap_cons, List.getElem?_append, hk x]
    by_cases h : j < k
    · rw [if_pos h, Nat.div_eq_of_lt h, Nat.mod_eq_of_lt h]; rfl
    · rw [if_neg h, flatMap_at k0 hk r (j - k)]
      obtain ⟨m, rfl⟩ : ∃ m, j = m + k := ⟨j - k, by omega⟩
      rw [Nat.add_sub_cancel, Nat.add_div_right _ k0, Nat.add_mod_right]; rfl
theorem flatMap_size {α β : Type} {f : α → List β} {k : Nat} (hk : ∀ x, (f x).length = k) : ∀ l : List α, (l.flatMap f).length = l.length * k
  | [] => by simp
  | x :: r => by rw [List.flatMap_cons, List.length_append, hk, flatMap_size hk r, List.length_cons, Nat.add_mul, Nat.one_mul, Nat.add_comm]

theorem grow_of_below {W w' : World} (h : BelowD W.heap.size W w') : ∃ q os', w' = Go.Sort.grow (W.drewN q) os' := by
  refine ⟨w'.drawn - W.drawn, w'.heap.extract W.heap.size w'.heap.size, ?_⟩
  have hh : w'.heap = W.heap ++ w'.heap.extract W.heap.size w'.heap.size := by
    apply Array.ext_getElem?
    intro j
    rw [Array.getElem?_append]
    by_cases hj : j < W.heap.size
    · rw [if_pos hj, h.block j hj]
    · rw [if_neg hj, Array.getElem?_extract]
      split
      · congr 1; omega
      · rw [Array.getElem?_eq_none (by omega)]
  have h1 := h.os; have h2 := h.tape; have h3 := h.output; have h4 := h.drawn
  cases w' with
  | mk hp tp dr o out =>
    simp only at h1 h2 h3 h4 hh
    subst h1 h2 h3
    unfold Go.Sort.grow World.drewN
    simp only [World.mk.injEq, true_and, and_true]
    exact ⟨hh, by omega⟩

section
variable {P : Program} {ρ : Go.Shelf.Ren} {α : Type}

/-- An element as it lies: its cells, and what they stand for. -/
structure SElt (imm : Nat → Prop) (w : World) (enc : α → List V) (k : Nat) where
  cs : List Value
  x : α
  len : cs.length = k
  one : ∀ v ∈ cs, v.oneCell' = true
  rep : ∀ (j : Nat) (v : Value) (c : V), cs[j]? = some v → (enc x)[j]? = some c → RepI imm w v c

set_option maxHeartbeats 4000000 in
theorem sortFunc_mut (L : Go.Proofs.SlLaysF0.n6 P ρ) {k : Nat} (k0 : 0 < k) (aE : ∀ w, (isAgg (ρ.t 24)).run P w = .ok true w) (zE : ∀ w, (Go.sizeOf (ρ.t 24)).run P w = .ok k w)
    (enc : α → List V) (hk : ∀ x, (enc x).length = k) (hone : ∀ x, ∀ v ∈ enc x, v.one = true) (cf : α → α → Int) (hO : Go.Sort.SWO (Go.Proofs.ltOf cf)) (g : FuncId) (cap : List V) (hen : entersOk P (ρ.f 6) = true) (hg : entersOk P g = true)
    (hcmp : ∀ x y, PRet P g (.agg (enc x) :: .agg (enc y) :: cap) (.int .i64 (cf x y))) (l l' : List α) (hl : l.length < 4611686018427387904)
    (hu : ∀ l2 : List α, l2.Perm l → l2.Pairwise (fun x y => Go.Proofs.ltOf cf y x = false) → l2 = l') :
    PMut P (ρ.f 6) [.fn g cap] k l.length (l.flatMap enc) none (l'.flatMap enc) := by
  refine ⟨hen, fun imm w vs A c blk himm hvs hrv hnc hA hblk hgl => ?_⟩
  obtain ⟨fv, rfl⟩ : ∃ v, vs = #[v] := Array.size_eq_one_iff.1 hvs
  have hf := hrv 0 fv _ rfl rfl
  by_cases h0 : l.length = 0
  · obtain rfl := List.eq_nil_of_length_eq_zero h0
    obtain rfl : [] = l' := hu [] (.refl _) .nil
    refine (Go.Proofs.AnyF.slices_SortFunc_none (P := P) (ρ := ρ) { L with } A c fv w).mono ?_
    rintro e w' ⟨rfl, rfl⟩
    refine ⟨_, rfl, fun m h => (by cases h), .refl _ _ _, ?_⟩
    cases blk with
    | none => rfl
    | some b => exact hblk.2.2
  cases blk with
  | none =>
    have h1 := congrArg List.length hblk.1
    rw [flatMap_size hk] at h1
    simp only [List.length_nil] at h1
    rcases Nat.mul_eq_zero.1 h1 with h | h
    · exact absurd h h0
    · omega
  | some b =>
    obtain ⟨h1, h2, us, T, fz, q1, q2, q3, q4, q5⟩ := hblk
    rw [hA b rfl (by omega)]
    rw [flatMap_size hk] at q3
    obtain ⟨cb, rfl, hcs, hcr⟩ : ∃ cb : Array Value, fv = .func (.func g) #[] cb ∧ cb.size = cap.length ∧ ∀ (j : Nat) (v : Value) (c : V), cb[j]? = some v → cap[j]? = some c → RepI imm w v c := by
      cases hf with
      | fn _ cb _ hs hj => exact ⟨cb, rfl, hs, hj⟩
    -- the elements
    have hx : ∀ i : Fin l.length, ∀ (j : Nat) (v : Value) (c : V), ((us.toList.drop (i * k)).take k)[j]? = some v → (enc l[i])[j]? = some c → RepI imm w v c := by
      intro i j v c hv hc
      have hj : j < k := by
        have := (List.getElem?_eq_some_iff.1 hc).1
        rwa [hk] at this
      rw [List.getElem?_take, if_pos hj, List.getElem?_drop, Array.getElem?_toList] at hv
      refine q5 (i * k + j) v c hv ?_
      rw [flatMap_at k0 hk, Nat.mul_comm i.1 k, Nat.mul_add_div k0, Nat.div_eq_of_lt hj, Nat.mul_add_mod, Nat.mod_eq_of_lt hj, Nat.add_zero, List.getElem?_eq_getElem i.2]
      exact hc
    have hln : ∀ i : Fin l.length, ((us.toList.drop (i * k)).take k).length = k := by
      intro i
      have : (i.1 + 1) * k ≤ l.length * k := Nat.mul_le_mul_right k i.2
      rw [Nat.add_mul, Nat.one_mul] at this
      rw [List.length_take, List.length_drop, Array.length_toList]; omega
    let mk : Fin l.length → SElt imm w enc k := fun i => ⟨(us.toList.drop (i * k)).take k, l[i], hln i, fun v hv => by
      obtain ⟨j, hj, rfl⟩ := List.getElem_of_mem hv
      have hj2 : j < (enc l[i]).length := by rw [hk]; rw [hln] at hj; exact hj
      exact (Rep.imm _ _ (hx i j _ _ (List.getElem?_eq_getElem hj) (List.getElem?_eq_getElem hj2)) : Rep ⟨imm, fun _ _ => none⟩ w _ _).oneV (hone _ _ (List.getElem_mem hj2)), hx i⟩
    haveI : Inhabited (SElt imm w enc k) := ⟨mk ⟨0, by omega⟩⟩
    let d : Array (SElt imm w enc k) := Array.ofFn mk
    have hds : d.size = l.length := Array.size_ofFn
    have hdl : d.toList.map SElt.x = l := by
      apply List.ext_getElem?
      intro j
      rw [List.getElem?_map, Array.getElem?_toList, Array.getElem?_ofFn]
      by_cases hj : j < l.length
      · rw [dif_pos hj, List.getElem?_eq_getElem hj]; rfl
      · rw [dif_neg hj, List.getElem?_eq_none (by omega)]; rfl
    have hwf : ∀ W : World, (∀ j, imm j → W.heap[j]? = w.heap[j]?) → ∀ v x, RepI imm w v x → RepI imm W v x := fun W hW v x h => h.mono (fun _ h => h) hW
    have hworld : ∀ (m : Nat) (dk : Array (SElt imm w enc k)) (os : Array Obj), (∀ j, j < w.heap.size → j ≠ b → (Go.Proofs.sortWorldK SElt.cs k w b 0 m dk os).heap[j]? = w.heap[j]?) ∧ w.heap.size ≤ (Go.Proofs.sortWorldK SElt.cs k w b 0 m dk os).heap.size := by
      intro m dk os
      refine ⟨fun j hj hb => ?_, ?_⟩
      · simp only [Go.Proofs.sortWorldK]
        rw [Go.Sort.heap_grow_old _ _ (by simpa [Go.Sort.putRowK, Go.Sort.putRow, Go.Sort.mapBlock, Go.Sort.ahead] using hj)]
        simp [Go.Sort.putRowK, Go.Sort.putRow, Go.Sort.mapBlock, Array.getElem?_modify, Ne.symm hb, Go.Sort.ahead]
      · simp [Go.Proofs.sortWorldK, Go.Sort.grow, Go.Sort.putRowK, Go.Sort.putRow, Go.Sort.mapBlock, Go.Sort.ahead]
    have hcl : Go.Proofs.CmpLays P g cb (SElt.cs (imm := imm) (w := w) (enc := enc) (k := k)) k (fun x y => cf x.x y.x) b 0 d.size w := by
      intro m os dk _ x y
      have hW := hworld m dk os
      have hi : ∀ j, imm j → (Go.Proofs.sortWorldK SElt.cs k w b 0 m dk os).heap[j]? = w.heap[j]? := fun j hj => hW.1 j (himm.1 j hj) (fun e => h1 (e ▸ hj))
      refine ((hcmp x.x y.x).2 imm _ (#[.agg x.cs.toArray, .agg y.cs.toArray] ++ cb) ⟨fun j hj => Nat.lt_of_lt_of_le (himm.1 j hj) hW.2, fun p hp => ⟨Nat.lt_of_lt_of_le (himm.2 p hp).1 hW.2, gsOk_heap (hW.1 _ (himm.2 p hp).1 (fun e => hgl p hp (by rw [e]))) (himm.2 p hp).2⟩⟩
        (by simp [hcs]; omega) (fun j u c hu hc => ?_)).mono ?_
      · have ag : ∀ z : SElt imm w enc k, RepI imm (Go.Proofs.sortWorldK SElt.cs k w b 0 m dk os) (.agg z.cs.toArray) (.agg (enc z.x)) := fun z =>
          .agg _ _ (by rw [List.size_toArray, z.len, hk]) fun j v c hv hc => hwf _ hi _ _ (z.rep j v c (by simpa using hv) hc)
        match j, hu, hc with
        | 0, hu, hc => simp [Array.getElem?_append] at hu hc; subst hu hc; exact ag x
        | 1, hu, hc => simp [Array.getElem?_append] at hu hc; subst hu hc; exact ag y
        | j + 2, hu, hc =>
          rw [Array.getElem?_append, if_neg (by simp)] at hu
          exact hwf _ hi _ _ (hcr j u c (by simpa using hu) (by simpa using hc))
      · rintro e w' ⟨v, imm', rfl, hr, hb, _, _⟩
        cases hr
        exact ⟨rfl, grow_of_below hb⟩
    have hSW : Go.Sort.SWO (Go.Proofs.ltOf fun x y : SElt imm w enc k => cf x.x y.x) :=
      ⟨fun x => hO.irrefl x.x, fun x y z => hO.trans x.x y.x z.x, fun x y z => hO.ntrans x.x y.x z.x⟩
    have hH : Go.Sort.HoldsK SElt.cs k w b 0 d := by
      intro j hj
      rw [Go.Sort.size_flatK, hds] at hj
      have hju : j < us.size := by omega
      have hjk : j / k < l.length := (Nat.div_lt_iff_lt_mul k0).2 hj
      have hm : j % k < k := Nat.mod_lt _ k0
      have hd1 : d[j / k]! = mk ⟨j / k, hjk⟩ := by
        rw [getElem!_pos d (j / k) (by omega)]
        exact Array.getElem_ofFn _
      rw [Nat.zero_add, Go.Sort.get_flatK _ _ _ _ (by rw [hds]; exact hj), hd1]
      refine ⟨?_, frozen_at q1 (q2.1 j hju)⟩
      rw [cell_at q1, Array.getElem?_eq_getElem hju]
      show some us[j] = some (((us.toList.drop (j / k * k)).take k)[j % k]!)
      rw [getElem!_pos _ (j % k) (by rw [hln ⟨j / k, hjk⟩]; exact hm), List.getElem_take, List.getElem_drop, Array.getElem_toList]
      congr 2
      rw [Nat.mul_comm, Nat.div_add_mod]
    rw [← hds]
    refine (Go.Proofs.AnyQ.slices_SortFunc L k aE zE SElt.cs (fun x => x.len) (fun x v hv => x.one v hv) (fun x y => cf x.x y.x) hSW g cb b 0 c d w (fun args w => callFunc_run hg) hcl hH h2 (by rw [hds]; exact hl)).mono ?_
    rintro e w' ⟨rfl, d', n, os, hp, hs, rfl⟩
    have hds' : d'.size = l.length := hp.1.trans hds
    have hl' : d'.toList.map SElt.x = l' := by
      refine hu _ ?_ ?_
      · rw [← hdl]
        have h3 := hp.2.2
        rw [Array.extract_eq_self_of_le (by rw [hp.1]; exact Nat.le_refl _), Array.extract_eq_self_of_le (Nat.le_refl _)] at h3
        exact h3.map _
      · rw [List.pairwise_iff_getElem]
        intro i j hi hj hij
        have hi' : i < d'.size := by simpa using hi
        have hj' : j < d'.size := by simpa using hj
        have := hs i j (Nat.zero_le _) hij (by rw [hds]; rwa [hds'] at hj')
        rw [getElem!_pos d' i hi', getElem!_pos d' j hj'] at this
        have h9 : Go.Proofs.ltOf cf (d'[j]'hj').x (d'[i]'hi').x = false := this
        simpa using h9
    have hW := hworld n d' os
    have hi : ∀ j, imm j → (Go.Proofs.sortWorldK SElt.cs k w b 0 n d' os).heap[j]? = w.heap[j]? := fun j hj => hW.1 j (himm.1 j hj) (fun e => h1 (e ▸ hj))
    have hll : l'.length = l.length := by rw [← hl', List.length_map, Array.length_toList, hds']
    refine ⟨_, rfl, fun m h => (by cases h), ⟨rfl, rfl, rfl, hW.2, fun j hj hne => hW.1 j hj (fun e => hne (by rw [e])), Nat.le_add_right _ _⟩, Go.Sort.putCells id 0 (Go.Sort.flatK SElt.cs k d') us, T, fz, ?_, ?_, ?_, ?_, ?_⟩
    · simp only [Go.Proofs.sortWorldK]
      rw [Go.Sort.heap_grow_old _ _ (by simpa [Go.Sort.putRowK, Go.Sort.putRow, Go.Sort.mapBlock, Go.Sort.ahead] using h2)]
      simp [Go.Sort.putRowK, Go.Sort.putRow, Go.Sort.mapBlock, Array.getElem?_modify, Go.Sort.ahead, q1, Go.Sort.onCells]
    · rw [show (Go.Sort.putCells id 0 (Go.Sort.flatK SElt.cs k d') us).size = us.size by simp [Go.Sort.putCells]]; exact q2
    · rw [show (Go.Sort.putCells id 0 (Go.Sort.flatK SElt.cs k d') us).size = us.size by simp [Go.Sort.putCells], flatMap_size hk, hll]; exact q3
    · rw [show (Go.Sort.putCells id 0 (Go.Sort.flatK SElt.cs k d') us).size = us.size by simp [Go.Sort.putCells]]; exact q4
    · intro j u x hu hx
      have hj : j < l.length * k := by
        have := (List.getElem?_eq_some_iff.1 hx).1
        rwa [flatMap_size hk, hll] at this
      have hjk : j / k < l.length := (Nat.div_lt_iff_lt_mul k0).2 hj
      have hm : j % k < k := Nat.mod_lt _ k0
      simp only [Go.Sort.putCells, Array.getElem?_mapIdx, Option.map_eq_some_iff] at hu
      obtain ⟨v, hv, rfl⟩ := hu
      rw [if_pos ⟨Nat.zero_le _, by rw [Go.Sort.size_flatK, hds', Nat.zero_add]; exact hj⟩, Nat.sub_zero, Go.Sort.get_flatK _ _ _ _ (by rw [hds']; exact hj), getElem!_pos d' (j / k) (by rw [hds']; exact hjk)]
      rw [flatMap_at k0 hk, ← hl', List.getElem?_map, Array.getElem?_toList, Array.getElem?_eq_getElem (by rw [hds']; exact hjk)] at hx
      generalize d'[j / k]'(by rw [hds']; exact hjk) = z at hx ⊢
      refine hwf _ hi _ _ (z.rep (j % k) _ x ?_ (by simpa using hx))
      rw [id, getElem!_pos _ (j % k) (by rw [z.len]; exact hm)]
      exact List.getElem?_eq_getElem _
end
end Go.Lg

namespace Go.Proofs
open Go.Shelf
def Try.sortH_ren : Go.Shelf.Ren := ⟨fun | 6 => 31 | 15 => 38 | 14 => 37 | 28 => 50 | 29 => 51 | 20 => 42 | 21 => 43 | 22 => 44 | 23 => 45 | 24 => 46 | 25 => 47 | 26 => 48 | 27 => 49 | 46 => 53 | 47 => 54 | 48 => 55 | 49 => 56 | 50 => 57 | 57 => 58 | n => n, fun | 22 => 47 | 24 => 29 | 25 => 80 | 3 => 3 | 39 => 68 | 0 => 0 | 53 => 69 | 55 => 67 | 4 => 4 | 46 => 93 | 45 => 92 | 50 => 81 | 5 => 5 | 9 => 9 | 66 => 100 | 70 => 104 | 76 => 106 | 77 => 75 | n => n, fun | n => n⟩
theorem Try.sortH : Go.Proofs.SlLaysF0.n6 Try.prog Try.sortH_ren := {
  mixed := by kernel_rfl
  f6 := ⟨Try.f31.name, by decide, Try.func31.trans (congrArg some (by kernel_rfl))⟩
  f14 := ⟨Try.f37.name, by decide, Try.func37.trans (congrArg some (by kernel_rfl))⟩
  f15 := Try.func38.trans (congrArg some (by kernel_rfl))
  f20 := ⟨Try.f42.name, by decide, Try.func42.trans (congrArg some (by kernel_rfl))⟩
  f21 := ⟨Try.f43.name, by decide, Try.func43.trans (congrArg some (by kernel_rfl))⟩
  f22 := ⟨Try.f44.name, by decide, Try.func44.trans (congrArg some (by kernel_rfl))⟩
  f23 := ⟨Try.f45.name, by decide, Try.func45.trans (congrArg some (by kernel_rfl))⟩
  f24 := ⟨Try.f46.name, by decide, Try.func46.trans (congrArg some (by kernel_rfl))⟩
  f25 := ⟨Try.f47.name, by decide, Try.func47.trans (congrArg some (by kernel_rfl))⟩
  f26 := ⟨Try.f48.name, by decide, Try.func48.trans (congrArg some (by kernel_rfl))⟩
  f27 := ⟨Try.f49.name, by decide, Try.func49.trans (congrArg some (by kernel_rfl))⟩
  f28 := Try.func50.trans (congrArg some (by kernel_rfl))
  f29 := Try.func51.trans (congrArg some (by kernel_rfl))
  f46 := ⟨Try.f53.name, by decide, Try.func53.trans (congrArg some (by kernel_rfl))⟩
  f47 := Try.func54.trans (congrArg some (by kernel_rfl))
  f48 := Try.func55.trans (congrArg some (by kernel_rfl))
  f49 := ⟨Try.f56.name, by decide, Try.func56.trans (congrArg some (by kernel_rfl))⟩
  f50 := ⟨Try.f57.name, by decide, Try.func57.trans (congrArg some (by kernel_rfl))⟩
  f57 := ⟨Try.f58.name, by decide, Try.func58.trans (congrArg some (by kernel_rfl))⟩
  t0 := Try.underlying0
  a0 := Try.isAgg0
  z0 := Try.sizeOf0
  v0 := Try.zeroValue0
  t3 := Try.underlying3
  a3 := Try.isAgg3
  z3 := Try.sizeOf3
  v3 := Try.zeroValue3
  t4 := Try.underlying4
  a4 := Try.isAgg4
  z4 := Try.sizeOf4
  v4 := Try.zeroValue4
  t5 := Try.underlying5
  a5 := Try.isAgg5
  z5 := Try.sizeOf5
  v5 := Try.zeroValue5
  t9 := Try.underlying9
  a9 := Try.isAgg9
  z9 := Try.sizeOf9
  v9 := Try.zeroValue9
  t22 := Try.underlying47
  a22 := Try.isAgg47
  z22 := Try.sizeOf47
  v22 := Try.zeroValue47
  t25 := Try.underlying80
  a25 := Try.isAgg80
  z25 := Try.sizeOf80
  v25 := Try.zeroValue80
  t39 := Try.underlying68
  a39 := Try.isAgg68
  z39 := Try.sizeOf68
  v39 := Try.zeroValue68
  t45 := Try.underlying92
  a45 := Try.isAgg92
  z45 := Try.sizeOf92
  v45 := Try.zeroValue92
  t46 := Try.underlying93
  a46 := Try.isAgg93
  z46 := Try.sizeOf93
  v46 := Try.zeroValue93
  t50 := Try.underlying81
  a50 := Try.isAgg81
  z50 := Try.sizeOf81
  v50 := Try.zeroValue81
  t53 := Try.underlying69
  a53 := Try.isAgg69
  z53 := Try.sizeOf69
  v53 := Try.zeroValue69
  t55 := Try.underlying67
  a55 := Try.isAgg67
  z55 := Try.sizeOf67
  v55 := Try.zeroValue67
  t66 := Try.underlying100
  a66 := Try.isAgg100
  z66 := Try.sizeOf100
  v66 := Try.zeroValue100
  t70 := Try.underlying104
  a70 := Try.isAgg104
  z70 := Try.sizeOf104
  v70 := Try.zeroValue104
  t76 := Try.underlying106
  a76 := Try.isAgg106
  z76 := Try.sizeOf106
  v76 := Try.zeroValue106
  t77 := Try.underlying75
  a77 := Try.isAgg75
  z77 := Try.sizeOf75
  v77 := Try.zeroValue75 }
end Go.Proofs

namespace Go.Proofs.Ythpffaofpcikiaa
open Go Go.Lg
set_option maxRecDepth 100000

def lc18 : LC := .seq (.rego 0 [⟨some 2, .mov (.con .e0), none⟩]) (.seq (.seq (.rego 1 [⟨some 5, .mov (.tmp 0), none⟩, ⟨some 6, .eqp false (.tmp 5) (.con .nilp), none⟩]) (.cond (.tmp 6) (.seq (.rego 2 [⟨some 2, .mov (.con .e0), none⟩]) .ret) .skip)) (.seq (.rego 3 [⟨some 3, .mov (.con .e0), none⟩]) (.seq (.seq (.regc 4 [(0, ⟨some 7, .mov (.tmp 0), none⟩), (0, ⟨some 8, .nilchk (.tmp 7), none⟩), (0, ⟨some 9, .fad 1 (.tmp 8), none⟩), (0, ⟨some 10, .load false 1 (.tmp 9), none⟩), (2, ⟨some 11, .rng (.tmp 10), none⟩)]) (.block 0 (.loop (.seq (.regc 5 [(2, ⟨some 12, .nxt (.tmp 11), none⟩), (0, ⟨some 13, .ext (.tmp 12) 0, none⟩)]) (.seq (.cond (.tmp 13) .skip (.exit 0)) (.block 1 (.seq (.regc 6 [(2, ⟨some 14, .ent (.tmp 11), none⟩), (0, ⟨some 15, .ext (.tmp 14) 0, none⟩), (0, ⟨some 4, .new [.int .u8 0, .int .u8 0, .int .u8 0, .int .u8 0, .int .u8 0, .int .u8 0, .int .u8 0, .int .u8 0, .int .u8 0, .int .u8 0, .int .u8 0, .int .u8 0, .int .u8 0, .int .u8 0, .int .u8 0, .int .u8 0, .int .u8 0, .int .u8 0, .int .u8 0, .int .u8 0, .int .u8 0, .int .u8 0, .int .u8 0, .int .u8 0, .int .u8 0, .int .u8 0, .int .u8 0, .int .u8 0, .int .u8 0, .int .u8 0, .int .u8 0, .int .u8 0], none⟩), (0, ⟨none, .store 32 (.tmp 4) (.tmp 15), none⟩)]) (.rego 7 [⟨some 16, .mov (.tmp 3), none⟩, ⟨some 17, .load true 32 (.tmp 4), none⟩, ⟨some 18, .bsl 1 [.int .u8 0, .int .u8 0, .int .u8 0, .int .u8 0, .int .u8 0, .int .u8 0, .int .u8 0, .int .u8 0, .int .u8 0, .int .u8 0, .int .u8 0, .int .u8 0, .int .u8 0, .int .u8 0, .int .u8 0, .int .u8 0, .int .u8 0, .int .u8 0, .int .u8 0, .int .u8 0, .int .u8 0, .int .u8 0, .int .u8 0, .int .u8 0, .int .u8 0, .int .u8 0, .int .u8 0, .int .u8 0, .int .u8 0, .int .u8 0, .int .u8 0, .int .u8 0] [⟨0, 32, .tmp 17⟩], none⟩, ⟨some 19, .app 32 32 (.tmp 16) (.tmp 18), none⟩, ⟨some 3, .mov (.tmp 19), none⟩])))))))) (.seq (.rego 8 [⟨some 20, .mov (.tmp 3), none⟩, ⟨some 21, .call 31 [.tmp 20, .con (.fn 32 [])], none⟩]) (.seq (.rego 9 [⟨some 22, .mov (.tmp 3), none⟩, ⟨some 2, .mov (.tmp 22), none⟩]) .ret)))))
theorem fd18 : fnData Try.prog 18 = some (23, lc18.erase, [LRV.tmp 2]) := by kernel_rfl

def lc32 : LC := .seq (.rego 0 [⟨some 2, .box (.tmp 0), none⟩, ⟨some 3, .box (.tmp 1), none⟩, ⟨some 4, .mov (.con (.int .i64 0)), none⟩]) (.keep [2, 3] (.seq (.regf 1 [0, 0, 3, 7] [⟨some 5, .slA 32 1 (.tmp 2) none none, none⟩, ⟨some 6, .slA 32 1 (.tmp 3) none none, none⟩, ⟨some 7, .call 33 [.tmp 5, .tmp 6], none⟩, ⟨some 4, .mov (.tmp 7), none⟩]) .ret))
theorem fd32 : fnData Try.prog 32 = some (8, lc32.erase, [LRV.tmp 4]) := by kernel_rfl

def lc19 : LC := .seq (.rego 0 [⟨some 2, .box (.tmp 0), none⟩, ⟨some 3, .box (.tmp 1), none⟩, ⟨some 4, .mov (.con (.bool false)), none⟩]) (.keep [2, 3] (.seq (.seq (.rego 1 [⟨some 5, .mov (.con (.int .i64 0)), none⟩]) (.keep [2, 3, 5] (.block 0 (.loop (.seq (.seq (.rego 2 [⟨some 6, .mov (.tmp 5), none⟩, ⟨some 7, .bin .lss (.tmp 6) (.con (.int .i64 32)), none⟩]) (.keep [2, 3, 5, 7] (.cond (.tmp 7) .skip (.exit 0)))) (.keep [2, 3, 5] (.seq (.block 1 (.seq (.reg 4 [⟨some 10, .mov (.tmp 5), none⟩, ⟨some 11, .iaA 32 1 (.tmp 2) (.tmp 10), none⟩, ⟨some 12, .load false 1 (.tmp 11), none⟩, ⟨some 13, .mov (.tmp 5), none⟩, ⟨some 14, .iaA 32 1 (.tmp 3) (.tmp 13), none⟩, ⟨some 15, .load false 1 (.tmp 14), none⟩, ⟨some 16, .bin .neq (.tmp 12) (.tmp 15), none⟩]) (.keep [2, 3, 5, 16] (.cond (.tmp 16) (.keep [2, 3, 5] (.seq (.reg 5 [⟨some 17, .mov (.tmp 5), none⟩, ⟨some 18, .iaA 32 1 (.tmp 2) (.tmp 17), none⟩, ⟨some 19, .load false 1 (.tmp 18), none⟩, ⟨some 20, .mov (.tmp 5), none⟩, ⟨some 21, .iaA 32 1 (.tmp 3) (.tmp 20), none⟩, ⟨some 22, .load false 1 (.tmp 21), none⟩, ⟨some 23, .bin .lss (.tmp 19) (.tmp 22), none⟩, ⟨some 4, .mov (.tmp 23), none⟩]) .ret)) .skip)))) (.keep [2, 3, 5] (.rego 3 [⟨some 8, .mov (.tmp 5), none⟩, ⟨some 9, .bin .add (.tmp 8) (.con (.int .i64 1)), none⟩, ⟨some 5, .mov (.tmp 9), none⟩]))))))))) (.keep [] (.seq (.rego 6 [⟨some 4, .mov (.con (.bool false)), none⟩]) .ret))))
theorem fd19 : fnData Try.prog 19 = some (24, lc19.erase, [LRV.tmp 4]) := by kernel_rfl

def lci17 : LC := .seq (.rego 0 [⟨some 4, .box (.tmp 1), none⟩, ⟨some 6, .mov (.con .nili), none⟩]) (.seq (.seq (.rego 1 [⟨some 7, .mov (.tmp 0), none⟩, ⟨some 8, .eqp false (.tmp 7) (.con .nilp), none⟩]) (.cond (.tmp 8) (.seq (.rego 2 [⟨some 9, .call 24 [.con (.int .i64 1), .con (.int .i64 0)], none⟩, ⟨some 6, .mov (.tmp 9), none⟩]) .ret) .skip)) (.seq (.seq (.rego 3 [⟨some 10, .mov (.tmp 2), none⟩, ⟨some 11, .len false (.tmp 10), none⟩, ⟨some 12, .bin .gtr (.tmp 11) (.con (.int .i64 4194304)), none⟩]) (.cond (.tmp 12) (.seq (.rego 4 [⟨some 13, .call 24 [.con (.int .i64 5), .con (.int .i64 0)], none⟩, ⟨some 6, .mov (.tmp 13), none⟩]) .ret) .skip)) (.seq (.seq (.regf 5 [0, 1, 0, 7] [⟨some 14, .mov (.tmp 2), none⟩, ⟨some 15, .call 27 [.tmp 14], none⟩, ⟨some 16, .load true 32 (.tmp 4), none⟩, ⟨some 17, .eqa 32 .u8 true (.tmp 15) (.tmp 16), none⟩]) (.cond (.tmp 17) (.seq (.rego 6 [⟨some 18, .call 24 [.con (.int .i64 11), .con (.int .i64 0)], none⟩, ⟨some 6, .mov (.tmp 18), none⟩]) .ret) .skip)) (.seq (.rego 7 [⟨some 19, .mov (.tmp 0), none⟩, ⟨some 20, .load true 32 (.tmp 4), none⟩, ⟨some 21, .mov (.tmp 2), none⟩, ⟨some 22, .call 28 [.tmp 19, .tmp 20, .tmp 21], none⟩, ⟨some 6, .mov (.tmp 22), none⟩]) .ret))))
theorem fdi17 : fnData Try.prog 17 = some (23, lci17.erase, [LRV.tmp 6]) := by kernel_rfl

end Go.Proofs.Ythpffaofpcikiaa

set_option linter.unusedSimpArgs false
set_option linter.unusedVariables false
namespace Go.Lg
open Go Go.RowKit
theorem cmpI_self : ∀ a : List Int, cmpI a a = 0
  | [] => rfl
  | x :: a => by rw [cmpI, if_neg (by omega), if_neg (by omega), cmpI_self a]
theorem cmpI_eq : ∀ {a b : List Int}, cmpI a b = 0 → a = b
  | [], [], _ => rfl
  | [], _ :: _, h => by cases h
  | _ :: _, [], h => by cases h
  | x :: a, y :: b, h => by
    rw [cmpI] at h
    split at h
    · cases h
    split at h
    · cases h
    rw [cmpI_eq h, show x = y by omega]
theorem cmpI_neg : ∀ a b : List Int, cmpI b a = - cmpI a b
  | [], [] => rfl
  | [], _ :: _ => rfl
  | _ :: _, [] => rfl
  | x :: a, y :: b => by
    have ih := cmpI_neg a b
    rw [cmpI, cmpI]
    by_cases h1 : x < y
    · rw [if_neg (by omega), if_pos h1, if_pos h1]; rfl
    by_cases h2 : y < x
    · rw [if_pos h2, if_neg h1, if_pos h2]
    rw [if_neg h2, if_neg h1, if_neg h1, if_neg h2, ih]
theorem cmpI_trans : ∀ {a b c : List Int}, cmpI a b < 0 → cmpI b c < 0 → cmpI a c < 0
  | [], [], _, h, _ => by simp [cmpI] at h
  | [], _ :: _, [], _, h => by simp [cmpI] at h
  | [], _ :: _, _ :: _, _, _ => by simp [cmpI]
  | _ :: _, [], _, h, _ => by simp [cmpI] at h
  | _ :: _, _ :: _, [], _, h => by simp [cmpI] at h
  | x :: a, y :: b, z :: c, h1, h2 => by
    rw [cmpI] at *
    have ih := @cmpI_trans a b c
    by_cases h3 : x < y
    · by_cases h4 : y < z
      · rw [if_pos (by omega)]; decide
      · rw [if_neg h4] at h2
        by_cases h5 : z < y
        · rw [if_pos h5] at h2; omega
        · rw [if_pos (by omega)]; decide
    rw [if_neg h3] at h1
    by_cases h3' : y < x
    · rw [if_pos h3'] at h1; omega
    rw [if_neg h3'] at h1
    by_cases h4 : y < z
    · rw [if_pos (by omega)]; decide
    rw [if_neg h4] at h2
    by_cases h5 : z < y
    · rw [if_pos h5] at h2; omega
    rw [if_neg h5] at h2
    rw [if_neg (by omega), if_neg (by omega)]
    exact ih h1 h2
theorem u8_wrap (x : Int) : 0 ≤ IntKind.u8.wrap x ∧ IntKind.u8.wrap x < 256 := by
  have e : IntKind.u8.wrap x = x % 256 := rfl
  rw [e]; omega
theorem outF_by (h : List Int) : ∀ i, isBy (outF h i)
  | 0 => fun x hx => by rw [outF] at hx; rw [List.eq_of_mem_replicate hx]; decide
  | i + 1 => fun x hx => by
    rw [outF] at hx
    rcases List.mem_or_eq_of_mem_set hx with hx | hx
    · exact outF_by h i x hx
    · rw [hx]; exact u8_wrap _
theorem sumS_by (b : List Int) : isBy (sumS b) := outF_by _ _
/-- A sum, whatever of. -/
abbrev HS := { l : List Int // l.length = 32 ∧ isBy l }
def HS.cells (x : HS) : List V := x.1.flatMap (cK .u8)
def hsum (b : List Int) : HS := ⟨sumS b, sumS_len b, sumS_by b⟩
def cmpH (x y : HS) : Int := cmpI x.1 y.1
theorem HS.len (x : HS) : x.cells.length = 32 := by rw [HS.cells, lk_len, x.2.1]
theorem HS.onec (x : HS) : x.cells.all V.one = true := lk_one _
theorem hsum_cells (b : List Int) : (hsum b).cells = (sumS b).flatMap (cK .u8) := by simp only [HS.cells, hsum]
theorem hh_len (l : List HS) : (l.flatMap HS.cells).length = l.length * 32 := flat_len HS.len l
theorem hh_snap (H : Heap) (d : Nat) (l : List HS) : (l.flatMap HS.cells).map (snap H (d + 1)) = l.flatMap HS.cells := by
  induction l with
  | nil => rfl
  | cons x r ih => rw [List.flatMap_cons, List.map_append, ih, HS.cells, lk_snap]
theorem hh_imv (d : Nat) (l : List HS) : (l.flatMap HS.cells).all (imV (d + 1)) = true := by
  induction l with
  | nil => rfl
  | cons x r ih => rw [List.flatMap_cons, List.all_append, ih, HS.cells, lk_imv]; rfl
theorem hh_sok (H : Heap) (d : Nat) (l : List HS) : (l.flatMap HS.cells).all (sok H (d + 1)) = true := by
  induction l with
  | nil => rfl
  | cons x r ih => rw [List.flatMap_cons, List.all_append, ih, HS.cells, lk_sok]; rfl
theorem hh_take {l : List HS} {n : Nat} (h : l.length * 32 ≤ n) : (l.flatMap HS.cells).take n = l.flatMap HS.cells := List.take_of_length_le (by rw [hh_len]; exact h)
theorem hh_e0 : ([] : List HS).flatMap HS.cells = [] := rfl
theorem ltOf_cmpH (a b : HS) : Go.Proofs.ltOf cmpH a b = decide (cmpI a.1 b.1 < 0) := rfl
theorem swoH : Go.Sort.SWO (Go.Proofs.ltOf cmpH) := by
  refine ⟨fun x => by rw [ltOf_cmpH, cmpI_self]; rfl, fun x y z h1 h2 => ?_, fun x y z h1 h2 => ?_⟩
  · rw [ltOf_cmpH, decide_eq_true_eq] at *; exact cmpI_trans h1 h2
  · rw [ltOf_cmpH, decide_eq_false_iff_not] at *
    intro h
    have e1 := cmpI_neg x.1 y.1
    by_cases h3 : cmpI x.1 y.1 = 0
    · rw [cmpI_eq h3] at h; exact h2 h
    · exact h2 (cmpI_trans (by omega) h)
/-- What a store lists. -/
def sortH (l : List HS) : List HS := l.mergeSort fun x y => !Go.Proofs.ltOf cmpH y x
theorem sortH_perm (l : List HS) : (sortH l).Perm l := List.mergeSort_perm ..
theorem sortH_pw (l : List HS) : (sortH l).Pairwise (fun x y => Go.Proofs.ltOf cmpH y x = false) := by
  have hsw := swoH
  have := List.pairwise_mergeSort (le := fun x y : HS => !Go.Proofs.ltOf cmpH y x) (fun a b c h1 h2 => ?_) (fun a b => ?_) l
  · exact this.imp fun {a b} h => by simpa using h
  · simp only [Bool.not_eq_true'] at h1 h2 ⊢
    exact hsw.ntrans _ _ _ h2 h1
  · rw [ltOf_cmpH, ltOf_cmpH]
    have e1 := cmpI_neg b.1 a.1
    simp only [Bool.or_eq_true, Bool.not_eq_true', decide_eq_false_iff_not]
    omega
theorem sortH_uniq {l l2 : List HS} (h1 : l2.Perm l) (h2 : l2.Pairwise (fun x y => Go.Proofs.ltOf cmpH y x = false)) : l2 = sortH l :=
  List.Perm.eq_of_pairwise (le := fun x y => Go.Proofs.ltOf cmpH y x = false) (fun a b _ _ h3 h4 => by
    rw [ltOf_cmpH, decide_eq_false_iff_not] at h3 h4
    have e1 := cmpI_neg a.1 b.1
    exact Subtype.ext (cmpI_eq (by omega))) h2 (sortH_pw l) (h1.trans (sortH_perm l).symm)
theorem sortH_len (l : List HS) : (sortH l).length = l.length := (sortH_perm l).length_eq
theorem sortH_of {l m : List HS} (h : l.Perm m) : sortH l = sortH m := sortH_uniq ((sortH_perm l).trans h) (sortH_pw l)
end Go.Lg
namespace Go.Proofs.Ythpffaofpcikiaa
open Go Go.Lg Go.RowKit
set_option linter.unusedVariables false
set_option linter.unusedSimpArgs false
theorem cmpH_ret (x y : HS) : PRet Try.prog 32 [.agg x.cells, .agg y.cells] (.int .i64 (cmpH x y)) := by
  obtain ⟨a, a1, a2⟩ := x
  obtain ⟨b, b1, b2⟩ := y
  unfold HS.cells cmpH
  simp only []
  have ha : (a.flatMap (cK .u8)).length = 32 := by rw [lk_len, a1]
  have hb : (b.flatMap (cK .u8)).length = 32 := by rw [lk_len, b1]
  refine pret_intro fd32 (by simp) ?_
  simp only [lc32, VC0, VC1, VC2, VC3, VC4, VC5, VC6, VC7, VC8, VC9, reduceIte, reduceCtorEq, Nat.reduceEqDiff, Nat.reduceAdd, Nat.reduceMul, Nat.reduceBEq, Nat.reduceLT, Nat.reduceLeDiff, Int.reduceEq, Int.reduceLT, Int.reduceLE, Int.reduceNeg, Int.reduceToNat, Int.reduceAdd, Nat.reduceDiv, Nat.reduceSub, Nat.reduceMod, encL, lk_len, lk_ld, lk_set, lk_app, lk_imv, lk_snap, lk_sok, lk_one, lk_ldall, lk_setall, lk_mk, List.length_set, List.length_append, List.length_singleton, List.length_replicate, fold_or32, fold_xor32, fold_and32, fold_shl32, fold_shr32, fold_add32, fold_not32, sc_one, rv2, rv3, Option.bind_some, Option.map_some, Option.some.injEq, exists_eq_left', List.getElem?_cons_zero, List.getElem?_cons_succ, ld_0, ld_1, ld_2, sc_0, sc_1, sc_2, List.take_succ_cons, List.take_zero, List.all_cons, List.all_nil, List.map_cons, List.map_nil, Bool.and_true, Bool.true_and, flt_snap, flt_sok, flt_imv, flt_one, flt_eq, set_hs, ld_hs, sumS_len, lk_ints, setK_nil, lk_take, List.take_of_length_le (Nat.le_of_eq a1), List.take_of_length_le (Nat.le_of_eq b1)]
  have h := bcmp_ret a b a2 b2
  simp only [encL, a1, b1] at h
  simp only [a1, b1, Nat.le_refl, decide_true, Bool.and_true, if_true, true_and]
  refine callV_of h (.inr rfl) ?_
  simp only [VC0, VC1, VC2, VC3, VC4, VC5, VC6, VC7, VC8, VC9, reduceIte, reduceCtorEq, Nat.reduceEqDiff, Nat.reduceAdd, Nat.reduceMul, Nat.reduceBEq, Nat.reduceLT, Nat.reduceLeDiff, Int.reduceEq, Int.reduceLT, Int.reduceLE, Int.reduceNeg, Int.reduceToNat, Int.reduceAdd, Nat.reduceDiv, Nat.reduceSub, Nat.reduceMod, encL, lk_len, lk_ld, lk_set, lk_app, lk_imv, lk_snap, lk_sok, lk_one, lk_ldall, lk_setall, lk_mk, List.length_set, List.length_append, List.length_singleton, List.length_replicate, fold_or32, fold_xor32, fold_and32, fold_shl32, fold_shr32, fold_add32, fold_not32, sc_one, rv2, rv3, Option.bind_some, Option.map_some, Option.some.injEq, exists_eq_left', List.getElem?_cons_zero, List.getElem?_cons_succ, ld_0, ld_1, ld_2, sc_0, sc_1, sc_2, List.take_succ_cons, List.take_zero, List.all_cons, List.all_nil, List.map_cons, List.map_nil, Bool.and_true, Bool.true_and, flt_snap, flt_sok, flt_imv, flt_one, flt_eq, set_hs, ld_hs, sumS_len, lk_ints, setK_nil]
theorem sortH_mut (l : List HS) (hl : l.length < 4611686018427387904) : PMut Try.prog 31 [.fn 32 []] 32 l.length (l.flatMap HS.cells) none ((sortH l).flatMap HS.cells) :=
  sortFunc_mut Try.sortH (k := 32) (by decide) Try.isAgg29 Try.sizeOf29 HS.cells HS.len (fun x v hv => List.all_eq_true.1 (HS.onec x) v hv) cmpH swoH 32 [] (by kernel_rfl) (by kernel_rfl) cmpH_ret l (sortH l) hl (fun m2 h1 h2 => sortH_uniq h1 h2)
theorem keys_perm {bs : List (List Int)} {j : Nat} (h : j < bs.length) : bs.Perm (bs[j] :: bs.eraseIdx j) := by
  induction bs generalizing j with
  | nil => exact absurd h (Nat.not_lt_zero _)
  | cons x r ih =>
    cases j with
    | zero => exact .refl _
    | succ j =>
      rw [List.eraseIdx_cons_succ, List.getElem_cons_succ]
      exact ((ih (Nat.lt_of_succ_lt_succ h)).cons x).trans (.swap _ _ _)
theorem ents_erase (bs : List (List Int)) (j : Nat) : (ents bs).eraseIdx j = ents (bs.eraseIdx j) := by
  induction bs generalizing j with
  | nil => rfl
  | cons b r ih =>
    cases j with
    | zero => rfl
    | succ j => rw [List.eraseIdx_cons_succ, ents, ents, List.map_cons, List.map_cons, List.eraseIdx_cons_succ]; exact congrArg _ (ih j)
theorem hh_app1 (ks : List HS) (b : List Int) : ks.flatMap HS.cells ++ (sumS b).flatMap (cK .u8) = (ks ++ [hsum b]).flatMap HS.cells := by
  rw [List.flatMap_append]; simp [HS.cells, hsum]
theorem ents_imv2 (bs : List (List Int)) : (ents bs).all (fun p => imV 8 p.1 && imV 8 p.2) = true := by
  simp only [ents, List.all_map]
  refine List.all_eq_true.2 fun b _ => ?_
  simp only [Function.comp, entB, imV, lk_imv, Bool.and_self]
theorem list_own (n : V) (bs : List (List Int)) (hb : bs.length ≤ 1000000) : PRetM Try.prog 18 [.ip [n, .im (ents bs)] 0] 32 (sortH (bs.map hsum)).length ((sortH (bs.map hsum)).flatMap HS.cells) := by
  refine pretM_intro fd18 (by simp) (hh_len _) ?_
  simp only [lc18, VC0, VC1, VC2, VC3, VC4, VC5, VC6, VC7, VC8, VC9, reduceIte, reduceCtorEq, Nat.reduceEqDiff, Nat.reduceAdd, Nat.reduceMul, Nat.reduceBEq, Nat.reduceLT, Nat.reduceLeDiff, Int.reduceEq, Int.reduceLT, Int.reduceLE, Int.reduceNeg, Int.reduceToNat, Int.reduceAdd, Nat.reduceDiv, Nat.reduceSub, Nat.reduceMod, encL, lk_len, lk_ld, lk_set, lk_app, lk_imv, lk_snap, lk_sok, lk_one, lk_ldall, lk_setall, lk_mk, List.length_set, List.length_append, List.length_singleton, List.length_replicate, fold_or32, fold_xor32, fold_and32, fold_shl32, fold_shr32, fold_add32, fold_not32, sc_one, rv2, rv3, Option.bind_some, Option.map_some, Option.some.injEq, exists_eq_left', List.getElem?_cons_zero, List.getElem?_cons_succ, ld_0, ld_1, ld_2, sc_0, sc_1, sc_2, List.take_succ_cons, List.take_zero, List.all_cons, List.all_nil, List.map_cons, List.map_nil, Bool.and_true, Bool.true_and, flt_snap, flt_sok, flt_imv, flt_one, flt_eq, set_hs, ld_hs, sumS_len, lk_ints, setK_nil]
  refine vstepC_rng (ents bs) rfl ?_
  simp only [VC0, VC1, VC2, VC3, VC4, VC5, VC6, VC7, VC8, VC9, reduceIte, reduceCtorEq, Nat.reduceEqDiff, Nat.reduceAdd, Nat.reduceMul, Nat.reduceBEq, Nat.reduceLT, Nat.reduceLeDiff, Int.reduceEq, Int.reduceLT, Int.reduceLE, Int.reduceNeg, Int.reduceToNat, Int.reduceAdd, Nat.reduceDiv, Nat.reduceSub, Nat.reduceMod, encL, lk_len, lk_ld, lk_set, lk_app, lk_imv, lk_snap, lk_sok, lk_one, lk_ldall, lk_setall, lk_mk, List.length_set, List.length_append, List.length_singleton, List.length_replicate, fold_or32, fold_xor32, fold_and32, fold_shl32, fold_shr32, fold_add32, fold_not32, sc_one, rv2, rv3, Option.bind_some, Option.map_some, Option.some.injEq, exists_eq_left', List.getElem?_cons_zero, List.getElem?_cons_succ, ld_0, ld_1, ld_2, sc_0, sc_1, sc_2, List.take_succ_cons, List.take_zero, List.all_cons, List.all_nil, List.map_cons, List.map_nil, Bool.and_true, Bool.true_and, flt_snap, flt_sok, flt_imv, flt_one, flt_eq, set_hs, ld_hs, sumS_len, lk_ints, setK_nil]
  refine loop_vcg (ι := (List HS × List (List Int)) × (Nat → Nat)) (fun y => stO [(3, .own 32 y.1.1.length (y.1.1.flatMap HS.cells)), (11, .itr (ents y.1.2))] y.2)
    (fun y => (y.1.1 ++ y.1.2.map hsum).Perm (bs.map hsum)) (fun y => y.1.2.length) (([], bs), _) (.refl _) (ent_of _ [] rfl rfl (by simp only [VC0, VC1, VC2, VC3, VC4, VC5, VC6, VC7, VC8, VC9, reduceIte, reduceCtorEq, Nat.reduceEqDiff, Nat.reduceAdd, Nat.reduceMul, Nat.reduceBEq, Nat.reduceLT, Nat.reduceLeDiff, Int.reduceEq, Int.reduceLT, Int.reduceLE, Int.reduceNeg, Int.reduceToNat, Int.reduceAdd, Nat.reduceDiv, Nat.reduceSub, Nat.reduceMod, encL, lk_len, lk_ld, lk_set, lk_app, lk_imv, lk_snap, lk_sok, lk_one, lk_ldall, lk_setall, lk_mk, List.length_set, List.length_append, List.length_singleton, List.length_replicate, fold_or32, fold_xor32, fold_and32, fold_shl32, fold_shr32, fold_add32, fold_not32, sc_one, rv2, rv3, Option.bind_some, Option.map_some, Option.some.injEq, exists_eq_left', List.getElem?_cons_zero, List.getElem?_cons_succ, ld_0, ld_1, ld_2, sc_0, sc_1, sc_2, List.take_succ_cons, List.take_zero, List.all_cons, List.all_nil, List.map_cons, List.map_nil, Bool.and_true, Bool.true_and, flt_snap, flt_sok, flt_imv, flt_one, flt_eq, set_hs, ld_hs, sumS_len, lk_ints, setK_nil, hh_e0, ents_imv2])) ?_
  rintro ⟨⟨ks, lb⟩, c⟩ hp
  simp only [] at hp
  simp only [VC0, VC1, VC2, VC3, VC4, VC5, VC6, VC7, VC8, VC9, reduceIte, reduceCtorEq, Nat.reduceEqDiff, Nat.reduceAdd, Nat.reduceMul, Nat.reduceBEq, Nat.reduceLT, Nat.reduceLeDiff, Int.reduceEq, Int.reduceLT, Int.reduceLE, Int.reduceNeg, Int.reduceToNat, Int.reduceAdd, Nat.reduceDiv, Nat.reduceSub, Nat.reduceMod, encL, lk_len, lk_ld, lk_set, lk_app, lk_imv, lk_snap, lk_sok, lk_one, lk_ldall, lk_setall, lk_mk, List.length_set, List.length_append, List.length_singleton, List.length_replicate, fold_or32, fold_xor32, fold_and32, fold_shl32, fold_shr32, fold_add32, fold_not32, sc_one, rv2, rv3, Option.bind_some, Option.map_some, Option.some.injEq, exists_eq_left', List.getElem?_cons_zero, List.getElem?_cons_succ, ld_0, ld_1, ld_2, sc_0, sc_1, sc_2, List.take_succ_cons, List.take_zero, List.all_cons, List.all_nil, List.map_cons, List.map_nil, Bool.and_true, Bool.true_and, flt_snap, flt_sok, flt_imv, flt_one, flt_eq, set_hs, ld_hs, sumS_len, lk_ints, setK_nil]
  have hkl : ks.length + lb.length = bs.length := by have := hp.length_eq; simpa using this
  refine vstepC_nxt (2199023255552 + 11, 0) (ents lb) none rfl rfl (fun h => ?_) (fun j h => ?_)
  · obtain rfl : lb = [] := by cases lb with | nil => rfl | cons b r => cases h
    simp only [List.map_nil, List.append_nil] at hp
    have hq := sortH_mut ks (by simp at hkl; omega)
    have hs := sortH_of hp
    have hsl := sortH_len ks
    have hsl2 : (sortH (bs.map hsum)).length = ks.length := by rw [← hs, hsl]
    simp only [VC0, VC1, VC2, VC3, VC4, VC5, VC6, VC7, VC8, VC9, reduceIte, reduceCtorEq, Nat.reduceEqDiff, Nat.reduceAdd, Nat.reduceMul, Nat.reduceBEq, Nat.reduceLT, Nat.reduceLeDiff, Int.reduceEq, Int.reduceLT, Int.reduceLE, Int.reduceNeg, Int.reduceToNat, Int.reduceAdd, Nat.reduceDiv, Nat.reduceSub, Nat.reduceMod, encL, lk_len, lk_ld, lk_set, lk_app, lk_imv, lk_snap, lk_sok, lk_one, lk_ldall, lk_setall, lk_mk, List.length_set, List.length_append, List.length_singleton, List.length_replicate, fold_or32, fold_xor32, fold_and32, fold_shl32, fold_shr32, fold_add32, fold_not32, sc_one, rv2, rv3, Option.bind_some, Option.map_some, Option.some.injEq, exists_eq_left', List.getElem?_cons_zero, List.getElem?_cons_succ, ld_0, ld_1, ld_2, sc_0, sc_1, sc_2, List.take_succ_cons, List.take_zero, List.all_cons, List.all_nil, List.map_cons, List.map_nil, Bool.and_true, Bool.true_and, flt_snap, flt_sok, flt_imv, flt_one, flt_eq, set_hs, ld_hs, sumS_len, lk_ints, setK_nil, hh_len, hh_take (Nat.le_refl _), Nat.le_refl, decide_true, Bool.and_true, if_true, true_and]
    refine ⟨hh_sok _ _ _, ?_⟩
    refine callX_mut hq (by simp only [VC0, VC1, VC2, VC3, VC4, VC5, VC6, VC7, VC8, VC9, reduceIte, reduceCtorEq, Nat.reduceEqDiff, Nat.reduceAdd, Nat.reduceMul, Nat.reduceBEq, Nat.reduceLT, Nat.reduceLeDiff, Int.reduceEq, Int.reduceLT, Int.reduceLE, Int.reduceNeg, Int.reduceToNat, Int.reduceAdd, Nat.reduceDiv, Nat.reduceSub, Nat.reduceMod, encL, lk_len, lk_ld, lk_set, lk_app, lk_imv, lk_snap, lk_sok, lk_one, lk_ldall, lk_setall, lk_mk, List.length_set, List.length_append, List.length_singleton, List.length_replicate, fold_or32, fold_xor32, fold_and32, fold_shl32, fold_shr32, fold_add32, fold_not32, sc_one, rv2, rv3, Option.bind_some, Option.map_some, Option.some.injEq, exists_eq_left', List.getElem?_cons_zero, List.getElem?_cons_succ, ld_0, ld_1, ld_2, sc_0, sc_1, sc_2, List.take_succ_cons, List.take_zero, List.all_cons, List.all_nil, List.map_cons, List.map_nil, Bool.and_true, Bool.true_and, flt_snap, flt_sok, flt_imv, flt_one, flt_eq, set_hs, ld_hs, sumS_len, lk_ints, setK_nil]) ?_ rfl ?_ <;> simp only [VC0, VC1, VC2, VC3, VC4, VC5, VC6, VC7, VC8, VC9, reduceIte, reduceCtorEq, Nat.reduceEqDiff, Nat.reduceAdd, Nat.reduceMul, Nat.reduceBEq, Nat.reduceLT, Nat.reduceLeDiff, Int.reduceEq, Int.reduceLT, Int.reduceLE, Int.reduceNeg, Int.reduceToNat, Int.reduceAdd, Nat.reduceDiv, Nat.reduceSub, Nat.reduceMod, encL, lk_len, lk_ld, lk_set, lk_app, lk_imv, lk_snap, lk_sok, lk_one, lk_ldall, lk_setall, lk_mk, List.length_set, List.length_append, List.length_singleton, List.length_replicate, fold_or32, fold_xor32, fold_and32, fold_shl32, fold_shr32, fold_add32, fold_not32, sc_one, rv2, rv3, Option.bind_some, Option.map_some, Option.some.injEq, exists_eq_left', List.getElem?_cons_zero, List.getElem?_cons_succ, ld_0, ld_1, ld_2, sc_0, sc_1, sc_2, List.take_succ_cons, List.take_zero, List.all_cons, List.all_nil, List.map_cons, List.map_nil, Bool.and_true, Bool.true_and, flt_snap, flt_sok, flt_imv, flt_one, flt_eq, set_hs, ld_hs, sumS_len, lk_ints, setK_nil, hh_snap, rmut, ownR, hh_len, hsl2, hs, Nat.le_refl, if_true, hh_take (Nat.le_of_eq (congrArg (· * 32) hsl2)), slOf]
  · have hj : j < lb.length := by rw [ents_len] at h; exact h
    have e : (ents lb)[j] = entB lb[j] := by simp [ents]
    have hp2 : (ks ++ [hsum lb[j]] ++ (lb.eraseIdx j).map hsum).Perm (bs.map hsum) := by
      refine List.Perm.trans ?_ hp
      rw [List.append_assoc]
      exact ((((keys_perm hj).map hsum).symm)).append_left ks
    have hel : (lb.eraseIdx j).length + 1 = lb.length := by rw [List.length_eraseIdx, if_pos hj]; omega
    simp only [VC0, VC1, VC2, VC3, VC4, VC5, VC6, VC7, VC8, VC9, reduceIte, reduceCtorEq, Nat.reduceEqDiff, Nat.reduceAdd, Nat.reduceMul, Nat.reduceBEq, Nat.reduceLT, Nat.reduceLeDiff, Int.reduceEq, Int.reduceLT, Int.reduceLE, Int.reduceNeg, Int.reduceToNat, Int.reduceAdd, Nat.reduceDiv, Nat.reduceSub, Nat.reduceMod, encL, lk_len, lk_ld, lk_set, lk_app, lk_imv, lk_snap, lk_sok, lk_one, lk_ldall, lk_setall, lk_mk, List.length_set, List.length_append, List.length_singleton, List.length_replicate, fold_or32, fold_xor32, fold_and32, fold_shl32, fold_shr32, fold_add32, fold_not32, sc_one, rv2, rv3, Option.bind_some, Option.map_some, Option.some.injEq, exists_eq_left', List.getElem?_cons_zero, List.getElem?_cons_succ, ld_0, ld_1, ld_2, sc_0, sc_1, sc_2, List.take_succ_cons, List.take_zero, List.all_cons, List.all_nil, List.map_cons, List.map_nil, Bool.and_true, Bool.true_and, flt_snap, flt_sok, flt_imv, flt_one, flt_eq, set_hs, ld_hs, sumS_len, lk_ints, setK_nil]
    refine vstepC_ent (2199023255552 + 11, 0) ((ents lb).eraseIdx j) (ents lb)[j] rfl (by simp only [VC0, VC1, VC2, VC3, VC4, VC5, VC6, VC7, VC8, VC9, reduceIte, reduceCtorEq, Nat.reduceEqDiff, Nat.reduceAdd, Nat.reduceMul, Nat.reduceBEq, Nat.reduceLT, Nat.reduceLeDiff, Int.reduceEq, Int.reduceLT, Int.reduceLE, Int.reduceNeg, Int.reduceToNat, Int.reduceAdd, Nat.reduceDiv, Nat.reduceSub, Nat.reduceMod, encL, lk_len, lk_ld, lk_set, lk_app, lk_imv, lk_snap, lk_sok, lk_one, lk_ldall, lk_setall, lk_mk, List.length_set, List.length_append, List.length_singleton, List.length_replicate, fold_or32, fold_xor32, fold_and32, fold_shl32, fold_shr32, fold_add32, fold_not32, sc_one, rv2, rv3, Option.bind_some, Option.map_some, Option.some.injEq, exists_eq_left', List.getElem?_cons_zero, List.getElem?_cons_succ, ld_0, ld_1, ld_2, sc_0, sc_1, sc_2, List.take_succ_cons, List.take_zero, List.all_cons, List.all_nil, List.map_cons, List.map_nil, Bool.and_true, Bool.true_and, flt_snap, flt_sok, flt_imv, flt_one, flt_eq, set_hs, ld_hs, sumS_len, lk_ints, setK_nil]) ?_
    rw [e, ents_erase]
    simp only [entB, VC0, VC1, VC2, VC3, VC4, VC5, VC6, VC7, VC8, VC9, reduceIte, reduceCtorEq, Nat.reduceEqDiff, Nat.reduceAdd, Nat.reduceMul, Nat.reduceBEq, Nat.reduceLT, Nat.reduceLeDiff, Int.reduceEq, Int.reduceLT, Int.reduceLE, Int.reduceNeg, Int.reduceToNat, Int.reduceAdd, Nat.reduceDiv, Nat.reduceSub, Nat.reduceMod, encL, lk_len, lk_ld, lk_set, lk_app, lk_imv, lk_snap, lk_sok, lk_one, lk_ldall, lk_setall, lk_mk, List.length_set, List.length_append, List.length_singleton, List.length_replicate, fold_or32, fold_xor32, fold_and32, fold_shl32, fold_shr32, fold_add32, fold_not32, sc_one, rv2, rv3, Option.bind_some, Option.map_some, Option.some.injEq, exists_eq_left', List.getElem?_cons_zero, List.getElem?_cons_succ, ld_0, ld_1, ld_2, sc_0, sc_1, sc_2, List.take_succ_cons, List.take_zero, List.all_cons, List.all_nil, List.map_cons, List.map_nil, Bool.and_true, Bool.true_and, flt_snap, flt_sok, flt_imv, flt_one, flt_eq, set_hs, ld_hs, sumS_len, lk_ints, setK_nil, sumS_len, set_hs, ld_hs, hh_len, hh_app1]
    refine ⟨⟨by omega, by omega⟩, backTo_of ((ks ++ [hsum lb[j]], lb.eraseIdx j), _) hp2 (by simp only []; omega) (ent_of _ [] rfl rfl ?_)⟩
    simp only [VC0, VC1, VC2, VC3, VC4, VC5, VC6, VC7, VC8, VC9, reduceIte, reduceCtorEq, Nat.reduceEqDiff, Nat.reduceAdd, Nat.reduceMul, Nat.reduceBEq, Nat.reduceLT, Nat.reduceLeDiff, Int.reduceEq, Int.reduceLT, Int.reduceLE, Int.reduceNeg, Int.reduceToNat, Int.reduceAdd, Nat.reduceDiv, Nat.reduceSub, Nat.reduceMod, encL, lk_len, lk_ld, lk_set, lk_app, lk_imv, lk_snap, lk_sok, lk_one, lk_ldall, lk_setall, lk_mk, List.length_set, List.length_append, List.length_singleton, List.length_replicate, fold_or32, fold_xor32, fold_and32, fold_shl32, fold_shr32, fold_add32, fold_not32, sc_one, rv2, rv3, Option.bind_some, Option.map_some, Option.some.injEq, exists_eq_left', List.getElem?_cons_zero, List.getElem?_cons_succ, ld_0, ld_1, ld_2, sc_0, sc_1, sc_2, List.take_succ_cons, List.take_zero, List.all_cons, List.all_nil, List.map_cons, List.map_nil, Bool.and_true, Bool.true_and, flt_snap, flt_sok, flt_imv, flt_one, flt_eq, set_hs, ld_hs, sumS_len, lk_ints, setK_nil, hh_imv, ents_imv2, List.length_append, List.length_cons, List.length_nil]
end Go.Proofs.Ythpffaofpcikiaa

set_option linter.unusedSimpArgs false
set_option linter.unusedVariables false
namespace Go.Proofs.Ythpffaofpcikiaa
open Go Go.Lg Go.RowKit
set_option linter.unusedVariables false
set_option linter.unusedSimpArgs false

theorem fold_bytS (b : List Int) : strOf (b.flatMap (cK .u8)) = bytS b := rfl
end Go.Proofs.Ythpffaofpcikiaa

set_option linter.unusedSimpArgs false
set_option linter.unusedVariables false
namespace Go.Proofs.Ythpffaofpcikiaa
open Go Go.Lg Go.RowKit
set_option linter.unusedVariables false
set_option linter.unusedSimpArgs false

/-- Texts, as cells. -/
def cT (b : List Int) : List V := [.str (bytS b)]
theorem tx_len (L : List (List Int)) : (L.flatMap cT).length = L.length := by
  induction L with
  | nil => rfl
  | cons x r ih => rw [List.flatMap_cons, List.length_append, ih]; simp [cT]; omega
theorem tx_snap (H : Heap) (d : Nat) (L : List (List Int)) : (L.flatMap cT).map (snap H (d + 1)) = L.flatMap cT := by
  induction L with
  | nil => rfl
  | cons x r ih => rw [List.flatMap_cons, List.map_append, ih]; rfl
theorem tx_imv (d : Nat) (L : List (List Int)) : (L.flatMap cT).all (imV d) = true := by
  induction L with
  | nil => rfl
  | cons x r ih => rw [List.flatMap_cons, List.all_append, ih]; cases d <;> rfl
theorem tx_ld {L : List (List Int)} {k : Nat} (h : k < L.length) : ldV false 1 (L.flatMap cT) k = some (.str (bytS (L.getD k []))) := by
  simp only [ldV, Bool.false_eq_true, if_false]
  induction L generalizing k with
  | nil => cases h
  | cons x r ih =>
    cases k with
    | zero => rfl
    | succ k =>
      have := ih (k := k) (by simpa using h)
      simpa [cT] using this
end Go.Proofs.Ythpffaofpcikiaa

set_option linter.unusedSimpArgs false
set_option linter.unusedVariables false
namespace Go.Lg
open Go Go.RowKit
/-- Of the first, no two unlike ones have one sum. -/
structure Apart (M : List (List Int)) (i : Nat) : Prop where
  apart : ∀ j k, j < i → k < i → M.getD j [] = M.getD k [] ∨ sumS (M.getD j []) ≠ sumS (M.getD k [])
  short : ∀ j, j < i → (M.getD j []).length ≤ 200
theorem Apart.zero (M : List (List Int)) : Apart M 0 := ⟨fun j k h => by omega, fun j h => by omega⟩
theorem Apart.next {M : List (List Int)} {i : Nat} (h : Apart M i) (hl : (M.getD i []).length ≤ 200) (hne : ∀ j, j < i → M.getD i [] = M.getD j [] ∨ sumS (M.getD i []) ≠ sumS (M.getD j [])) : Apart M (i + 1) := by
  refine ⟨fun j k hj hk => ?_, fun j hj => ?_⟩
  · rcases Nat.lt_or_ge j i with a | a <;> rcases Nat.lt_or_ge k i with b | b
    · exact h.apart j k a b
    · obtain rfl : k = i := by omega
      rcases hne j a with e | e
      · exact .inl e.symm
      · exact .inr (Ne.symm e)
    · obtain rfl : j = i := by omega
      exact hne k b
    · obtain rfl : j = i := by omega
      obtain rfl : k = j := by omega
      exact .inl rfl
  · rcases Nat.lt_or_ge j i with a | a
    · exact h.short j a
    · obtain rfl : j = i := by omega
      exact hl
theorem Apart.all {M : List (List Int)} (h : Apart M M.length) {b : List Int} (hb : b ∈ M) : b.length ≤ 200 := by
  obtain ⟨j, hj, rfl⟩ := List.mem_iff_getElem.1 hb
  have q := h.short j hj
  rw [List.getD_eq_getElem?_getD, List.getElem?_eq_getElem hj] at q
  exact q
theorem HS.ld {l : List HS} {i : Nat} (h : i < l.length) : ldV true 32 (l.flatMap HS.cells) (i * 32) = some (.agg l[i].cells) := by
  rw [ld_flat0 HS.len h (by decide) (by decide)]
  exact lk_ldall l[i].2.1
theorem cmpI_drop {a b : List Int} {k : Nat} (ha : k < a.length) (hb : k < b.length) : cmpI (a.drop k) (b.drop k) = if a.getD k 0 < b.getD k 0 then -1 else if b.getD k 0 < a.getD k 0 then 1 else cmpI (a.drop (k + 1)) (b.drop (k + 1)) := by
  rw [List.drop_eq_getElem_cons ha, List.drop_eq_getElem_cons hb, cmpI]
  simp only [List.getD_eq_getElem?_getD, List.getElem?_eq_getElem ha, List.getElem?_eq_getElem hb, Option.getD_some]
theorem hh_flat (d : Nat) (l : List HS) : (l.flatMap HS.cells).all (flat d) = true := by
  induction l with
  | nil => rfl
  | cons x r ih => rw [List.flatMap_cons, List.all_append, ih, HS.cells, lk_flat]; rfl
end Go.Lg
namespace Go.Proofs.Ythpffaofpcikiaa
open Go Go.Lg Go.RowKit
set_option linter.unusedVariables false
set_option linter.unusedSimpArgs false
theorem rless_ret (x y : HS) : PRet Try.prog 19 [.agg x.cells, .agg y.cells] (.bool (decide (cmpI x.1 y.1 < 0))) := by
  obtain ⟨a, a1, a2⟩ := x
  obtain ⟨b, b1, b2⟩ := y
  unfold HS.cells
  simp only []
  refine pret_intro fd19 (by simp) ?_
  simp only [lc19, VC0, VC1, VC2, VC3, VC4, VC5, VC6, VC7, VC8, VC9, reduceIte, reduceCtorEq, Nat.reduceEqDiff, Nat.reduceAdd, Nat.reduceMul, Nat.reduceBEq, Nat.reduceLT, Nat.reduceLeDiff, Int.reduceEq, Int.reduceLT, Int.reduceLE, Int.reduceNeg, Int.reduceToNat, Int.reduceAdd, Nat.reduceDiv, Nat.reduceSub, Nat.reduceMod, encL, lk_len, lk_ld, lk_set, lk_app, lk_imv, lk_snap, lk_sok, lk_one, lk_ldall, lk_setall, lk_mk, List.length_set, List.length_append, List.length_singleton, List.length_replicate, fold_or32, fold_xor32, fold_and32, fold_shl32, fold_shr32, fold_add32, fold_not32, sc_one, rv2, rv3, Option.bind_some, Option.map_some, Option.some.injEq, exists_eq_left', List.getElem?_cons_zero, List.getElem?_cons_succ, ld_0, ld_1, ld_2, sc_0, sc_1, sc_2, List.take_succ_cons, List.take_zero, List.all_cons, List.all_nil, List.map_cons, List.map_nil, Bool.and_true, Bool.true_and, flt_snap, flt_sok, flt_imv, flt_one, flt_eq, set_hs, ld_hs, sumS_len, lk_ints, setK_nil]
  refine loop_vcg (ι := Nat × (Nat → Nat)) (fun (k, c) => stO [(2, .box (a.flatMap (cK .u8))), (3, .box (b.flatMap (cK .u8))), (5, .val (.int .i64 k))] c)
    (fun (k, _) => k ≤ 32 ∧ cmpI (a.drop k) (b.drop k) = cmpI a b) (fun (k, _) => 32 - k) (0, _) ⟨Nat.zero_le _, rfl⟩ (ent_of _ [] rfl rfl (by simp only [VC0, VC1, VC2, VC3, VC4, VC5, VC6, VC7, VC8, VC9, reduceIte, reduceCtorEq, Nat.reduceEqDiff, Nat.reduceAdd, Nat.reduceMul, Nat.reduceBEq, Nat.reduceLT, Nat.reduceLeDiff, Int.reduceEq, Int.reduceLT, Int.reduceLE, Int.reduceNeg, Int.reduceToNat, Int.reduceAdd, Nat.reduceDiv, Nat.reduceSub, Nat.reduceMod, encL, lk_len, lk_ld, lk_set, lk_app, lk_imv, lk_snap, lk_sok, lk_one, lk_ldall, lk_setall, lk_mk, List.length_set, List.length_append, List.length_singleton, List.length_replicate, fold_or32, fold_xor32, fold_and32, fold_shl32, fold_shr32, fold_add32, fold_not32, sc_one, rv2, rv3, Option.bind_some, Option.map_some, Option.some.injEq, exists_eq_left', List.getElem?_cons_zero, List.getElem?_cons_succ, ld_0, ld_1, ld_2, sc_0, sc_1, sc_2, List.take_succ_cons, List.take_zero, List.all_cons, List.all_nil, List.map_cons, List.map_nil, Bool.and_true, Bool.true_and, flt_snap, flt_sok, flt_imv, flt_one, flt_eq, set_hs, ld_hs, sumS_len, lk_ints, setK_nil])) ?_
  rintro ⟨k, c⟩ hk
  obtain ⟨hk, he⟩ : k ≤ 32 ∧ cmpI (a.drop k) (b.drop k) = cmpI a b := hk
  simp only [VC0, VC1, VC2, VC3, VC4, VC5, VC6, VC7, VC8, VC9, reduceIte, reduceCtorEq, Nat.reduceEqDiff, Nat.reduceAdd, Nat.reduceMul, Nat.reduceBEq, Nat.reduceLT, Nat.reduceLeDiff, Int.reduceEq, Int.reduceLT, Int.reduceLE, Int.reduceNeg, Int.reduceToNat, Int.reduceAdd, Nat.reduceDiv, Nat.reduceSub, Nat.reduceMod, encL, lk_len, lk_ld, lk_set, lk_app, lk_imv, lk_snap, lk_sok, lk_one, lk_ldall, lk_setall, lk_mk, List.length_set, List.length_append, List.length_singleton, List.length_replicate, fold_or32, fold_xor32, fold_and32, fold_shl32, fold_shr32, fold_add32, fold_not32, sc_one, rv2, rv3, Option.bind_some, Option.map_some, Option.some.injEq, exists_eq_left', List.getElem?_cons_zero, List.getElem?_cons_succ, ld_0, ld_1, ld_2, sc_0, sc_1, sc_2, List.take_succ_cons, List.take_zero, List.all_cons, List.all_nil, List.map_cons, List.map_nil, Bool.and_true, Bool.true_and, flt_snap, flt_sok, flt_imv, flt_one, flt_eq, set_hs, ld_hs, sumS_len, lk_ints, setK_nil]
  refine condD_of (fun h => ?_) (fun h => ?_)
  · have hka : k < a.length := by omega
    have hkb : k < b.length := by omega
    have i1 : 0 ≤ (k : Int) ∧ (k : Int) < 32 := by omega
    have i2 : InI64 ((k : Int) + 1) := by unfold InI64; omega
    rw [cmpI_drop hka hkb] at he
    simp only [VC0, VC1, VC2, VC3, VC4, VC5, VC6, VC7, VC8, VC9, reduceIte, reduceCtorEq, Nat.reduceEqDiff, Nat.reduceAdd, Nat.reduceMul, Nat.reduceBEq, Nat.reduceLT, Nat.reduceLeDiff, Int.reduceEq, Int.reduceLT, Int.reduceLE, Int.reduceNeg, Int.reduceToNat, Int.reduceAdd, Nat.reduceDiv, Nat.reduceSub, Nat.reduceMod, encL, lk_len, lk_ld, lk_set, lk_app, lk_imv, lk_snap, lk_sok, lk_one, lk_ldall, lk_setall, lk_mk, List.length_set, List.length_append, List.length_singleton, List.length_replicate, fold_or32, fold_xor32, fold_and32, fold_shl32, fold_shr32, fold_add32, fold_not32, sc_one, rv2, rv3, Option.bind_some, Option.map_some, Option.some.injEq, exists_eq_left', List.getElem?_cons_zero, List.getElem?_cons_succ, ld_0, ld_1, ld_2, sc_0, sc_1, sc_2, List.take_succ_cons, List.take_zero, List.all_cons, List.all_nil, List.map_cons, List.map_nil, Bool.and_true, Bool.true_and, flt_snap, flt_sok, flt_imv, flt_one, flt_eq, set_hs, ld_hs, sumS_len, lk_ints, setK_nil, i1, lk_ld hka, lk_ld hkb]
    cases b3 : decide (a.getD k 0 = b.getD k 0) <;> simp only [VC0, VC1, VC2, VC3, VC4, VC5, VC6, VC7, VC8, VC9, reduceIte, reduceCtorEq, Nat.reduceEqDiff, Nat.reduceAdd, Nat.reduceMul, Nat.reduceBEq, Nat.reduceLT, Nat.reduceLeDiff, Int.reduceEq, Int.reduceLT, Int.reduceLE, Int.reduceNeg, Int.reduceToNat, Int.reduceAdd, Nat.reduceDiv, Nat.reduceSub, Nat.reduceMod, encL, lk_len, lk_ld, lk_set, lk_app, lk_imv, lk_snap, lk_sok, lk_one, lk_ldall, lk_setall, lk_mk, List.length_set, List.length_append, List.length_singleton, List.length_replicate, fold_or32, fold_xor32, fold_and32, fold_shl32, fold_shr32, fold_add32, fold_not32, sc_one, rv2, rv3, Option.bind_some, Option.map_some, Option.some.injEq, exists_eq_left', List.getElem?_cons_zero, List.getElem?_cons_succ, ld_0, ld_1, ld_2, sc_0, sc_1, sc_2, List.take_succ_cons, List.take_zero, List.all_cons, List.all_nil, List.map_cons, List.map_nil, Bool.and_true, Bool.true_and, flt_snap, flt_sok, flt_imv, flt_one, flt_eq, set_hs, ld_hs, sumS_len, lk_ints, setK_nil, b3, i1, i2, lk_ld hka, lk_ld hkb]
    · have hne : ¬ a.getD k 0 = b.getD k 0 := of_decide_eq_false b3
      rw [← he]
      by_cases h1 : a.getD k 0 < b.getD k 0
      · rw [if_pos h1, decide_eq_true h1]; rfl
      · have h2 : b.getD k 0 < a.getD k 0 := by omega
        rw [if_neg h1, if_pos h2, decide_eq_false h1]; rfl
    · have he2 : a.getD k 0 = b.getD k 0 := of_decide_eq_true b3
      rw [if_neg (by omega), if_neg (by omega)] at he
      exact backTo_of (k + 1, _) ⟨by omega, he⟩ (by simp only []; omega) (ent_of _ [] rfl rfl (by simp only [VC0, VC1, VC2, VC3, VC4, VC5, VC6, VC7, VC8, VC9, reduceIte, reduceCtorEq, Nat.reduceEqDiff, Nat.reduceAdd, Nat.reduceMul, Nat.reduceBEq, Nat.reduceLT, Nat.reduceLeDiff, Int.reduceEq, Int.reduceLT, Int.reduceLE, Int.reduceNeg, Int.reduceToNat, Int.reduceAdd, Nat.reduceDiv, Nat.reduceSub, Nat.reduceMod, encL, lk_len, lk_ld, lk_set, lk_app, lk_imv, lk_snap, lk_sok, lk_one, lk_ldall, lk_setall, lk_mk, List.length_set, List.length_append, List.length_singleton, List.length_replicate, fold_or32, fold_xor32, fold_and32, fold_shl32, fold_shr32, fold_add32, fold_not32, sc_one, rv2, rv3, Option.bind_some, Option.map_some, Option.some.injEq, exists_eq_left', List.getElem?_cons_zero, List.getElem?_cons_succ, ld_0, ld_1, ld_2, sc_0, sc_1, sc_2, List.take_succ_cons, List.take_zero, List.all_cons, List.all_nil, List.map_cons, List.map_nil, Bool.and_true, Bool.true_and, flt_snap, flt_sok, flt_imv, flt_one, flt_eq, set_hs, ld_hs, sumS_len, lk_ints, setK_nil]))
  · have hk' : k = 32 := by omega
    subst hk'
    rw [List.drop_of_length_le (by omega), List.drop_of_length_le (by omega)] at he
    simp only [VC0, VC1, VC2, VC3, VC4, VC5, VC6, VC7, VC8, VC9, reduceIte, reduceCtorEq, Nat.reduceEqDiff, Nat.reduceAdd, Nat.reduceMul, Nat.reduceBEq, Nat.reduceLT, Nat.reduceLeDiff, Int.reduceEq, Int.reduceLT, Int.reduceLE, Int.reduceNeg, Int.reduceToNat, Int.reduceAdd, Nat.reduceDiv, Nat.reduceSub, Nat.reduceMod, encL, lk_len, lk_ld, lk_set, lk_app, lk_imv, lk_snap, lk_sok, lk_one, lk_ldall, lk_setall, lk_mk, List.length_set, List.length_append, List.length_singleton, List.length_replicate, fold_or32, fold_xor32, fold_and32, fold_shl32, fold_shr32, fold_add32, fold_not32, sc_one, rv2, rv3, Option.bind_some, Option.map_some, Option.some.injEq, exists_eq_left', List.getElem?_cons_zero, List.getElem?_cons_succ, ld_0, ld_1, ld_2, sc_0, sc_1, sc_2, List.take_succ_cons, List.take_zero, List.all_cons, List.all_nil, List.map_cons, List.map_nil, Bool.and_true, Bool.true_and, flt_snap, flt_sok, flt_imv, flt_one, flt_eq, set_hs, ld_hs, sumS_len, lk_ints, setK_nil, ← he]
    rfl
end Go.Proofs.Ythpffaofpcikiaa

namespace Go.Proofs.Ythpffaofpcikiaa
open Go Go.Lg
set_option maxRecDepth 100000

def lc7 : LC := .seq (.rego 0 [⟨some 4, .mov (.con (.bool false)), none⟩]) (.keep [0, 1] (.seq (.rego 1 [⟨some 24, .mov (.tmp 0), none⟩, ⟨some 25, .bin .and (.tmp 24) (.con (.int .i64 15)), none⟩, ⟨some 26, .bin .add (.con (.int .i64 1)) (.tmp 25), none⟩, ⟨some 0, .mov (.tmp 26), none⟩]) (.keep [0, 1] (.seq (.rego 2 [⟨some 28, .mov (.tmp 0), none⟩, ⟨some 29, .call 8 [.tmp 28], none⟩, ⟨some 27, .mov (.tmp 29), none⟩, ⟨some 30, .ext (.tmp 27) 0, none⟩, ⟨some 31, .ext (.tmp 27) 1, none⟩, ⟨some 5, .mov (.tmp 30), none⟩, ⟨some 6, .mov (.tmp 31), none⟩]) (.keep [0, 1, 5, 6] (.seq (.seq (.rego 3 [⟨some 32, .mov (.tmp 6), none⟩, ⟨some 33, .eqi true true (.tmp 32) (.con .nili), none⟩, ⟨some 34, .mov (.tmp 33), none⟩, ⟨some 35, .mov (.tmp 5), some ⟨34, false⟩⟩, ⟨some 36, .eqp false (.tmp 35) (.con .nilp), some ⟨34, false⟩⟩, ⟨some 37, .pick (.tmp 34) (.con (.bool true)) (.tmp 36), none⟩]) (.keep [0, 1, 5, 37] (.cond (.tmp 37) (.keep [] (.seq (.rego 4 [⟨some 4, .mov (.con (.bool false)), none⟩]) .ret)) .skip))) (.keep [0, 1, 5] (.seq (.rego 5 [⟨some 38, .mov (.tmp 0), none⟩, ⟨some 39, .build [.int .i64 0, .e0, .e0] [⟨0, 1, .tmp 38⟩], none⟩, ⟨some 40, .box (.tmp 39), none⟩, ⟨some 7, .mov (.tmp 40), none⟩]) (.keep [1, 5, 7] (.seq (.seq (.rego 6 [⟨some 8, .mov (.con (.int .i64 0)), none⟩]) (.keep [1, 5, 7, 8] (.block 0 (.loop (.seq (.seq (.rego 7 [⟨some 41, .mov (.tmp 8), none⟩, ⟨some 42, .mov (.tmp 1), none⟩, ⟨some 43, .len false (.tmp 42), none⟩, ⟨some 44, .bin .lss (.tmp 41) (.tmp 43), none⟩, ⟨some 45, .mov (.tmp 44), none⟩, ⟨some 46, .mov (.tmp 8), some ⟨45, true⟩⟩, ⟨some 47, .bin .lss (.tmp 46) (.con (.int .i64 40)), some ⟨45, true⟩⟩, ⟨some 48, .pick (.tmp 45) (.tmp 47) (.con (.bool false)), none⟩]) (.keep [1, 5, 7, 8, 48] (.cond (.tmp 48) .skip (.exit 0)))) (.keep [1, 5, 7, 8] (.seq (.block 1 (.seq (.rego 9 [⟨some 51, .mov (.tmp 1), none⟩, ⟨some 52, .mov (.tmp 8), none⟩, ⟨some 53, .iaS 34 (.tmp 51) (.tmp 52), none⟩, ⟨some 54, .load true 34 (.tmp 53), none⟩, ⟨some 9, .new [.int .i64 0, .e0, .int .u8 0, .int .u8 0, .int .u8 0, .int .u8 0, .int .u8 0, .int .u8 0, .int .u8 0, .int .u8 0, .int .u8 0, .int .u8 0, .int .u8 0, .int .u8 0, .int .u8 0, .int .u8 0, .int .u8 0, .int .u8 0, .int .u8 0, .int .u8 0, .int .u8 0, .int .u8 0, .int .u8 0, .int .u8 0, .int .u8 0, .int .u8 0, .int .u8 0, .int .u8 0, .int .u8 0, .int .u8 0, .int .u8 0, .int .u8 0, .int .u8 0, .int .u8 0], none⟩, ⟨none, .store 34 (.tmp 9) (.tmp 54), none⟩]) (.keep [1, 5, 7, 8, 9] (.seq (.seq (.rego 10 [⟨some 55, .fad 1 (.tmp 9), none⟩, ⟨some 56, .load false 1 (.tmp 55), none⟩, ⟨some 57, .len false (.tmp 56), none⟩, ⟨some 58, .bin .gtr (.tmp 57) (.con (.int .i64 200)), none⟩]) (.keep [1, 5, 7, 8, 9, 58] (.cond (.tmp 58) (.keep [] (.seq (.rego 11 [⟨some 59, .call 10 [], none⟩, ⟨some 4, .mov (.tmp 59), none⟩]) .ret)) .skip))) (.keep [1, 5, 7, 8, 9] (.seq (.rego 12 [⟨some 60, .bsl 0 [] [], none⟩, ⟨some 61, .fad 1 (.tmp 9), none⟩, ⟨some 62, .load false 1 (.tmp 61), none⟩, ⟨some 63, .appE 1 1 (.tmp 60) (.tmp 62), none⟩, ⟨some 10, .mov (.tmp 63), none⟩]) (.keep [1, 5, 7, 8, 9, 10] (.join (.seq (.rego 13 [⟨some 64, .fad 0 (.tmp 9), none⟩, ⟨some 65, .load false 1 (.tmp 64), none⟩, ⟨some 66, .bin .rem (.tmp 65) (.con (.int .i64 6)), none⟩, ⟨some 67, .bin .add (.tmp 66) (.con (.int .i64 6)), none⟩, ⟨some 68, .bin .rem (.tmp 67) (.con (.int .i64 6)), none⟩]) (.keep [1, 5, 7, 8, 9, 10, 68] (.block 2 (.seq (.seq (.rego 25 [⟨some 126, .bin .eql (.tmp 68) (.con (.int .i64 0)), none⟩, ⟨some 125, .mov (.tmp 126), none⟩]) (.keep [1, 5, 7, 8, 9, 10, 68, 125] (.cond (.tmp 125) .skip (.keep [1, 5, 7, 8, 9, 10, 68] (.rego 26 [⟨some 127, .bin .eql (.tmp 68) (.con (.int .i64 1)), none⟩, ⟨some 125, .mov (.tmp 127), none⟩]))))) (.keep [1, 5, 7, 8, 9, 10, 68, 125] (.cond (.tmp 125) (.keep [1, 5, 7, 8, 9, 10] (.seq (.rego 27 [⟨some 129, .mov (.tmp 5), none⟩, ⟨some 130, .mov (.tmp 10), none⟩, ⟨some 131, .call 11 [.tmp 129, .tmp 130], none⟩, ⟨some 128, .mov (.tmp 131), none⟩, ⟨some 132, .ext (.tmp 128) 0, none⟩, ⟨some 133, .ext (.tmp 128) 1, none⟩, ⟨some 11, .new [.int .u8 0, .int .u8 0, .int .u8 0, .int .u8 0, .int .u8 0, .int .u8 0, .int .u8 0, .int .u8 0, .int .u8 0, .int .u8 0, .int .u8 0, .int .u8 0, .int .u8 0, .int .u8 0, .int .u8 0, .int .u8 0, .int .u8 0, .int .u8 0, .int .u8 0, .int .u8 0, .int .u8 0, .int .u8 0, .int .u8 0, .int .u8 0, .int .u8 0, .int .u8 0, .int .u8 0, .int .u8 0, .int .u8 0, .int .u8 0, .int .u8 0, .int .u8 0], none⟩, ⟨none, .store 32 (.tmp 11) (.tmp 132), none⟩, ⟨some 12, .mov (.tmp 133), none⟩]) (.keep [1, 5, 7, 8, 9, 10, 11, 12] (.seq (.rego 28 [⟨some 135, .mov (.tmp 7), none⟩, ⟨some 136, .fad 1 (.tmp 9), none⟩, ⟨some 137, .load false 1 (.tmp 136), none⟩, ⟨some 138, .call 20 [.tmp 135, .tmp 137], none⟩, ⟨some 134, .mov (.tmp 138), none⟩, ⟨some 139, .ext (.tmp 134) 0, none⟩, ⟨some 140, .ext (.tmp 134) 1, none⟩, ⟨some 13, .new [.int .u8 0, .int .u8 0, .int .u8 0, .int .u8 0, .int .u8 0, .int .u8 0, .int .u8 0, .int .u8 0, .int .u8 0, .int .u8 0, .int .u8 0, .int .u8 0, .int .u8 0, .int .u8 0, .int .u8 0, .int .u8 0, .int .u8 0, .int .u8 0, .int .u8 0, .int .u8 0, .int .u8 0, .int .u8 0, .int .u8 0, .int .u8 0, .int .u8 0, .int .u8 0, .int .u8 0, .int .u8 0, .int .u8 0, .int .u8 0, .int .u8 0, .int .u8 0], none⟩, ⟨none, .store 32 (.tmp 13) (.tmp 139), none⟩, ⟨some 14, .mov (.tmp 140), none⟩]) (.keep [1, 5, 7, 8, 10, 11, 12, 13, 14] (.seq (.rego 29 [⟨some 141, .load true 32 (.tmp 11), none⟩, ⟨some 142, .load true 32 (.tmp 13), none⟩, ⟨some 143, .eqa 32 .u8 true (.tmp 141) (.tmp 142), none⟩, ⟨some 144, .mov (.tmp 143), none⟩, ⟨some 145, .mov (.tmp 12), some ⟨144, false⟩⟩, ⟨some 146, .mov (.tmp 14), some ⟨144, false⟩⟩, ⟨some 147, .call 13 [.tmp 145, .tmp 146, .con (.int .i64 0)], some ⟨144, false⟩⟩, ⟨some 148, .un .not (.tmp 147), some ⟨144, false⟩⟩, ⟨some 149, .pick (.tmp 144) (.con (.bool true)) (.tmp 148), none⟩]) (.keep [1, 5, 7, 8, 10, 149] (.cond (.tmp 149) (.keep [] (.seq (.rego 30 [⟨some 4, .mov (.con (.bool false)), none⟩]) .ret)) .skip)))))))) (.keep [1, 5, 7, 8, 9, 10, 68] (.seq (.rego 31 [⟨some 151, .bin .eql (.tmp 68) (.con (.int .i64 2)), none⟩, ⟨some 150, .mov (.tmp 151), none⟩]) (.keep [1, 5, 7, 8, 9, 10, 68, 150] (.cond (.tmp 150) (.keep [1, 5, 7, 8, 9, 10] (.seq (.rege 32 [0, 0, 2, 0, 15, 0, 0, 64, 223, 0, 512, 2047, 4095, 8191] [⟨some 152, .mov (.tmp 5), none⟩, ⟨some 153, .mov (.tmp 10), none⟩, ⟨some 154, .call 9 [.tmp 153], none⟩, ⟨some 155, .mov (.tmp 10), none⟩, ⟨some 156, .call 17 [.tmp 152, .tmp 154, .tmp 155], none⟩, ⟨some 157, .mov (.tmp 7), none⟩, ⟨some 158, .fad 1 (.tmp 9), none⟩, ⟨some 159, .load false 1 (.tmp 158), none⟩, ⟨some 160, .call 9 [.tmp 159], none⟩, ⟨some 161, .fad 1 (.tmp 9), none⟩, ⟨some 162, .load false 1 (.tmp 161), none⟩, ⟨some 163, .call 21 [.tmp 157, .tmp 160, .tmp 162], none⟩, ⟨some 164, .call 13 [.tmp 156, .tmp 163, .con (.int .i64 0)], none⟩, ⟨some 165, .un .not (.tmp 164), none⟩]) (.keep [1, 5, 7, 8, 10, 165] (.cond (.tmp 165) (.keep [] (.seq (.rego 33 [⟨some 4, .mov (.con (.bool false)), none⟩]) .ret)) .skip)))) (.keep [1, 5, 7, 8, 9, 10, 68] (.seq (.rego 34 [⟨some 167, .bin .eql (.tmp 68) (.con (.int .i64 3)), none⟩, ⟨some 166, .mov (.tmp 167), none⟩]) (.keep [1, 5, 7, 8, 9, 10, 166] (.cond (.tmp 166) (.keep [1, 5, 7, 8, 9, 10] (.seq (.rege 35 [0, 0, 2, 0, 15, 0, 0, 64, 0, 256, 1023, 2047, 4095] [⟨some 168, .mov (.tmp 5), none⟩, ⟨some 169, .fad 2 (.tmp 9), none⟩, ⟨some 170, .load true 32 (.tmp 169), none⟩, ⟨some 171, .mov (.tmp 10), none⟩, ⟨some 172, .call 17 [.tmp 168, .tmp 170, .tmp 171], none⟩, ⟨some 173, .mov (.tmp 7), none⟩, ⟨some 174, .fad 2 (.tmp 9), none⟩, ⟨some 175, .load true 32 (.tmp 174), none⟩, ⟨some 176, .fad 1 (.tmp 9), none⟩, ⟨some 177, .load false 1 (.tmp 176), none⟩, ⟨some 178, .call 21 [.tmp 173, .tmp 175, .tmp 177], none⟩, ⟨some 179, .call 13 [.tmp 172, .tmp 178, .con (.int .i64 0)], none⟩, ⟨some 180, .un .not (.tmp 179), none⟩]) (.keep [1, 5, 7, 8, 10, 180] (.cond (.tmp 180) (.keep [] (.seq (.rego 36 [⟨some 4, .mov (.con (.bool false)), none⟩]) .ret)) .skip)))) (.keep [1, 5, 7, 8, 9, 10] (.seq (.rego 14 [⟨some 69, .fad 2 (.tmp 9), none⟩, ⟨some 70, .load true 32 (.tmp 69), none⟩, ⟨some 15, .new [.int .u8 0, .int .u8 0, .int .u8 0, .int .u8 0, .int .u8 0, .int .u8 0, .int .u8 0, .int .u8 0, .int .u8 0, .int .u8 0, .int .u8 0, .int .u8 0, .int .u8 0, .int .u8 0, .int .u8 0, .int .u8 0, .int .u8 0, .int .u8 0, .int .u8 0, .int .u8 0, .int .u8 0, .int .u8 0, .int .u8 0, .int .u8 0, .int .u8 0, .int .u8 0, .int .u8 0, .int .u8 0, .int .u8 0, .int .u8 0, .int .u8 0, .int .u8 0], none⟩, ⟨none, .store 32 (.tmp 15) (.tmp 70), none⟩]) (.keep [1, 5, 7, 8, 9, 10, 15] (.seq (.seq (.rego 15 [⟨some 71, .fad 0 (.tmp 9), none⟩, ⟨some 72, .load false 1 (.tmp 71), none⟩, ⟨some 73, .bin .rem (.tmp 72) (.con (.int .i64 6)), none⟩, ⟨some 74, .bin .add (.tmp 73) (.con (.int .i64 6)), none⟩, ⟨some 75, .bin .rem (.tmp 74) (.con (.int .i64 6)), none⟩, ⟨some 76, .bin .eql (.tmp 75) (.con (.int .i64 4)), none⟩]) (.keep [1, 5, 7, 8, 9, 10, 15, 76] (.cond (.tmp 76) (.keep [1, 5, 7, 8, 9, 10, 15] (.rego 16 [⟨some 77, .fad 1 (.tmp 9), none⟩, ⟨some 78, .load false 1 (.tmp 77), none⟩, ⟨some 79, .call 9 [.tmp 78], none⟩, ⟨none, .store 32 (.tmp 15) (.tmp 79), none⟩])) .skip))) (.keep [1, 5, 7, 8, 10, 15] (.seq (.rego 17 [⟨some 81, .mov (.tmp 5), none⟩, ⟨some 82, .load true 32 (.tmp 15), none⟩, ⟨some 83, .call 16 [.tmp 81, .tmp 82], none⟩, ⟨some 80, .mov (.tmp 83), none⟩, ⟨some 84, .ext (.tmp 80) 0, none⟩, ⟨some 85, .ext (.tmp 80) 1, none⟩, ⟨some 16, .mov (.tmp 84), none⟩, ⟨some 17, .mov (.tmp 85), none⟩]) (.keep [1, 5, 7, 8, 10, 15, 16, 17] (.seq (.rego 18 [⟨some 87, .mov (.tmp 7), none⟩, ⟨some 88, .load true 32 (.tmp 15), none⟩, ⟨some 89, .call 22 [.tmp 87, .tmp 88], none⟩, ⟨some 86, .mov (.tmp 89), none⟩, ⟨some 90, .ext (.tmp 86) 0, none⟩, ⟨some 91, .ext (.tmp 86) 1, none⟩, ⟨some 18, .mov (.tmp 90), none⟩, ⟨some 19, .mov (.tmp 91), none⟩]) (.keep [1, 5, 7, 8, 10, 15, 16, 17, 18, 19] (.seq (.seq (.regf 19 [0, 1, 0, 7, 15, 31, 31, 127, 255, 511, 1023, 2047, 2047, 8191, 2047, 2047, 65535, 131071, 262143] [⟨some 92, .mov (.tmp 16), none⟩, ⟨some 93, .b2s (.tmp 92), none⟩, ⟨some 94, .mov (.tmp 18), none⟩, ⟨some 95, .bin .neq (.tmp 93) (.tmp 94), none⟩, ⟨some 96, .mov (.tmp 95), none⟩, ⟨some 97, .mov (.tmp 17), some ⟨96, false⟩⟩, ⟨some 98, .mov (.tmp 19), some ⟨96, false⟩⟩, ⟨some 99, .call 13 [.tmp 97, .tmp 98, .con (.int .i64 0)], some ⟨96, false⟩⟩, ⟨some 100, .un .not (.tmp 99), some ⟨96, false⟩⟩, ⟨some 101, .pick (.tmp 96) (.con (.bool true)) (.tmp 100), none⟩, ⟨some 102, .mov (.tmp 101), none⟩, ⟨some 103, .mov (.tmp 5), some ⟨102, false⟩⟩, ⟨some 104, .load true 32 (.tmp 15), some ⟨102, false⟩⟩, ⟨some 105, .call 12 [.tmp 103, .tmp 104], some ⟨102, false⟩⟩, ⟨some 106, .mov (.tmp 7), some ⟨102, false⟩⟩, ⟨some 107, .load true 32 (.tmp 15), some ⟨102, false⟩⟩, ⟨some 108, .call 23 [.tmp 106, .tmp 107], some ⟨102, false⟩⟩, ⟨some 109, .eqb true (.tmp 105) (.tmp 108), some ⟨102, false⟩⟩, ⟨some 110, .pick (.tmp 102) (.con (.bool true)) (.tmp 109), none⟩]) (.keep [1, 5, 7, 8, 10, 16, 110] (.cond (.tmp 110) (.keep [] (.seq (.rego 20 [⟨some 4, .mov (.con (.bool false)), none⟩]) .ret)) .skip))) (.keep [1, 5, 7, 8, 10, 16] (.seq (.rego 21 [⟨some 20, .mov (.con (.int .i64 0)), none⟩]) (.keep [1, 5, 7, 8, 10, 16, 20] (.block 3 (.loop (.seq (.seq (.rego 22 [⟨some 111, .mov (.tmp 20), none⟩, ⟨some 112, .mov (.tmp 16), none⟩, ⟨some 113, .len false (.tmp 112), none⟩, ⟨some 114, .bin .lss (.tmp 111) (.tmp 113), none⟩]) (.keep [1, 5, 7, 8, 10, 16, 20, 114] (.cond (.tmp 114) .skip (.exit 3)))) (.keep [1, 5, 7, 8, 10, 16, 20] (.seq (.block 4 (.rego 24 [⟨some 117, .mov (.tmp 16), none⟩, ⟨some 118, .mov (.tmp 20), none⟩, ⟨some 119, .mov (.tmp 16), none⟩, ⟨some 120, .mov (.tmp 20), none⟩, ⟨some 121, .iaS 1 (.tmp 119) (.tmp 120), none⟩, ⟨some 122, .load false 1 (.tmp 121), none⟩, ⟨some 123, .bin .add (.tmp 122) (.con (.int .u8 1)), none⟩, ⟨some 124, .iaS 1 (.tmp 117) (.tmp 118), none⟩, ⟨none, .store 1 (.tmp 124) (.tmp 123), none⟩])) (.keep [1, 5, 7, 8, 10, 16, 20] (.rego 23 [⟨some 115, .mov (.tmp 20), none⟩, ⟨some 116, .bin .add (.tmp 115) (.con (.int .i64 1)), none⟩, ⟨some 20, .mov (.tmp 116), none⟩])))))))))))))))))))))))))))))))))) (.keep [1, 5, 7, 8, 10] (.seq (.seq (.rego 37 [⟨some 21, .mov (.con (.int .i64 0)), none⟩]) (.keep [1, 5, 7, 8, 10, 21] (.block 5 (.loop (.seq (.seq (.rego 38 [⟨some 181, .mov (.tmp 21), none⟩, ⟨some 182, .mov (.tmp 10), none⟩, ⟨some 183, .len false (.tmp 182), none⟩, ⟨some 184, .bin .lss (.tmp 181) (.tmp 183), none⟩]) (.keep [1, 5, 7, 8, 10, 21, 184] (.cond (.tmp 184) .skip (.exit 5)))) (.keep [1, 5, 7, 8, 10, 21] (.seq (.block 6 (.rego 40 [⟨some 187, .mov (.tmp 10), none⟩, ⟨some 188, .mov (.tmp 21), none⟩, ⟨some 189, .mov (.tmp 10), none⟩, ⟨some 190, .mov (.tmp 21), none⟩, ⟨some 191, .iaS 1 (.tmp 189) (.tmp 190), none⟩, ⟨some 192, .load false 1 (.tmp 191), none⟩, ⟨some 193, .bin .add (.tmp 192) (.con (.int .u8 1)), none⟩, ⟨some 194, .iaS 1 (.tmp 187) (.tmp 188), none⟩, ⟨none, .store 1 (.tmp 194) (.tmp 193), none⟩])) (.keep [1, 5, 7, 8, 10, 21] (.rego 39 [⟨some 185, .mov (.tmp 21), none⟩, ⟨some 186, .bin .add (.tmp 185) (.con (.int .i64 1)), none⟩, ⟨some 21, .mov (.tmp 186), none⟩]))))))))) (.keep [1, 5, 7, 8] (.seq (.rego 41 [⟨some 195, .mov (.tmp 5), none⟩, ⟨some 196, .call 18 [.tmp 195], none⟩, ⟨some 22, .mov (.tmp 196), none⟩]) (.keep [1, 5, 7, 8, 22] (.seq (.seq (.regf 42 [0, 1, 0, 4, 12, 28, 60, 127, 255, 511, 1023, 511, 2559, 6655, 14847, 31231, 65535, 131071] [⟨some 197, .mov (.tmp 5), none⟩, ⟨some 198, .call 14 [.tmp 197], none⟩, ⟨some 199, .mov (.tmp 7), none⟩, ⟨some 200, .nilchk (.tmp 199), none⟩, ⟨some 201, .fad 1 (.tmp 200), none⟩, ⟨some 202, .load false 1 (.tmp 201), none⟩, ⟨some 203, .len false (.tmp 202), none⟩, ⟨some 204, .bin .neq (.tmp 198) (.tmp 203), none⟩, ⟨some 205, .mov (.tmp 204), none⟩, ⟨some 206, .mov (.tmp 22), some ⟨205, false⟩⟩, ⟨some 207, .len false (.tmp 206), some ⟨205, false⟩⟩, ⟨some 208, .mov (.tmp 7), some ⟨205, false⟩⟩, ⟨some 209, .nilchk (.tmp 208), some ⟨205, false⟩⟩, ⟨some 210, .fad 1 (.tmp 209), some ⟨205, false⟩⟩, ⟨some 211, .load false 1 (.tmp 210), some ⟨205, false⟩⟩, ⟨some 212, .len false (.tmp 211), some ⟨205, false⟩⟩, ⟨some 213, .bin .neq (.tmp 207) (.tmp 212), some ⟨205, false⟩⟩, ⟨some 214, .pick (.tmp 205) (.con (.bool true)) (.tmp 213), none⟩]) (.keep [1, 5, 7, 8, 22, 214] (.cond (.tmp 214) (.keep [] (.seq (.rego 43 [⟨some 4, .mov (.con (.bool false)), none⟩]) .ret)) .skip))) (.keep [1, 5, 7, 8, 22] (.seq (.rego 44 [⟨some 23, .mov (.con (.int .i64 0)), none⟩]) (.keep [1, 5, 7, 8, 22, 23] (.block 7 (.loop (.seq (.seq (.rego 45 [⟨some 215, .mov (.tmp 23), none⟩, ⟨some 216, .mov (.tmp 22), none⟩, ⟨some 217, .len false (.tmp 216), none⟩, ⟨some 218, .bin .lss (.tmp 215) (.tmp 217), none⟩]) (.keep [1, 5, 7, 8, 22, 23, 218] (.cond (.tmp 218) .skip (.exit 7)))) (.keep [1, 5, 7, 8, 22, 23] (.seq (.block 8 (.seq (.seq (.reg 47 [⟨some 221, .mov (.tmp 22), none⟩, ⟨some 222, .mov (.tmp 23), none⟩, ⟨some 223, .iaS 32 (.tmp 221) (.tmp 222), none⟩, ⟨some 224, .load true 32 (.tmp 223), none⟩, ⟨some 225, .mov (.tmp 7), none⟩, ⟨some 226, .nilchk (.tmp 225), none⟩, ⟨some 227, .fad 1 (.tmp 226), none⟩, ⟨some 228, .load false 1 (.tmp 227), none⟩, ⟨some 229, .mov (.tmp 23), none⟩, ⟨some 230, .iaS 32 (.tmp 228) (.tmp 229), none⟩, ⟨some 231, .load true 32 (.tmp 230), none⟩, ⟨some 232, .eqa 32 .u8 true (.tmp 224) (.tmp 231), none⟩]) (.keep [1, 5, 7, 8, 22, 23, 232] (.cond (.tmp 232) (.keep [] (.seq (.rego 48 [⟨some 4, .mov (.con (.bool false)), none⟩]) .ret)) .skip))) (.keep [1, 5, 7, 8, 22, 23] (.reg 49 [⟨some 233, .mov (.tmp 22), none⟩, ⟨some 234, .mov (.tmp 23), none⟩, ⟨some 235, .iaS 32 (.tmp 233) (.tmp 234), none⟩, ⟨some 236, .iaA 32 1 (.tmp 235) (.con (.int .i64 0)), none⟩, ⟨some 237, .load false 1 (.tmp 236), none⟩, ⟨some 238, .bin .add (.tmp 237) (.con (.int .u8 1)), none⟩, ⟨some 239, .iaS 32 (.tmp 233) (.tmp 234), none⟩, ⟨some 240, .iaA 32 1 (.tmp 239) (.con (.int .i64 0)), none⟩, ⟨none, .store 1 (.tmp 240) (.tmp 238), none⟩])))) (.keep [1, 5, 7, 8, 22, 23] (.rego 46 [⟨some 219, .mov (.tmp 23), none⟩, ⟨some 220, .bin .add (.tmp 219) (.con (.int .i64 1)), none⟩, ⟨some 23, .mov (.tmp 220), none⟩])))))))))))))))))))))))) (.keep [1, 5, 7, 8] (.rego 8 [⟨some 49, .mov (.tmp 8), none⟩, ⟨some 50, .bin .add (.tmp 49) (.con (.int .i64 1)), none⟩, ⟨some 8, .mov (.tmp 50), none⟩]))))))))) (.keep [] (.seq (.rego 50 [⟨some 241, .call 10 [], none⟩, ⟨some 4, .mov (.tmp 241), none⟩]) .ret))))))))))))
theorem fd7 : fnData Try.prog 7 = some (242, lc7.erase, [LRV.tmp 4]) := by kernel_rfl

def lc20 : LC := .seq (.rego 0 [⟨some 4, .new [.int .u8 0, .int .u8 0, .int .u8 0, .int .u8 0, .int .u8 0, .int .u8 0, .int .u8 0, .int .u8 0, .int .u8 0, .int .u8 0, .int .u8 0, .int .u8 0, .int .u8 0, .int .u8 0, .int .u8 0, .int .u8 0, .int .u8 0, .int .u8 0, .int .u8 0, .int .u8 0, .int .u8 0, .int .u8 0, .int .u8 0, .int .u8 0, .int .u8 0, .int .u8 0, .int .u8 0, .int .u8 0, .int .u8 0, .int .u8 0, .int .u8 0, .int .u8 0], none⟩, ⟨some 5, .mov (.con (.int .i64 0)), none⟩]) (.seq (.seq (.rego 1 [⟨some 9, .mov (.tmp 1), none⟩, ⟨some 10, .len false (.tmp 9), none⟩, ⟨some 11, .bin .gtr (.tmp 10) (.con (.int .i64 4194304)), none⟩]) (.cond (.tmp 11) (.seq (.rego 2 [⟨some 12, .build [.int .u8 0, .int .u8 0, .int .u8 0, .int .u8 0, .int .u8 0, .int .u8 0, .int .u8 0, .int .u8 0, .int .u8 0, .int .u8 0, .int .u8 0, .int .u8 0, .int .u8 0, .int .u8 0, .int .u8 0, .int .u8 0, .int .u8 0, .int .u8 0, .int .u8 0, .int .u8 0, .int .u8 0, .int .u8 0, .int .u8 0, .int .u8 0, .int .u8 0, .int .u8 0, .int .u8 0, .int .u8 0, .int .u8 0, .int .u8 0, .int .u8 0, .int .u8 0] [], none⟩, ⟨none, .store 32 (.tmp 4) (.tmp 12), none⟩, ⟨some 5, .mov (.con (.int .i64 5)), none⟩]) .ret) .skip)) (.seq (.rego 3 [⟨some 13, .mov (.tmp 1), none⟩, ⟨some 14, .call 9 [.tmp 13], none⟩, ⟨some 6, .new [.int .u8 0, .int .u8 0, .int .u8 0, .int .u8 0, .int .u8 0, .int .u8 0, .int .u8 0, .int .u8 0, .int .u8 0, .int .u8 0, .int .u8 0, .int .u8 0, .int .u8 0, .int .u8 0, .int .u8 0, .int .u8 0, .int .u8 0, .int .u8 0, .int .u8 0, .int .u8 0, .int .u8 0, .int .u8 0, .int .u8 0, .int .u8 0, .int .u8 0, .int .u8 0, .int .u8 0, .int .u8 0, .int .u8 0, .int .u8 0, .int .u8 0, .int .u8 0], none⟩, ⟨none, .store 32 (.tmp 6) (.tmp 14), none⟩]) (.seq (.rego 4 [⟨some 16, .mov (.tmp 0), none⟩, ⟨some 17, .load true 32 (.tmp 6), none⟩, ⟨some 18, .call 34 [.tmp 16, .tmp 17], none⟩, ⟨some 15, .mov (.tmp 18), none⟩, ⟨some 19, .ext (.tmp 15) 0, none⟩, ⟨some 20, .ext (.tmp 15) 1, none⟩, ⟨some 7, .mov (.tmp 19), none⟩, ⟨some 8, .mov (.tmp 20), none⟩]) (.seq (.seq (.rego 5 [⟨some 21, .mov (.tmp 8), none⟩]) (.cond (.tmp 21) (.seq (.rego 6 [⟨some 22, .load true 32 (.tmp 6), none⟩, ⟨none, .store 32 (.tmp 4) (.tmp 22), none⟩, ⟨some 5, .mov (.con (.int .i64 0)), none⟩]) .ret) .skip)) (.seq (.seq (.reg 7 [⟨some 23, .mov (.tmp 0), none⟩, ⟨some 24, .nilchk (.tmp 23), none⟩, ⟨some 25, .fad 1 (.tmp 24), none⟩, ⟨some 26, .load false 1 (.tmp 25), none⟩, ⟨some 27, .len false (.tmp 26), none⟩, ⟨some 28, .mov (.tmp 0), none⟩, ⟨some 29, .nilchk (.tmp 28), none⟩, ⟨some 30, .fad 0 (.tmp 29), none⟩, ⟨some 31, .load false 1 (.tmp 30), none⟩, ⟨some 32, .bin .geq (.tmp 27) (.tmp 31), none⟩]) (.cond (.tmp 32) (.seq (.rego 8 [⟨some 33, .build [.int .u8 0, .int .u8 0, .int .u8 0, .int .u8 0, .int .u8 0, .int .u8 0, .int .u8 0, .int .u8 0, .int .u8 0, .int .u8 0, .int .u8 0, .int .u8 0, .int .u8 0, .int .u8 0, .int .u8 0, .int .u8 0, .int .u8 0, .int .u8 0, .int .u8 0, .int .u8 0, .int .u8 0, .int .u8 0, .int .u8 0, .int .u8 0, .int .u8 0, .int .u8 0, .int .u8 0, .int .u8 0, .int .u8 0, .int .u8 0, .int .u8 0, .int .u8 0] [], none⟩, ⟨none, .store 32 (.tmp 4) (.tmp 33), none⟩, ⟨some 5, .mov (.con (.int .i64 12)), none⟩]) .ret) .skip)) (.seq (.regd 9 [0, 0, 0, 4, 12, 28, 0, 124, 254, 0, 512, 2046, 0, 4096, 12288, 28672, 0, 126976, 262142, 524287, 1048575, 2097151] [⟨some 34, .mov (.tmp 0), none⟩, ⟨some 35, .bsl 0 [] [], none⟩, ⟨some 36, .mov (.tmp 0), none⟩, ⟨some 37, .nilchk (.tmp 36), none⟩, ⟨some 38, .fad 1 (.tmp 37), none⟩, ⟨some 39, .load false 1 (.tmp 38), none⟩, ⟨some 40, .mov (.tmp 7), none⟩, ⟨some 41, .slV 32 (.tmp 39) none (some (.tmp 40)), none⟩, ⟨some 42, .appE 32 32 (.tmp 35) (.tmp 41), none⟩, ⟨some 43, .load true 32 (.tmp 6), none⟩, ⟨some 44, .bsl 1 [.int .u8 0, .int .u8 0, .int .u8 0, .int .u8 0, .int .u8 0, .int .u8 0, .int .u8 0, .int .u8 0, .int .u8 0, .int .u8 0, .int .u8 0, .int .u8 0, .int .u8 0, .int .u8 0, .int .u8 0, .int .u8 0, .int .u8 0, .int .u8 0, .int .u8 0, .int .u8 0, .int .u8 0, .int .u8 0, .int .u8 0, .int .u8 0, .int .u8 0, .int .u8 0, .int .u8 0, .int .u8 0, .int .u8 0, .int .u8 0, .int .u8 0, .int .u8 0] [⟨0, 32, .tmp 43⟩], none⟩, ⟨some 45, .app 32 32 (.tmp 42) (.tmp 44), none⟩, ⟨some 46, .mov (.tmp 0), none⟩, ⟨some 47, .nilchk (.tmp 46), none⟩, ⟨some 48, .fad 1 (.tmp 47), none⟩, ⟨some 49, .load false 1 (.tmp 48), none⟩, ⟨some 50, .mov (.tmp 7), none⟩, ⟨some 51, .slV 32 (.tmp 49) (some (.tmp 50)) none, none⟩, ⟨some 52, .app 32 32 (.tmp 45) (.tmp 51), none⟩, ⟨some 53, .nilchk (.tmp 34), none⟩, ⟨some 54, .fad 1 (.tmp 53), none⟩, ⟨none, .store 1 (.tmp 54) (.tmp 52), none⟩]) (.seq (.regd 10 [0, 0, 0, 4, 12, 28, 0, 124, 254, 0, 512, 1536, 4094, 0, 8192, 24576, 57344, 0, 253952, 524286, 1048575, 2097151, 4194303] [⟨some 55, .mov (.tmp 0), none⟩, ⟨some 56, .bsl 0 [] [], none⟩, ⟨some 57, .mov (.tmp 0), none⟩, ⟨some 58, .nilchk (.tmp 57), none⟩, ⟨some 59, .fad 2 (.tmp 58), none⟩, ⟨some 60, .load false 1 (.tmp 59), none⟩, ⟨some 61, .mov (.tmp 7), none⟩, ⟨some 62, .slV 1 (.tmp 60) none (some (.tmp 61)), none⟩, ⟨some 63, .appE 1 16 (.tmp 56) (.tmp 62), none⟩, ⟨some 64, .mov (.tmp 1), none⟩, ⟨some 65, .b2s (.tmp 64), none⟩, ⟨some 66, .bsl 1 [.str { data := #[] }] [⟨0, 1, .tmp 65⟩], none⟩, ⟨some 67, .app 1 16 (.tmp 63) (.tmp 66), none⟩, ⟨some 68, .mov (.tmp 0), none⟩, ⟨some 69, .nilchk (.tmp 68), none⟩, ⟨some 70, .fad 2 (.tmp 69), none⟩, ⟨some 71, .load false 1 (.tmp 70), none⟩, ⟨some 72, .mov (.tmp 7), none⟩, ⟨some 73, .slV 1 (.tmp 71) (some (.tmp 72)) none, none⟩, ⟨some 74, .app 1 16 (.tmp 67) (.tmp 73), none⟩, ⟨some 75, .nilchk (.tmp 55), none⟩, ⟨some 76, .fad 2 (.tmp 75), none⟩, ⟨none, .store 1 (.tmp 76) (.tmp 74), none⟩]) (.seq (.rego 11 [⟨some 77, .load true 32 (.tmp 6), none⟩, ⟨none, .store 32 (.tmp 4) (.tmp 77), none⟩, ⟨some 5, .mov (.con (.int .i64 0)), none⟩]) .ret))))))))
theorem fd20 : fnData Try.prog 20 = some (78, lc20.erase, [LRV.cell 4 true 32, LRV.tmp 5]) := by kernel_rfl

def lc21 : LC := .seq (.rego 0 [⟨some 4, .box (.tmp 1), none⟩, ⟨some 6, .mov (.con (.int .i64 0)), none⟩]) (.seq (.seq (.regf 1 [0, 1, 3, 7, 15, 31, 15, 127, 255] [⟨some 9, .mov (.tmp 2), none⟩, ⟨some 10, .len false (.tmp 9), none⟩, ⟨some 11, .bin .leq (.tmp 10) (.con (.int .i64 4194304)), none⟩, ⟨some 12, .mov (.tmp 11), none⟩, ⟨some 13, .mov (.tmp 2), some ⟨12, true⟩⟩, ⟨some 14, .call 9 [.tmp 13], some ⟨12, true⟩⟩, ⟨some 15, .load true 32 (.tmp 4), some ⟨12, true⟩⟩, ⟨some 16, .eqa 32 .u8 true (.tmp 14) (.tmp 15), some ⟨12, true⟩⟩, ⟨some 17, .pick (.tmp 12) (.tmp 16) (.con (.bool false)), none⟩]) (.cond (.tmp 17) (.seq (.rego 2 [⟨some 6, .mov (.con (.int .i64 11)), none⟩]) .ret) .skip)) (.seq (.rego 3 [⟨some 19, .mov (.tmp 0), none⟩, ⟨some 20, .mov (.tmp 2), none⟩, ⟨some 21, .call 20 [.tmp 19, .tmp 20], none⟩, ⟨some 18, .mov (.tmp 21), none⟩, ⟨some 22, .ext (.tmp 18) 0, none⟩, ⟨some 23, .ext (.tmp 18) 1, none⟩, ⟨some 7, .new [.int .u8 0, .int .u8 0, .int .u8 0, .int .u8 0, .int .u8 0, .int .u8 0, .int .u8 0, .int .u8 0, .int .u8 0, .int .u8 0, .int .u8 0, .int .u8 0, .int .u8 0, .int .u8 0, .int .u8 0, .int .u8 0, .int .u8 0, .int .u8 0, .int .u8 0, .int .u8 0, .int .u8 0, .int .u8 0, .int .u8 0, .int .u8 0, .int .u8 0, .int .u8 0, .int .u8 0, .int .u8 0, .int .u8 0, .int .u8 0, .int .u8 0, .int .u8 0], none⟩, ⟨none, .store 32 (.tmp 7) (.tmp 22), none⟩, ⟨some 8, .mov (.tmp 23), none⟩]) (.seq (.rego 4 [⟨some 24, .mov (.tmp 8), none⟩, ⟨some 6, .mov (.tmp 24), none⟩]) .ret)))
theorem fd21 : fnData Try.prog 21 = some (25, lc21.erase, [LRV.tmp 6]) := by kernel_rfl

def lc22 : LC := .seq (.rego 0 [⟨some 3, .box (.tmp 1), none⟩, ⟨some 4, .mov (.con (.str { data := #[] })), none⟩, ⟨some 5, .mov (.con (.int .i64 0)), none⟩]) (.keep [0, 3] (.seq (.rego 1 [⟨some 9, .mov (.tmp 0), none⟩, ⟨some 10, .load true 32 (.tmp 3), none⟩, ⟨some 11, .call 34 [.tmp 9, .tmp 10], none⟩, ⟨some 8, .mov (.tmp 11), none⟩, ⟨some 12, .ext (.tmp 8) 0, none⟩, ⟨some 13, .ext (.tmp 8) 1, none⟩, ⟨some 6, .mov (.tmp 12), none⟩, ⟨some 7, .mov (.tmp 13), none⟩]) (.keep [0, 6, 7] (.seq (.seq (.rego 2 [⟨some 14, .mov (.tmp 7), none⟩, ⟨some 15, .un .not (.tmp 14), none⟩]) (.keep [0, 6, 15] (.cond (.tmp 15) (.keep [] (.seq (.rego 3 [⟨some 4, .mov (.con (.str { data := #[] })), none⟩, ⟨some 5, .mov (.con (.int .i64 10)), none⟩]) .ret)) .skip))) (.keep [0, 6] (.seq (.rego 4 [⟨some 16, .mov (.tmp 0), none⟩, ⟨some 17, .nilchk (.tmp 16), none⟩, ⟨some 18, .fad 2 (.tmp 17), none⟩, ⟨some 19, .load false 1 (.tmp 18), none⟩, ⟨some 20, .mov (.tmp 6), none⟩, ⟨some 21, .iaS 1 (.tmp 19) (.tmp 20), none⟩, ⟨some 22, .load false 1 (.tmp 21), none⟩, ⟨some 4, .mov (.tmp 22), none⟩, ⟨some 5, .mov (.con (.int .i64 0)), none⟩]) .ret))))))
theorem fd22 : fnData Try.prog 22 = some (23, lc22.erase, [LRV.tmp 4, LRV.tmp 5]) := by kernel_rfl

def lc23 : LC := .seq (.rego 0 [⟨some 3, .box (.tmp 1), none⟩, ⟨some 4, .mov (.con (.bool false)), none⟩]) (.keep [0, 3] (.seq (.rego 1 [⟨some 8, .mov (.tmp 0), none⟩, ⟨some 9, .load true 32 (.tmp 3), none⟩, ⟨some 10, .call 34 [.tmp 8, .tmp 9], none⟩, ⟨some 7, .mov (.tmp 10), none⟩, ⟨some 11, .ext (.tmp 7) 0, none⟩, ⟨some 12, .ext (.tmp 7) 1, none⟩, ⟨some 5, .mov (.tmp 11), none⟩, ⟨some 6, .mov (.tmp 12), none⟩]) (.keep [6] (.seq (.rego 2 [⟨some 13, .mov (.tmp 6), none⟩, ⟨some 4, .mov (.tmp 13), none⟩]) .ret))))
theorem fd23 : fnData Try.prog 23 = some (14, lc23.erase, [LRV.tmp 4]) := by kernel_rfl

def lc34 : LC := .seq (.rego 0 [⟨some 3, .box (.tmp 1), none⟩, ⟨some 4, .mov (.con (.int .i64 0)), none⟩, ⟨some 5, .mov (.con (.bool false)), none⟩]) (.keep [0, 3] (.seq (.rego 1 [⟨some 6, .mov (.con (.int .i64 0)), none⟩]) (.keep [0, 3, 6] (.seq (.block 0 (.loop (.seq (.seq (.regf 2 [0, 0, 2, 6, 14, 30, 63, 127, 255, 511, 1023, 2047, 255, 8191, 16383, 255, 65535, 131071] [⟨some 7, .mov (.tmp 6), none⟩, ⟨some 8, .mov (.tmp 0), none⟩, ⟨some 9, .nilchk (.tmp 8), none⟩, ⟨some 10, .fad 1 (.tmp 9), none⟩, ⟨some 11, .load false 1 (.tmp 10), none⟩, ⟨some 12, .len false (.tmp 11), none⟩, ⟨some 13, .bin .lss (.tmp 7) (.tmp 12), none⟩, ⟨some 14, .mov (.tmp 13), none⟩, ⟨some 15, .mov (.tmp 0), some ⟨14, true⟩⟩, ⟨some 16, .nilchk (.tmp 15), some ⟨14, true⟩⟩, ⟨some 17, .fad 1 (.tmp 16), some ⟨14, true⟩⟩, ⟨some 18, .load false 1 (.tmp 17), some ⟨14, true⟩⟩, ⟨some 19, .mov (.tmp 6), some ⟨14, true⟩⟩, ⟨some 20, .iaS 32 (.tmp 18) (.tmp 19), some ⟨14, true⟩⟩, ⟨some 21, .load true 32 (.tmp 20), some ⟨14, true⟩⟩, ⟨some 22, .load true 32 (.tmp 3), some ⟨14, true⟩⟩, ⟨some 23, .call 19 [.tmp 21, .tmp 22], some ⟨14, true⟩⟩, ⟨some 24, .pick (.tmp 14) (.tmp 23) (.con (.bool false)), none⟩]) (.keep [0, 3, 6, 24] (.cond (.tmp 24) .skip (.exit 0)))) (.keep [0, 3, 6] (.block 1 (.rego 3 [⟨some 25, .mov (.tmp 6), none⟩, ⟨some 26, .bin .add (.tmp 25) (.con (.int .i64 1)), none⟩, ⟨some 6, .mov (.tmp 26), none⟩])))))) (.keep [0, 3, 6] (.seq (.reg 4 [⟨some 27, .mov (.tmp 6), none⟩, ⟨some 28, .mov (.tmp 6), none⟩, ⟨some 29, .mov (.tmp 0), none⟩, ⟨some 30, .nilchk (.tmp 29), none⟩, ⟨some 31, .fad 1 (.tmp 30), none⟩, ⟨some 32, .load false 1 (.tmp 31), none⟩, ⟨some 33, .len false (.tmp 32), none⟩, ⟨some 34, .bin .lss (.tmp 28) (.tmp 33), none⟩, ⟨some 35, .mov (.tmp 34), none⟩, ⟨some 36, .mov (.tmp 0), some ⟨35, true⟩⟩, ⟨some 37, .nilchk (.tmp 36), some ⟨35, true⟩⟩, ⟨some 38, .fad 1 (.tmp 37), some ⟨35, true⟩⟩, ⟨some 39, .load false 1 (.tmp 38), some ⟨35, true⟩⟩, ⟨some 40, .mov (.tmp 6), some ⟨35, true⟩⟩, ⟨some 41, .iaS 32 (.tmp 39) (.tmp 40), some ⟨35, true⟩⟩, ⟨some 42, .load true 32 (.tmp 41), some ⟨35, true⟩⟩, ⟨some 43, .load true 32 (.tmp 3), some ⟨35, true⟩⟩, ⟨some 44, .eqa 32 .u8 false (.tmp 42) (.tmp 43), some ⟨35, true⟩⟩, ⟨some 45, .pick (.tmp 35) (.tmp 44) (.con (.bool false)), none⟩, ⟨some 4, .mov (.tmp 27), none⟩, ⟨some 5, .mov (.tmp 45), none⟩]) .ret))))))
theorem fd34 : fnData Try.prog 34 = some (46, lc34.erase, [LRV.tmp 4, LRV.tmp 5]) := by kernel_rfl

end Go.Proofs.Ythpffaofpcikiaa

set_option linter.unusedSimpArgs false
set_option linter.unusedVariables false
namespace Go.Lg
open Go Go.RowKit

section
variable {P : Program}
/-- It yields a value, and reads these objects alone. -/
def evP (P : Program) (s : Nat) (o : LOp) (tm : Nat → V) (R : List (Key × LObj)) (v : V) : Prop :=
  ∀ σ : St, (∀ t ∈ o.slots, σ.tm t = tm t) → (∀ p ∈ R, σ.H p.1 = some p.2) → ∀ K : St → Prop, K (σ.put o.dst v) → vstepM P s o K σ
/-- It turns these objects so. -/
def evB (P : Program) (s : Nat) (o : LOp) (tm : Nat → V) (H : Heap) (c : Nat → Nat) (H1 : Heap) (c1 : Nat → Nat) (v : V) : Prop :=
  ∀ tm' : Nat → V, (∀ t ∈ o.slots, tm' t = tm t) → ∀ K : St → Prop, K (St.put ⟨tm', H1, c1⟩ o.dst v) → vstepM P s o K ⟨tm', H, c⟩
/-- What a step does: it reads these alone; it turns what is told, but not what is kept; it is the last one, and waits for all. -/
inductive Fd where
  | rd (R : List Key)
  | big
  | any
/-- The steps; beside each what it reads (none: a call that turns objects). 'kp': what all leave as it was. -/
def walkD (P : Program) (rid : Nat) (kp : List (Key × LObj)) (fin : List Fd → Prop) : List LOp → Nat → List Fd → (St → Prop) → St → Prop
  | [], _, fs, K, σ => fin fs ∧ K σ
  | o :: os, i, fs, K, σ => (∃ R v, evP P (siteOf rid i) o σ.tm R v ∧ (∀ p ∈ R, σ.H p.1 = some p.2) ∧ walkD P rid kp fin os (i + 1) (fs ++ [.rd (R.map (·.1))]) K (σ.put o.dst v)) ∨
      (∃ H1 c1 v, evB P (siteOf rid i) o σ.tm σ.H σ.cnt H1 c1 v ∧ (∀ p ∈ kp, H1 p.1 = some p.2) ∧ walkD P rid kp fin os (i + 1) (fs ++ [.big]) K (St.put ⟨σ.tm, H1, c1⟩ o.dst v)) ∨
      (os = [] ∧ ∃ H1 c1 v, evB P (siteOf rid i) o σ.tm σ.H σ.cnt H1 c1 v ∧ fin (fs ++ [.any]) ∧ K (St.put ⟨σ.tm, H1, c1⟩ o.dst v))
def bigOk (kp : List Key) : Fd → Fd → Bool
  | .big, .rd R => R.all kp.contains
  | .rd R, .big => R.all kp.contains
  | .rd _, .rd _ => true
  | .any, .rd R | .rd R, .any => R.isEmpty
  | _, _ => false
def bdOk (bs : List Nat) (ops : List LOp) (kp : List Key) (fs : List Fd) : Bool :=
  (List.range ops.length).all fun i => (List.range i).all fun j => (bs.getD i 0).testBit j || (apartO (loAt ops j) (loAt ops i) && bigOk kp (fs.getD j .any) (fs.getD i .any))

/-- What an event is known to be. -/
def EvD (kp : List (Key × LObj)) (e : Ev) : Fd → Prop
  | .big => ∃ b, e.big = some b ∧ e.rd = [] ∧ (∀ p ∈ kp, b.H0 p.1 = some p.2 ∧ b.H1 p.1 = some p.2) ∧ e.w = none ∧ e.nw = false
  | .any => True
  | .rd R => e.big = none ∧ e.w = none ∧ e.nw = false ∧ (∀ p ∈ e.rd, p.1 ∈ R) ∧ ∀ p ∈ e.rd, ∀ q ∈ kp, p.1 = q.1 → p.2 = q.2
theorem walkD_run {rid : Nat} {kp : List (Key × LObj)} {fin : List Fd → Prop} {los : List LOp} {K : St → Prop} : ∀ (ops : List LOp) (i : Nat), ops = los.drop i → i + ops.length = los.length → ∀ (fs : List Fd) (σ : St), (∀ p ∈ kp, σ.H p.1 = some p.2) → walkD P rid kp fin ops i fs K σ →
    ∃ (ev : Nat → Ev) (gs : List Fd) (σe : St), (∀ k, i ≤ k → k < los.length → EvOk P (siteOf rid k) (loAt los k) (ev k) ∧ EvD kp (ev k) (gs.getD (k - i) .any)) ∧ RunE rid (loAt los) ev (List.range' i ops.length) σ σe ∧ fin (fs ++ gs) ∧ K σe
  | [], i, hd, hn, fs, σ, hkp, h => by
    refine ⟨fun _ => ⟨.junk, [], none, false, fun _ => .junk, none⟩, [], σ, fun k h1 h2 => by simp at hn; omega, rfl, ?_, h.2⟩
    rw [List.append_nil]; exact h.1
  | p :: ops, i, hd, hn, fs, σ, hkp, h => by
    have one : (∃ (f : Fd) (ev0 : Ev) (σ1 : St), walkD P rid kp fin ops (i + 1) (fs ++ [f]) K σ1 ∧ EvOk P (siteOf rid i) p ev0 ∧ rdyE (siteOf rid i) p ev0 σ ∧ apE (siteOf rid i) p.dst ev0 σ = σ1 ∧ EvD kp ev0 f ∧ ∀ q ∈ kp, σ1.H q.1 = some q.2) ∨ (ops = [] ∧ ∃ (f : Fd) (ev0 : Ev) (σ1 : St), fin (fs ++ [f]) ∧ K σ1 ∧ EvOk P (siteOf rid i) p ev0 ∧ rdyE (siteOf rid i) p ev0 σ ∧ apE (siteOf rid i) p.dst ev0 σ = σ1 ∧ EvD kp ev0 f) := by
      rw [walkD] at h
      have big : ∀ {H1 : Heap} {c1 : Nat → Nat} {v : V}, evB P (siteOf rid i) p σ.tm σ.H σ.cnt H1 c1 v → EvOk P (siteOf rid i) p ⟨v, [], none, false, σ.tm, some ⟨σ.H, σ.cnt, H1, c1⟩⟩ := by
        rintro H1 c1 v h1 σ' ⟨⟨t1, _, _⟩, t4⟩ K' hK
        obtain ⟨b1, b2⟩ := t4 _ rfl
        have e : σ' = ⟨σ'.tm, σ.H, σ.cnt⟩ := by
          cases σ'; simp only at b1 b2; subst b1 b2; rfl
        rw [e]
        exact ⟨_, Ent.refl _, .inl (h1 σ'.tm t1 K' hK)⟩
      rcases h with ⟨R, v, h1, h2, h3⟩ | ⟨H1, c1, v, h1, h2, h3⟩ | ⟨h0, H1, c1, v, h1, h2, h3⟩
      · refine .inl ⟨_, ⟨v, R, none, false, σ.tm, none⟩, _, h3, ?_, ⟨⟨fun _ _ => rfl, h2, fun h => (by cases h)⟩, fun b h => (by cases h)⟩, rfl, ⟨rfl, rfl, rfl, fun q hq => List.mem_map_of_mem hq, fun q hq r hr e => ?_⟩, hkp⟩
        · rintro σ' ⟨⟨t1, t2, _⟩, _⟩ K' hK
          exact ⟨σ', Ent.refl _, .inl (h1 σ' t1 t2 K' hK)⟩
        · have e1 := h2 q hq
          rw [e, hkp r hr] at e1
          exact (Option.some.inj e1).symm
      · exact .inl ⟨_, ⟨v, [], none, false, σ.tm, some ⟨σ.H, σ.cnt, H1, c1⟩⟩, _, h3, big h1, ⟨⟨fun _ _ => rfl, fun q h => (by cases h), fun h => (by cases h)⟩, fun b h => (by cases h; exact ⟨rfl, rfl⟩)⟩, rfl, ⟨_, rfl, rfl, fun q hq => ⟨hkp q hq, h2 q hq⟩, rfl, rfl⟩, h2⟩
      · exact .inr ⟨h0, .any, ⟨v, [], none, false, σ.tm, some ⟨σ.H, σ.cnt, H1, c1⟩⟩, _, h2, h3, big h1, ⟨⟨fun _ _ => rfl, fun q h => (by cases h), fun h => (by cases h)⟩, fun b h => (by cases h; exact ⟨rfl, rfl⟩)⟩, rfl, trivial⟩
    have hd1 : ops = los.drop (i + 1) := by rw [← List.tail_drop, ← hd]; rfl
    have hlo : loAt los i = p := by
      have := congrArg (fun l => l[0]?) hd
      simp only [List.getElem?_cons_zero, List.getElem?_drop, Nat.add_zero] at this
      simp only [loAt, List.getD_eq_getElem?_getD, ← this, Option.getD_some]
    rcases one with ⟨f, ev0, σ1, h3, v1, v2, v3, v4, v5⟩ | ⟨h0, f, ev0, σ1, h3, h4, v1, v2, v3, v4⟩
    case inr =>
      subst h0
      refine ⟨fun _ => ev0, [f], σ1, fun k k1 k2 => ?_, ?_, h3, h4⟩
      · obtain rfl : k = i := by simp only [List.length_cons, List.length_nil] at hn; omega
        rw [hlo, Nat.sub_self]
        exact ⟨v1, v4⟩
      · refine ⟨?_, ?_⟩
        · rw [hlo]; exact v2
        · rw [hlo]; exact v3.symm
    obtain ⟨ev, gs, σe, w1, w2, w3, w4⟩ := walkD_run ops (i + 1) hd1 (by simp only [List.length_cons] at hn; omega) _ σ1 v5 h3
    refine ⟨fun k => if k = i then ev0 else ev k, f :: gs, σe, fun k k1 k2 => ?_, ?_, by rw [List.append_assoc] at w3; exact w3, w4⟩
    · by_cases hk : k = i
      · subst hk
        simp only [if_true, hlo, Nat.sub_self]
        exact ⟨v1, v4⟩
      · simp only [if_neg hk]
        obtain ⟨x1, x2⟩ := w1 k (by omega) k2
        have hs : k - i = (k - (i + 1)) + 1 := by omega
        rw [hs, List.getD_cons_succ]
        exact ⟨x1, x2⟩
    · have cong : ∀ (l : List Nat) (a b : St), (∀ j ∈ l, i < j) → RunE rid (loAt los) ev l a b → RunE rid (loAt los) (fun k => if k = i then ev0 else ev k) l a b := by
        intro l
        induction l with
        | nil => intro a b _ h; exact h
        | cons j r ih =>
          intro a b hl h
          have hj := hl j (List.mem_cons_self ..)
          have e : (if j = i then ev0 else ev j) = ev j := if_neg (by omega)
          refine ⟨?_, ?_⟩
          · show rdyE _ _ (if j = i then ev0 else ev j) _
            rw [e]; exact h.1
          · show RunE _ _ _ _ (apE _ _ (if j = i then ev0 else ev j) _) _
            rw [e]; exact ih _ _ (fun k hk => hl k (List.mem_cons_of_mem _ hk)) h.2
      rw [List.length_cons, List.range'_succ]
      refine ⟨?_, ?_⟩
      · simp only [if_true, hlo]; exact v2
      · simp only [if_true, hlo, v3]
        exact cong _ _ _ (fun j hj => by have := (List.mem_range'_1.1 hj).1; omega) w2
theorem vregd_D {rid : Nat} {bs : List Nat} {kp : List (Key × LObj)} {los : List LOp} {K : St → Prop} {σ : St} (hkp : ∀ p ∈ kp, σ.H p.1 = some p.2) (h : walkD P rid kp (fun fs => bdOk bs los (kp.map (·.1)) fs = true) los 0 [] K σ) : vregd P rid bs los K σ := by
  obtain ⟨ev, gs, σe, w1, w2, w3, w4⟩ := walkD_run los 0 rfl (by simp) [] σ hkp h
  rw [List.nil_append] at w3
  refine ⟨ev, fun i hi => (w1 i (Nat.zero_le _) hi).1, fun i j hj hi hb => ?_, σe, by rw [List.range_eq_range']; exact w2, w4⟩
  have h1 := List.all_eq_true.1 w3 i (List.mem_range.2 hi)
  have h2 := List.all_eq_true.1 h1 j (List.mem_range.2 hj)
  rw [hb] at h2
  simp only [Bool.false_or, Bool.and_eq_true] at h2
  obtain ⟨a1, a2⟩ := h2
  obtain ⟨_, fi⟩ := w1 i (Nat.zero_le _) hi
  obtain ⟨_, fj⟩ := w1 j (Nat.zero_le _) (by omega)
  rw [Nat.sub_zero] at fi fj
  refine ⟨a1, ?_⟩
  have calmB' : ∀ (e f : Ev) (R : List Key), EvD kp e .big → EvD kp f (.rd R) → R.all (kp.map (·.1)).contains = true → calmB e f := by
    rintro e f R ⟨b, hb, _, hk, _, _⟩ ⟨f1, f2, f3, f4, f5⟩ hR
    refine ⟨b, hb, f2, f3, f1, fun p hp => ?_⟩
    have hm := List.all_eq_true.1 hR p.1 (f4 p hp)
    rw [List.contains_iff_mem] at hm
    obtain ⟨q, hq, e1⟩ := List.mem_map.1 hm
    have e2 := f5 p hp q hq e1.symm
    rw [e2, ← e1]
    exact hk q hq
  have calm' : ∀ (f : Ev) (R : List Key), EvD kp f (.rd R) → R.isEmpty = true → calm f := by
    rintro f R ⟨f1, f2, f3, f4, f5⟩ hR
    rw [List.isEmpty_iff] at hR
    subst hR
    refine ⟨List.eq_nil_iff_forall_not_mem.2 fun p hp => ?_, f2, f3, f1⟩
    have := f4 p hp
    cases this
  cases hgi : gs.getD i .any with
  | big =>
    cases hgj : gs.getD j .any with
    | big => rw [hgi, hgj] at a2; cases a2
    | any => rw [hgi, hgj] at a2; cases a2
    | rd R =>
      rw [hgi, hgj] at a2; rw [hgi] at fi; rw [hgj] at fj
      exact .inr (.inr (.inr (.inr (calmB' _ _ R fi fj a2))))
  | any =>
    cases hgj : gs.getD j .any with
    | big => rw [hgi, hgj] at a2; cases a2
    | any => rw [hgi, hgj] at a2; cases a2
    | rd R =>
      rw [hgi, hgj] at a2; rw [hgj] at fj
      exact .inr (.inl (calm' _ R fj a2))
  | rd R =>
    rw [hgi] at fi
    cases hgj : gs.getD j .any with
    | big =>
      rw [hgi, hgj] at a2; rw [hgj] at fj
      exact .inr (.inr (.inr (.inl (calmB' _ _ R fj fi a2))))
    | any =>
      rw [hgi, hgj] at a2
      exact .inr (.inr (.inl (calm' _ R fi a2)))
    | rd R' =>
      rw [hgj] at fj
      obtain ⟨i1, i2, i3, i4, _⟩ := fi
      obtain ⟨j1, j2, j3, j4, _⟩ := fj
      exact .inl ⟨j1, i1, fun k hk => by simp [kw, j2] at hk, fun k hk => by simp [kw, i2] at hk⟩
theorem vcg_rege_of {rid : Nat} {bs : List Nat} {los : List LOp} {Q : Exit → St → Prop} {σ : St} (kp : List (Key × LObj)) (hkp : ∀ p ∈ kp, σ.H p.1 = some p.2) (h : walkD P rid kp (fun fs => bdOk bs los (kp.map (·.1)) fs = true) los 0 [] (Q .normal) σ) : vcg P (.rege rid bs los) Q σ := vregd_D hkp h

/-- A step that neither calls nor turns. -/
theorem walkD_A {rid i : Nat} {kp : List (Key × LObj)} {fin : List Fd → Prop} {fs : List Fd} {K : St → Prop} {σ : St} {d : Option Nat} {op : IOp} {os : List LOp} {pre : Prop} {v : V} (R : List (Key × LObj)) (hR : ∀ p ∈ R, σ.H p.1 = some p.2)
    (h : ∀ H : Heap, (∀ p ∈ R, H p.1 = some p.2) → lop op σ.tm H = .A pre v) (hp : pre) (hk : walkD P rid kp fin os (i + 1) (fs ++ [.rd (R.map (·.1))]) K (σ.put d v)) : walkD P rid kp fin (⟨d, op, none⟩ :: os) i fs K σ := by
  refine .inl ⟨R, v, fun σ' t1 t2 K' hK => ?_, hR, hk⟩
  show vresM P σ' (siteOf rid i) d K' (lop op σ'.tm σ'.H)
  rw [op_congr (o := ⟨d, op, none⟩) (tm := σ.tm) t1, h σ'.H t2]
  exact ⟨hp, hK⟩
/-- A call by its contract. -/
theorem walkD_P {rid i : Nat} {kp : List (Key × LObj)} {fin : List Fd → Prop} {fs : List Fd} {K : St → Prop} {σ : St} {d : Option Nat} {f : FuncId} {a : List Rd} {os : List LOp} {v : V} {sargs : List V} (hr : PRet P f sargs v) (hv : flat 4 v = true) (R : List (Key × LObj)) (hR : ∀ p ∈ R, σ.H p.1 = some p.2)
    (h : ∀ H : Heap, (∀ p ∈ R, H p.1 = some p.2) → (a.map (Rd.get σ.tm)).all (sok H 8) = true ∧ (a.map (Rd.get σ.tm)).map (snap H 8) = sargs) (hk : walkD P rid kp fin os (i + 1) (fs ++ [.rd (R.map (·.1))]) K (σ.put d v)) : walkD P rid kp fin (⟨d, .call f a, none⟩ :: os) i fs K σ := by
  refine .inl ⟨R, v, fun σ' t1 t2 K' hK => ?_, hR, hk⟩
  show vresM P σ' (siteOf rid i) d K' (lop (.call f a) σ'.tm σ'.H)
  rw [op_congr (o := ⟨d, .call f a, none⟩) (tm := σ.tm) t1]
  obtain ⟨h1, h2⟩ := h σ'.H t2
  exact ⟨h1, callX_of (h2 ▸ hr) (.inr hv) hK⟩
/-- A call that is walked into. -/
theorem walkD_B {rid i : Nat} {kp : List (Key × LObj)} {fin : List Fd → Prop} {fs : List Fd} {K : St → Prop} {σ : St} {d : Option Nat} {f : FuncId} {a : List Rd} {os : List LOp} {H1 : Heap} {c1 : Nat → Nat} {v : V} (hs : (a.map (Rd.get σ.tm)).all (sok σ.H 8) = true)
    (h : ∀ (tm' : Nat → V) (K' : St → Prop), K' (St.put ⟨tm', H1, c1⟩ d v) → callX P (siteOf rid i) f (a.map (Rd.get σ.tm)) ((a.map (Rd.get σ.tm)).map (snap σ.H 8)) d K' ⟨tm', σ.H, σ.cnt⟩)
    (hkp : ∀ p ∈ kp, H1 p.1 = some p.2) (hk : walkD P rid kp fin os (i + 1) (fs ++ [.big]) K (St.put ⟨σ.tm, H1, c1⟩ d v)) : walkD P rid kp fin (⟨d, .call f a, none⟩ :: os) i fs K σ := by
  refine .inr (.inl ⟨H1, c1, v, fun tm' t1 K' hK => ?_, hkp, hk⟩)
  show vresM P ⟨tm', σ.H, σ.cnt⟩ (siteOf rid i) d K' (lop (.call f a) tm' σ.H)
  rw [op_congr (o := ⟨d, .call f a, none⟩) (tm := σ.tm) t1]
  exact ⟨hs, h tm' K' hK⟩

/-! The same, reckoned: no calls. -/
def kpOk (H : Heap) : List (Key × LObj) → Prop
  | [] => True
  | p :: r => H p.1 = some p.2 ∧ kpOk H r
theorem kpOk_iff {H : Heap} : ∀ {kp : List (Key × LObj)}, kpOk H kp → ∀ p ∈ kp, H p.1 = some p.2
  | [], _, p, hp => by cases hp
  | q :: r, h, p, hp => by
    rcases List.mem_cons.1 hp with rfl | hp
    · exact h.1
    · exact kpOk_iff h.2 p hp
def wsA (r : LRes) (k : V → Prop) : Prop := match r with
  | .A pre v => pre ∧ k v
  | _ => False
def wsL (H : Heap) (agg : Bool) (n : Nat) (k : List Key → V → Prop) : V → Prop
  | .mp key g o => wsA (lload agg n H (.mp key g o)) (k [key])
  | .ip cs o => wsA (lload agg n H (.ip cs o)) (k [])
  | _ => False
def wsB (H : Heap) (k : V → Prop) : V → Prop
  | .sl n cs => wsA (lb2s H (.sl n cs)) k
  | _ => False
def wsW (s : Nat) (kp : List (Key × LObj)) (σ : St) (d : Option Nat) (k : St → Prop) : LRes → Prop
  | .C pre o mk => pre ∧ kpOk (hupd σ.H (s, σ.cnt s) o) kp ∧ k (St.put ⟨σ.tm, hupd σ.H (s, σ.cnt s) o, cupd σ.cnt s⟩ d (mk (s, σ.cnt s)))
  | .D pre v H1 => pre ∧ kpOk H1 kp ∧ k (St.put ⟨σ.tm, H1, σ.cnt⟩ d v)
  | _ => False
def wsF (σ : St) (d : Option Nat) (k : St → Prop) : LRes → Prop
  | .D pre v H1 => pre ∧ k (St.put ⟨σ.tm, H1, σ.cnt⟩ d v)
  | _ => False
def freeOp : IOp → Bool
  | .mov _ | .nilchk _ | .fad .. | .bin .. | .un .. | .slV .. | .bsl .. | .ext .. | .len .. => true
  | _ => false
theorem freeOp_H {op : IOp} (h : freeOp op = true) (tm : Nat → V) (H H' : Heap) : lop op tm H = lop op tm H' := by
  cases op <;> first | rfl | cases h
def walkS (P : Program) (rid : Nat) (kp : List (Key × LObj)) (fin : List Fd → Prop) : List LOp → Nat → List Fd → (St → Prop) → St → Prop
  | [], _, fs, K, σ => fin fs ∧ K σ
  | o :: os, i, fs, K, σ => o.guard = none ∧ match o.op with
    | .load agg n a => wsL σ.H agg n (fun ks v => walkS P rid kp fin os (i + 1) (fs ++ [.rd ks]) K (σ.put o.dst v)) (a.get σ.tm)
    | .b2s x => wsB σ.H (fun v => walkS P rid kp fin os (i + 1) (fs ++ [.rd []]) K (σ.put o.dst v)) (x.get σ.tm)
    | .app .. | .appE .. => wsW (siteOf rid i) kp σ o.dst (fun σ' => walkS P rid kp fin os (i + 1) (fs ++ [.big]) K σ') (lop o.op σ.tm σ.H)
    | .store .. => os = [] ∧ wsF σ o.dst (fun σ' => fin (fs ++ [.any]) ∧ K σ') (lop o.op σ.tm σ.H)
    | op => freeOp op = true ∧ wsA (lop op σ.tm σ.H) (fun v => walkS P rid kp fin os (i + 1) (fs ++ [.rd []]) K (σ.put o.dst v))
theorem wsA_iff {r : LRes} {k : V → Prop} (h : wsA r k) : ∃ pre v, r = .A pre v ∧ pre ∧ k v := by
  cases r with
  | A pre v => exact ⟨pre, v, rfl, h.1, h.2⟩
  | _ => exact h.elim
theorem evB_of_C {s : Nat} {d : Option Nat} {op : IOp} {σ : St} {pre : Prop} {o : LObj} {mk : Key → V} (h : lop op σ.tm σ.H = .C pre o mk) (hp : pre) : evB P s ⟨d, op, none⟩ σ.tm σ.H σ.cnt (hupd σ.H (s, σ.cnt s) o) (cupd σ.cnt s) (mk (s, σ.cnt s)) := by
  intro tm' t1 K' hK
  show vresM P ⟨tm', σ.H, σ.cnt⟩ s d K' (lop op tm' σ.H)
  rw [op_congr (o := ⟨d, op, none⟩) (tm := σ.tm) t1, h]
  exact ⟨hp, hK⟩
theorem evB_of_D {s : Nat} {d : Option Nat} {op : IOp} {σ : St} {pre : Prop} {v : V} {H1 : Heap} (h : lop op σ.tm σ.H = .D pre v H1) (hp : pre) : evB P s ⟨d, op, none⟩ σ.tm σ.H σ.cnt H1 σ.cnt v := by
  intro tm' t1 K' hK
  show vresM P ⟨tm', σ.H, σ.cnt⟩ s d K' (lop op tm' σ.H)
  rw [op_congr (o := ⟨d, op, none⟩) (tm := σ.tm) t1, h]
  exact ⟨hp, hK⟩
theorem lload_mp {agg : Bool} {n : Nat} {H : Heap} {key : Key} {g o : Nat} {pre : Prop} {v : V} (h : lload agg n H (.mp key g o) = .A pre v) : ∃ ob, H key = some ob ∧ ∀ H' : Heap, H' key = some ob → lload agg n H' (.mp key g o) = .A pre v := by
  cases hk : H key with
  | none => simp only [lload, hk] at h; cases h
  | some ob =>
    refine ⟨ob, rfl, fun H' h' => ?_⟩
    simp only [lload, hk] at h
    simp only [lload, h']
    exact h
theorem walkS_D {rid : Nat} {kp : List (Key × LObj)} {fin : List Fd → Prop} {K : St → Prop} : ∀ (os : List LOp) (i : Nat) (fs : List Fd) (σ : St), walkS P rid kp fin os i fs K σ → walkD P rid kp fin os i fs K σ
  | [], _, _, _, h => h
  | ⟨d, op, g⟩ :: os, i, fs, σ, h => by
    obtain ⟨hg, h⟩ := h
    have hg : g = none := hg
    subst hg
    have ih := fun i fs σ => walkS_D (rid := rid) (kp := kp) (fin := fin) (K := K) os i fs σ
    have free : freeOp op = true ∧ wsA (lop op σ.tm σ.H) (fun v => walkS P rid kp fin os (i + 1) (fs ++ [.rd []]) K (σ.put d v)) → walkD P rid kp fin (⟨d, op, none⟩ :: os) i fs K σ := by
      rintro ⟨h1, h2⟩
      obtain ⟨pre, v, e, hp, hk⟩ := wsA_iff h2
      exact walkD_A [] (fun _ h => by cases h) (fun H _ => by rw [freeOp_H h1 σ.tm H σ.H]; exact e) hp (ih _ _ _ hk)
    have wr : wsW (siteOf rid i) kp σ d (fun σ' => walkS P rid kp fin os (i + 1) (fs ++ [.big]) K σ') (lop op σ.tm σ.H) → walkD P rid kp fin (⟨d, op, none⟩ :: os) i fs K σ := by
      intro h
      cases e : lop op σ.tm σ.H with
      | C pre o mk =>
        rw [e] at h
        obtain ⟨h1, h2, h3⟩ := h
        exact .inr (.inl ⟨_, _, _, evB_of_C e h1, kpOk_iff h2, ih _ _ _ h3⟩)
      | D pre v H1 =>
        rw [e] at h
        obtain ⟨h1, h2, h3⟩ := h
        exact .inr (.inl ⟨_, _, _, evB_of_D e h1, kpOk_iff h2, ih _ _ _ h3⟩)
      | A pre v => rw [e] at h; exact h.elim
      | call pre f a b => rw [e] at h; exact h.elim
      | bad => rw [e] at h; exact h.elim
    cases op with
    | load agg n a =>
      have h : wsL σ.H agg n (fun ks v => walkS P rid kp fin os (i + 1) (fs ++ [.rd ks]) K (σ.put d v)) (a.get σ.tm) := h
      generalize hx : a.get σ.tm = x at h
      cases x with
      | mp key g o =>
        obtain ⟨pre, v, e, hp, hk⟩ := wsA_iff h
        obtain ⟨ob, h1, h2⟩ := lload_mp e
        refine walkD_A [(key, ob)] (fun q hq => by rw [List.mem_singleton.1 hq]; exact h1) (fun H hH => ?_) hp (ih _ _ _ hk)
        show lload agg n H (a.get σ.tm) = _
        rw [hx]
        exact h2 H (hH _ (List.mem_singleton.2 rfl))
      | ip cs o =>
        obtain ⟨pre, v, e, hp, hk⟩ := wsA_iff h
        refine walkD_A [] (fun _ h => by cases h) (fun H _ => ?_) hp (ih _ _ _ hk)
        show lload agg n H (a.get σ.tm) = _
        rw [hx]; exact e
      | _ => exact h.elim
    | b2s x =>
      have h : wsB σ.H (fun v => walkS P rid kp fin os (i + 1) (fs ++ [.rd []]) K (σ.put d v)) (x.get σ.tm) := h
      generalize hx : x.get σ.tm = y at h
      cases y with
      | sl n cs =>
        obtain ⟨pre, v, e, hp, hk⟩ := wsA_iff h
        refine walkD_A [] (fun _ h => by cases h) (fun H _ => ?_) hp (ih _ _ _ hk)
        show lb2s H (x.get σ.tm) = _
        rw [hx]; exact e
      | _ => exact h.elim
    | app => exact wr h
    | appE => exact wr h
    | store n a x =>
      obtain ⟨h0, h⟩ := h
      subst h0
      have h : wsF σ d (fun σ' => fin (fs ++ [.any]) ∧ K σ') (lop (.store n a x) σ.tm σ.H) := h
      cases e : lop (.store n a x) σ.tm σ.H with
      | D pre v H1 =>
        rw [e] at h
        obtain ⟨h1, h2, h3⟩ := h
        exact .inr (.inr ⟨rfl, _, _, _, evB_of_D e h1, h2, h3⟩)
      | A pre v => rw [e] at h; exact h.elim
      | C pre o mk => rw [e] at h; exact h.elim
      | call pre f a b => rw [e] at h; exact h.elim
      | bad => rw [e] at h; exact h.elim
    | _ => exact free h
theorem vcg_regd_S {rid : Nat} {bs : List Nat} {los : List LOp} {Q : Exit → St → Prop} {σ : St} (kp : List (Key × LObj)) (hkp : kpOk σ.H kp) (h : walkS P rid kp (fun fs => bdOk bs los (kp.map (·.1)) fs = true) los 0 [] (Q .normal) σ) : vcg P (.regd rid bs los) Q σ := vregd_D (kpOk_iff hkp) (walkS_D _ _ _ _ h)
theorem wsA_A {pre : Prop} {v : V} {k : V → Prop} : wsA (.A pre v) k = (pre ∧ k v) := rfl
theorem wsL_mp {H : Heap} {agg : Bool} {n : Nat} {k : List Key → V → Prop} {key : Key} {g o : Nat} : wsL H agg n k (.mp key g o) = wsA (lload agg n H (.mp key g o)) (k [key]) := rfl
theorem wsL_ip {H : Heap} {agg : Bool} {n : Nat} {k : List Key → V → Prop} {cs : List V} {o : Nat} : wsL H agg n k (.ip cs o) = wsA (lload agg n H (.ip cs o)) (k []) := rfl
theorem wsB_sl {H : Heap} {k : V → Prop} {n : Nat} {cs : List V} : wsB H k (.sl n cs) = wsA (lb2s H (.sl n cs)) k := rfl
theorem wsW_C {s : Nat} {kp : List (Key × LObj)} {σ : St} {d : Option Nat} {k : St → Prop} {pre : Prop} {o : LObj} {mk : Key → V} : wsW s kp σ d k (.C pre o mk) = (pre ∧ kpOk (hupd σ.H (s, σ.cnt s) o) kp ∧ k (St.put ⟨σ.tm, hupd σ.H (s, σ.cnt s) o, cupd σ.cnt s⟩ d (mk (s, σ.cnt s)))) := rfl
theorem wsW_D {s : Nat} {kp : List (Key × LObj)} {σ : St} {d : Option Nat} {k : St → Prop} {pre : Prop} {v : V} {H1 : Heap} : wsW s kp σ d k (.D pre v H1) = (pre ∧ kpOk H1 kp ∧ k (St.put ⟨σ.tm, H1, σ.cnt⟩ d v)) := rfl
theorem wsF_D {σ : St} {d : Option Nat} {k : St → Prop} {pre : Prop} {v : V} {H1 : Heap} : wsF σ d k (.D pre v H1) = (pre ∧ k (St.put ⟨σ.tm, H1, σ.cnt⟩ d v)) := rfl
theorem kpOk_nil {H : Heap} : kpOk H [] = True := rfl
theorem kpOk_cons {H : Heap} {p : Key × LObj} {r : List (Key × LObj)} : kpOk H (p :: r) = (H p.1 = some p.2 ∧ kpOk H r) := rfl
end
section
variable {P : Program} {rid i : Nat} {kp : List (Key × LObj)} {fin : List Fd → Prop} {fs : List Fd} {K : St → Prop} {σ : St} {d : Option Nat} {os : List LOp}
theorem walkS_nil : walkS P rid kp fin [] i fs K σ = (fin fs ∧ K σ) := rfl
theorem walkS_load {agg : Bool} {n : Nat} {a : Rd} : walkS P rid kp fin (⟨d, .load agg n a, none⟩ :: os) i fs K σ = wsL σ.H agg n (fun ks v => walkS P rid kp fin os (i + 1) (fs ++ [.rd ks]) K (σ.put d v)) (a.get σ.tm) := propext ⟨fun h => h.2, fun h => ⟨rfl, h⟩⟩
theorem walkS_b2s {x : Rd} : walkS P rid kp fin (⟨d, .b2s x, none⟩ :: os) i fs K σ = wsB σ.H (fun v => walkS P rid kp fin os (i + 1) (fs ++ [.rd []]) K (σ.put d v)) (x.get σ.tm) := propext ⟨fun h => h.2, fun h => ⟨rfl, h⟩⟩
theorem walkS_app {e b : Nat} {x y : Rd} : walkS P rid kp fin (⟨d, .app e b x y, none⟩ :: os) i fs K σ = wsW (siteOf rid i) kp σ d (fun σ' => walkS P rid kp fin os (i + 1) (fs ++ [.big]) K σ') (lop (.app e b x y) σ.tm σ.H) := propext ⟨fun h => h.2, fun h => ⟨rfl, h⟩⟩
theorem walkS_appE {e b : Nat} {x y : Rd} : walkS P rid kp fin (⟨d, .appE e b x y, none⟩ :: os) i fs K σ = wsW (siteOf rid i) kp σ d (fun σ' => walkS P rid kp fin os (i + 1) (fs ++ [.big]) K σ') (lop (.appE e b x y) σ.tm σ.H) := propext ⟨fun h => h.2, fun h => ⟨rfl, h⟩⟩
theorem walkS_store {n : Nat} {a x : Rd} : walkS P rid kp fin [⟨d, .store n a x, none⟩] i fs K σ = wsF σ d (fun σ' => fin (fs ++ [.any]) ∧ K σ') (lop (.store n a x) σ.tm σ.H) := propext ⟨fun h => h.2.2, fun h => ⟨rfl, rfl, h⟩⟩
theorem walkS_mov {x : Rd} : walkS P rid kp fin (⟨d, .mov x, none⟩ :: os) i fs K σ = walkS P rid kp fin os (i + 1) (fs ++ [.rd []]) K (σ.put d (x.get σ.tm)) := propext ⟨fun h => h.2.2.2, fun h => ⟨rfl, rfl, trivial, h⟩⟩
theorem walkS_nilchk {x : Rd} : walkS P rid kp fin (⟨d, .nilchk x, none⟩ :: os) i fs K σ = wsA (lnil (x.get σ.tm)) (fun v => walkS P rid kp fin os (i + 1) (fs ++ [.rd []]) K (σ.put d v)) := propext ⟨fun h => h.2.2, fun h => ⟨rfl, rfl, h⟩⟩
theorem walkS_fad {o : Nat} {x : Rd} : walkS P rid kp fin (⟨d, .fad o x, none⟩ :: os) i fs K σ = wsA (lfad o (x.get σ.tm)) (fun v => walkS P rid kp fin os (i + 1) (fs ++ [.rd []]) K (σ.put d v)) := propext ⟨fun h => h.2.2, fun h => ⟨rfl, rfl, h⟩⟩
theorem walkS_slV {e : Nat} {x : Rd} {lo hi : Option Rd} : walkS P rid kp fin (⟨d, .slV e x lo hi, none⟩ :: os) i fs K σ = wsA (lop (.slV e x lo hi) σ.tm σ.H) (fun v => walkS P rid kp fin os (i + 1) (fs ++ [.rd []]) K (σ.put d v)) := propext ⟨fun h => h.2.2, fun h => ⟨rfl, rfl, h⟩⟩
theorem walkS_bsl {n : Nat} {zs : List V} {ps : List (Nat × Nat × Rd)} : walkS P rid kp fin (⟨d, .bsl n zs ps, none⟩ :: os) i fs K σ = wsA (lop (.bsl n zs ps) σ.tm σ.H) (fun v => walkS P rid kp fin os (i + 1) (fs ++ [.rd []]) K (σ.put d v)) := propext ⟨fun h => h.2.2, fun h => ⟨rfl, rfl, h⟩⟩
end
end Go.Lg

set_option linter.unusedSimpArgs false
set_option linter.unusedVariables false
namespace Go.Lg
open Go Go.RowKit
/-- Where a sum stands. -/
def atS (rs : List (List Int)) (h : List Int) : Nat := (rs.takeWhile fun b => decide (cmpI (sumS b) h < 0)).length
def isS (rs : List (List Int)) (h : List Int) : Bool := match rs[atS rs h]? with
  | some b => decide (sumS b = h)
  | none => false
def insS (rs : List (List Int)) (b : List Int) : List (List Int) := rs.take (atS rs (sumS b)) ++ [b] ++ rs.drop (atS rs (sumS b))
/-- It rises. -/
def Rise (rs : List (List Int)) : Prop := rs.Pairwise fun a b => cmpI (sumS a) (sumS b) < 0
theorem atS_nil (h : List Int) : atS [] h = 0 := rfl
theorem atS_cons (b : List Int) (rs : List (List Int)) (h : List Int) : atS (b :: rs) h = if cmpI (sumS b) h < 0 then atS rs h + 1 else 0 := by
  unfold atS
  rw [List.takeWhile_cons]
  by_cases hc : cmpI (sumS b) h < 0
  · rw [if_pos hc, decide_eq_true hc]; rfl
  · rw [if_neg hc, decide_eq_false hc]; rfl
theorem atS_le (rs : List (List Int)) (h : List Int) : atS rs h ≤ rs.length := by
  induction rs with
  | nil => exact Nat.le_refl _
  | cons b rs ih => rw [atS_cons]; split <;> simp only [List.length_cons] <;> omega
theorem atS_drop {rs : List (List Int)} {h : List Int} {k : Nat} (hk : k < rs.length) : atS (rs.drop k) h = if cmpI (sumS rs[k]) h < 0 then atS (rs.drop (k + 1)) h + 1 else 0 := by
  rw [List.drop_eq_getElem_cons hk, atS_cons]
theorem isS_drop {rs : List (List Int)} {h : List Int} {k : Nat} (e : atS rs h = k) : isS rs h = match rs[k]? with
  | some b => decide (sumS b = h)
  | none => false := by unfold isS; rw [e]
theorem Rise.at {rs : List (List Int)} (hr : Rise rs) {b : List Int} (hb : b ∈ rs) : rs[atS rs (sumS b)]? = some b := by
  induction rs with
  | nil => cases hb
  | cons c rs ih =>
    obtain ⟨h1, h2⟩ := List.pairwise_cons.1 hr
    rw [atS_cons]
    rcases List.mem_cons.1 hb with rfl | hb
    · rw [if_neg (by rw [cmpI_self]; omega)]; rfl
    · rw [if_pos (h1 b hb), List.getElem?_cons_succ]
      exact ih h2 hb
theorem Rise.is {rs : List (List Int)} (hr : Rise rs) {h : List Int} : isS rs h = true ↔ ∃ b ∈ rs, sumS b = h := by
  constructor
  · intro hi
    unfold isS at hi
    cases e : rs[atS rs h]? with
    | none => rw [e] at hi; cases hi
    | some b =>
      rw [e] at hi
      exact ⟨b, List.mem_of_getElem? e, of_decide_eq_true hi⟩
  · rintro ⟨b, hb, rfl⟩
    unfold isS
    rw [hr.at hb]
    simp
theorem Rise.low {rs : List (List Int)} {h : List Int} : ∀ b ∈ rs.take (atS rs h), cmpI (sumS b) h < 0 := by
  induction rs with
  | nil => intro b hb; simp at hb
  | cons c rs ih =>
    intro b hb
    rw [atS_cons] at hb
    by_cases hc : cmpI (sumS c) h < 0
    · rw [if_pos hc, List.take_succ_cons] at hb
      rcases List.mem_cons.1 hb with rfl | hb
      · exact hc
      · exact ih b hb
    · rw [if_neg hc] at hb
      cases hb
theorem Rise.high {rs : List (List Int)} (hr : Rise rs) {h : List Int} (hn : ∀ b ∈ rs, sumS b ≠ h) : ∀ b ∈ rs.drop (atS rs h), cmpI h (sumS b) < 0 := by
  induction rs with
  | nil => intro b hb; simp at hb
  | cons c rs ih =>
    intro b hb
    obtain ⟨h1, h2⟩ := List.pairwise_cons.1 hr
    rw [atS_cons] at hb
    have hcn := cmpI_neg (sumS c) h
    by_cases hc : cmpI (sumS c) h < 0
    · rw [if_pos hc, List.drop_succ_cons] at hb
      exact ih h2 (fun d hd => hn d (List.mem_cons_of_mem _ hd)) b hb
    · rw [if_neg hc, List.drop_zero] at hb
      have hne : cmpI (sumS c) h ≠ 0 := fun e => hn c (List.mem_cons_self ..) (cmpI_eq e)
      rcases List.mem_cons.1 hb with rfl | hb
      · omega
      · exact cmpI_trans (by omega) (h1 b hb)
theorem Rise.ins {rs : List (List Int)} (hr : Rise rs) {b : List Int} (hn : ∀ c ∈ rs, sumS c ≠ sumS b) : Rise (insS rs b) := by
  have hp : Rise (rs.take (atS rs (sumS b)) ++ rs.drop (atS rs (sumS b))) := by rw [List.take_append_drop]; exact hr
  unfold Rise at hp ⊢
  rw [List.pairwise_append] at hp
  obtain ⟨p1, p2, p3⟩ := hp
  unfold insS
  rw [List.append_assoc, List.pairwise_append]
  refine ⟨p1, ?_, fun x hx y hy => ?_⟩
  · rw [List.singleton_append, List.pairwise_cons]
    exact ⟨hr.high hn, p2⟩
  · rcases List.mem_append.1 hy with hy | hy
    · rw [List.mem_singleton.1 hy]; exact Rise.low x hx
    · exact p3 x hx y hy
theorem ins_perm (rs : List (List Int)) (b : List Int) : (rs ++ [b]).Perm (insS rs b) := by
  have h : rs ++ [b] = rs.take (atS rs (sumS b)) ++ (rs.drop (atS rs (sumS b)) ++ [b]) := by rw [← List.append_assoc, List.take_append_drop]
  rw [h, insS, List.append_assoc]
  exact List.Perm.append_left _ List.perm_append_comm
/-- The store and the document's. -/
structure Rel (bs rs : List (List Int)) : Prop where
  perm : bs.Perm rs
  rise : Rise rs
  by_ : ∀ b ∈ bs, b.length ≤ 200 ∧ isBy b
theorem Rel.nil : Rel [] [] := ⟨.refl _, .nil, fun b h => by cases h⟩
theorem Rel.add {bs rs : List (List Int)} (h : Rel bs rs) {b : List Int} (hb : b.length ≤ 200 ∧ isBy b) (hn : ∀ c ∈ bs, sumS b ≠ sumS c) : Rel (bs ++ [b]) (insS rs b) :=
  ⟨(h.perm.append_right [b]).trans (ins_perm rs b), h.rise.ins fun c hc => Ne.symm (hn c (h.perm.mem_iff.2 hc)), fun c hc => by
    rcases List.mem_append.1 hc with hc | hc
    · exact h.by_ c hc
    · rw [List.mem_singleton.1 hc]; exact hb⟩
theorem Rel.len {bs rs : List (List Int)} (h : Rel bs rs) : bs.length = rs.length := h.perm.length_eq
theorem Rel.sort {bs rs : List (List Int)} (h : Rel bs rs) : sortH (bs.map hsum) = rs.map hsum := by
  refine (sortH_uniq (h.perm.map hsum).symm ?_).symm
  rw [List.pairwise_map]
  refine h.rise.imp fun {a b} hab => ?_
  rw [ltOf_cmpH, decide_eq_false_iff_not]
  have := cmpI_neg (sumS a) (sumS b)
  simp only [hsum]
  omega
/-- What is found under a sum. -/
theorem ents_find (k : HS) (bs : List (List Int)) : (∃ c ∈ bs, sumS c = k.1 ∧ ∃ j, findK (.agg k.cells) (ents bs) = some (j, .sl c.length (c.flatMap (cK .u8)))) ∨ ((∀ c ∈ bs, sumS c ≠ k.1) ∧ findK (.agg k.cells) (ents bs) = none) := by
  induction bs with
  | nil => exact .inr ⟨fun c h => (by cases h), rfl⟩
  | cons c bs ih =>
    have e1 : eqK (.agg k.cells) (.agg ((sumS c).flatMap (cK .u8))) = decide (k.1 = sumS c) := by simp only [eqK, HS.cells, lk_eq]
    by_cases e : k.1 = sumS c
    · refine .inl ⟨c, List.mem_cons_self .., e.symm, 0, ?_⟩
      rw [decide_eq_true e] at e1
      have e1 : eqK (.agg k.cells) (entB c).1 = true := e1
      simp only [ents, List.map_cons, findK, e1, if_true]; rfl
    · rw [decide_eq_false e] at e1
      have e1 : eqK (.agg k.cells) (entB c).1 = false := e1
      rcases ih with ⟨d, hd, hk, j, hj⟩ | ⟨hn, hj⟩
      · refine .inl ⟨d, List.mem_cons_of_mem _ hd, hk, j + 1, ?_⟩
        simp only [ents, List.map_cons, findK, e1, Bool.false_eq_true, if_false] at hj ⊢
        rw [hj]; rfl
      · refine .inr ⟨fun d hd => ?_, ?_⟩
        · rcases List.mem_cons.1 hd with rfl | hd
          · exact fun h => e h.symm
          · exact hn d hd
        · simp only [ents, List.map_cons, findK, e1, Bool.false_eq_true, if_false] at hj ⊢
          rw [hj]; rfl
end Go.Lg
namespace Go.Proofs.Ythpffaofpcikiaa
open Go Go.Lg Go.RowKit
set_option linter.unusedVariables false
set_option linter.unusedSimpArgs false
theorem hsum_val (b : List Int) : (hsum b).1 = sumS b := by simp only [hsum]
theorem hc_snap (H : Heap) (d : Nat) (x : HS) : x.cells.map (snap H (d + 1)) = x.cells := by rw [HS.cells, lk_snap]
theorem hc_sok (H : Heap) (d : Nat) (x : HS) : x.cells.all (sok H (d + 1)) = true := by rw [HS.cells, lk_sok]
theorem hc_ints (x : HS) : intsK .u8 x.cells = true := by rw [HS.cells, lk_ints]
theorem hc_ldall (x : HS) : ldV true 32 x.cells 0 = some (.agg x.cells) := lk_ldall x.2.1
theorem at_ret (room : Int) (rs : List (List Int)) (h : HS) (hn : rs.length ≤ 16) : PRet Try.prog 34 [.ip [.int .i64 room, encL HS.cells (rs.map hsum), encL cT rs] 0, .agg h.cells] (.tup [.int .i64 (atS rs h.1 : Nat), .bool (isS rs h.1)]) := by
  refine pret_intro fd34 (by simp) ?_
  simp only [lc34, VC0, VC1, VC2, VC3, VC4, VC5, VC6, VC7, VC8, VC9, reduceIte, reduceCtorEq, Nat.reduceEqDiff, Nat.reduceAdd, Nat.reduceMul, Nat.reduceBEq, Nat.reduceLT, Nat.reduceLeDiff, Int.reduceEq, Int.reduceLT, Int.reduceLE, Int.reduceNeg, Int.reduceToNat, Int.reduceAdd, Nat.reduceDiv, Nat.reduceSub, Nat.reduceMod, encL, lk_len, lk_ld, lk_set, lk_app, lk_imv, lk_snap, lk_sok, lk_one, lk_ldall, lk_setall, lk_mk, List.length_set, List.length_append, List.length_singleton, List.length_replicate, fold_or32, fold_xor32, fold_and32, fold_shl32, fold_shr32, fold_add32, fold_not32, sc_one, rv2, rv3, Option.bind_some, Option.map_some, Option.some.injEq, exists_eq_left', List.getElem?_cons_zero, List.getElem?_cons_succ, ld_0, ld_1, ld_2, sc_0, sc_1, sc_2, List.take_succ_cons, List.take_zero, List.all_cons, List.all_nil, List.map_cons, List.map_nil, Bool.and_true, Bool.true_and, flt_snap, flt_sok, flt_imv, flt_one, flt_eq, set_hs, ld_hs, sumS_len, lk_ints, setK_nil]
  refine loop_vcg (ι := Nat × (Nat → Nat)) (fun (k, c) => stO [(0, .val (.ip [.int .i64 room, encL HS.cells (rs.map hsum), encL cT rs] 0)), (3, .box h.cells), (6, .val (.int .i64 k))] c)
    (fun (k, _) => k ≤ rs.length ∧ atS rs h.1 = k + atS (rs.drop k) h.1) (fun (k, _) => rs.length - k) (0, _) ⟨Nat.zero_le _, (Nat.zero_add _).symm⟩ (ent_of _ [] rfl rfl (by simp only [VC0, VC1, VC2, VC3, VC4, VC5, VC6, VC7, VC8, VC9, reduceIte, reduceCtorEq, Nat.reduceEqDiff, Nat.reduceAdd, Nat.reduceMul, Nat.reduceBEq, Nat.reduceLT, Nat.reduceLeDiff, Int.reduceEq, Int.reduceLT, Int.reduceLE, Int.reduceNeg, Int.reduceToNat, Int.reduceAdd, Nat.reduceDiv, Nat.reduceSub, Nat.reduceMod, encL, lk_len, lk_ld, lk_set, lk_app, lk_imv, lk_snap, lk_sok, lk_one, lk_ldall, lk_setall, lk_mk, List.length_set, List.length_append, List.length_singleton, List.length_replicate, fold_or32, fold_xor32, fold_and32, fold_shl32, fold_shr32, fold_add32, fold_not32, sc_one, rv2, rv3, Option.bind_some, Option.map_some, Option.some.injEq, exists_eq_left', List.getElem?_cons_zero, List.getElem?_cons_succ, ld_0, ld_1, ld_2, sc_0, sc_1, sc_2, List.take_succ_cons, List.take_zero, List.all_cons, List.all_nil, List.map_cons, List.map_nil, Bool.and_true, Bool.true_and, flt_snap, flt_sok, flt_imv, flt_one, flt_eq, set_hs, ld_hs, sumS_len, lk_ints, setK_nil, hh_imv, tx_imv, HS.cells, lk_imv])) ?_
  rintro ⟨k, c⟩ hk
  obtain ⟨hk, he⟩ : k ≤ rs.length ∧ atS rs h.1 = k + atS (rs.drop k) h.1 := hk
  have fin : ∀ b : Bool, (atS rs h.1 = k ∧ (∀ hk : k < rs.length, b = decide (sumS rs[k] = h.1)) ∧ (¬ k < rs.length → b = false)) → (V.tup [.int .i64 (k : Nat), .bool b]) = V.tup [.int .i64 (atS rs h.1 : Nat), .bool (isS rs h.1)] := by
    rintro b ⟨e, h1, h2⟩
    rw [isS_drop e, e]
    by_cases hk : k < rs.length
    · rw [List.getElem?_eq_getElem hk, h1 hk]
    · rw [List.getElem?_eq_none (by omega), h2 hk]
  simp only [VC0, VC1, VC2, VC3, VC4, VC5, VC6, VC7, VC8, VC9, reduceIte, reduceCtorEq, Nat.reduceEqDiff, Nat.reduceAdd, Nat.reduceMul, Nat.reduceBEq, Nat.reduceLT, Nat.reduceLeDiff, Int.reduceEq, Int.reduceLT, Int.reduceLE, Int.reduceNeg, Int.reduceToNat, Int.reduceAdd, Nat.reduceDiv, Nat.reduceSub, Nat.reduceMod, encL, lk_len, lk_ld, lk_set, lk_app, lk_imv, lk_snap, lk_sok, lk_one, lk_ldall, lk_setall, lk_mk, List.length_set, List.length_append, List.length_singleton, List.length_replicate, fold_or32, fold_xor32, fold_and32, fold_shl32, fold_shr32, fold_add32, fold_not32, sc_one, rv2, rv3, Option.bind_some, Option.map_some, Option.some.injEq, exists_eq_left', List.getElem?_cons_zero, List.getElem?_cons_succ, ld_0, ld_1, ld_2, sc_0, sc_1, sc_2, List.take_succ_cons, List.take_zero, List.all_cons, List.all_nil, List.map_cons, List.map_nil, Bool.and_true, Bool.true_and, flt_snap, flt_sok, flt_imv, flt_one, flt_eq, set_hs, ld_hs, sumS_len, lk_ints, setK_nil, List.length_map]
  cases c1 : decide ((k : Int) < rs.length) <;> simp only [VC0, VC1, VC2, VC3, VC4, VC5, VC6, VC7, VC8, VC9, reduceIte, reduceCtorEq, Nat.reduceEqDiff, Nat.reduceAdd, Nat.reduceMul, Nat.reduceBEq, Nat.reduceLT, Nat.reduceLeDiff, Int.reduceEq, Int.reduceLT, Int.reduceLE, Int.reduceNeg, Int.reduceToNat, Int.reduceAdd, Nat.reduceDiv, Nat.reduceSub, Nat.reduceMod, encL, lk_len, lk_ld, lk_set, lk_app, lk_imv, lk_snap, lk_sok, lk_one, lk_ldall, lk_setall, lk_mk, List.length_set, List.length_append, List.length_singleton, List.length_replicate, fold_or32, fold_xor32, fold_and32, fold_shl32, fold_shr32, fold_add32, fold_not32, sc_one, rv2, rv3, Option.bind_some, Option.map_some, Option.some.injEq, exists_eq_left', List.getElem?_cons_zero, List.getElem?_cons_succ, ld_0, ld_1, ld_2, sc_0, sc_1, sc_2, List.take_succ_cons, List.take_zero, List.all_cons, List.all_nil, List.map_cons, List.map_nil, Bool.and_true, Bool.true_and, flt_snap, flt_sok, flt_imv, flt_one, flt_eq, set_hs, ld_hs, sumS_len, lk_ints, setK_nil, List.length_map, c1]
  · have hk' : ¬ k < rs.length := by have := of_decide_eq_false c1; omega
    rw [List.drop_of_length_le (by omega), atS_nil] at he
    exact fin false ⟨by omega, fun h => absurd h hk', fun _ => rfl⟩
  have hk' : k < rs.length := by have := of_decide_eq_true c1; omega
  have hks : k < (rs.map hsum).length := by rw [List.length_map]; exact hk'
  have kk : 0 ≤ (k : Int) ∧ (k : Int) < rs.length := by omega
  have j2 : InI64 ((k : Int) + 1) := by unfold InI64; omega
  have hld := HS.ld hks
  rw [List.getElem_map] at hld
  rw [atS_drop hk'] at he
  simp only [VC0, VC1, VC2, VC3, VC4, VC5, VC6, VC7, VC8, VC9, reduceIte, reduceCtorEq, Nat.reduceEqDiff, Nat.reduceAdd, Nat.reduceMul, Nat.reduceBEq, Nat.reduceLT, Nat.reduceLeDiff, Int.reduceEq, Int.reduceLT, Int.reduceLE, Int.reduceNeg, Int.reduceToNat, Int.reduceAdd, Nat.reduceDiv, Nat.reduceSub, Nat.reduceMod, encL, lk_len, lk_ld, lk_set, lk_app, lk_imv, lk_snap, lk_sok, lk_one, lk_ldall, lk_setall, lk_mk, List.length_set, List.length_append, List.length_singleton, List.length_replicate, fold_or32, fold_xor32, fold_and32, fold_shl32, fold_shr32, fold_add32, fold_not32, sc_one, rv2, rv3, Option.bind_some, Option.map_some, Option.some.injEq, exists_eq_left', List.getElem?_cons_zero, List.getElem?_cons_succ, ld_0, ld_1, ld_2, sc_0, sc_1, sc_2, List.take_succ_cons, List.take_zero, List.all_cons, List.all_nil, List.map_cons, List.map_nil, Bool.and_true, Bool.true_and, flt_snap, flt_sok, flt_imv, flt_one, flt_eq, set_hs, ld_hs, sumS_len, lk_ints, setK_nil, kk, hld, hc_ldall, hc_snap, hc_sok, List.length_map]
  have hl := rless_ret (hsum rs[k]) h
  rw [hsum_val] at hl
  refine callV_of hl (.inr rfl) ?_
  cases b1 : decide (cmpI (sumS rs[k]) h.1 < 0) <;> simp only [VC0, VC1, VC2, VC3, VC4, VC5, VC6, VC7, VC8, VC9, reduceIte, reduceCtorEq, Nat.reduceEqDiff, Nat.reduceAdd, Nat.reduceMul, Nat.reduceBEq, Nat.reduceLT, Nat.reduceLeDiff, Int.reduceEq, Int.reduceLT, Int.reduceLE, Int.reduceNeg, Int.reduceToNat, Int.reduceAdd, Nat.reduceDiv, Nat.reduceSub, Nat.reduceMod, encL, lk_len, lk_ld, lk_set, lk_app, lk_imv, lk_snap, lk_sok, lk_one, lk_ldall, lk_setall, lk_mk, List.length_set, List.length_append, List.length_singleton, List.length_replicate, fold_or32, fold_xor32, fold_and32, fold_shl32, fold_shr32, fold_add32, fold_not32, sc_one, rv2, rv3, Option.bind_some, Option.map_some, Option.some.injEq, exists_eq_left', List.getElem?_cons_zero, List.getElem?_cons_succ, ld_0, ld_1, ld_2, sc_0, sc_1, sc_2, List.take_succ_cons, List.take_zero, List.all_cons, List.all_nil, List.map_cons, List.map_nil, Bool.and_true, Bool.true_and, flt_snap, flt_sok, flt_imv, flt_one, flt_eq, set_hs, ld_hs, sumS_len, lk_ints, setK_nil, b1, c1, kk, j2, hld, hc_ldall, hc_snap, hc_sok, List.length_map]
  · have b1 : ¬ cmpI (sumS rs[k]) h.1 < 0 := of_decide_eq_false b1
    rw [if_neg b1] at he
    have e2 : eqInts (hsum rs[k]).cells h.cells = decide (sumS rs[k] = h.1) := by rw [hsum_cells, HS.cells, lk_eq]
    simp only [VC0, VC1, VC2, VC3, VC4, VC5, VC6, VC7, VC8, VC9, reduceIte, reduceCtorEq, Nat.reduceEqDiff, Nat.reduceAdd, Nat.reduceMul, Nat.reduceBEq, Nat.reduceLT, Nat.reduceLeDiff, Int.reduceEq, Int.reduceLT, Int.reduceLE, Int.reduceNeg, Int.reduceToNat, Int.reduceAdd, Nat.reduceDiv, Nat.reduceSub, Nat.reduceMod, encL, lk_len, lk_ld, lk_set, lk_app, lk_imv, lk_snap, lk_sok, lk_one, lk_ldall, lk_setall, lk_mk, List.length_set, List.length_append, List.length_singleton, List.length_replicate, fold_or32, fold_xor32, fold_and32, fold_shl32, fold_shr32, fold_add32, fold_not32, sc_one, rv2, rv3, Option.bind_some, Option.map_some, Option.some.injEq, exists_eq_left', List.getElem?_cons_zero, List.getElem?_cons_succ, ld_0, ld_1, ld_2, sc_0, sc_1, sc_2, List.take_succ_cons, List.take_zero, List.all_cons, List.all_nil, List.map_cons, List.map_nil, Bool.and_true, Bool.true_and, flt_snap, flt_sok, flt_imv, flt_one, flt_eq, set_hs, ld_hs, sumS_len, lk_ints, setK_nil, e2, hc_ints, HS.len]
    exact fin _ ⟨by omega, fun _ => rfl, fun h => absurd hk' h⟩
  · have b1 : cmpI (sumS rs[k]) h.1 < 0 := of_decide_eq_true b1
    rw [if_pos b1] at he
    exact backTo_of (k + 1, _) ⟨hk', by show atS rs h.1 = (k + 1) + atS (rs.drop (k + 1)) h.1; omega⟩ (by simp only []; omega) (ent_of _ [] rfl rfl (by simp only [VC0, VC1, VC2, VC3, VC4, VC5, VC6, VC7, VC8, VC9, reduceIte, reduceCtorEq, Nat.reduceEqDiff, Nat.reduceAdd, Nat.reduceMul, Nat.reduceBEq, Nat.reduceLT, Nat.reduceLeDiff, Int.reduceEq, Int.reduceLT, Int.reduceLE, Int.reduceNeg, Int.reduceToNat, Int.reduceAdd, Nat.reduceDiv, Nat.reduceSub, Nat.reduceMod, encL, lk_len, lk_ld, lk_set, lk_app, lk_imv, lk_snap, lk_sok, lk_one, lk_ldall, lk_setall, lk_mk, List.length_set, List.length_append, List.length_singleton, List.length_replicate, fold_or32, fold_xor32, fold_and32, fold_shl32, fold_shr32, fold_add32, fold_not32, sc_one, rv2, rv3, Option.bind_some, Option.map_some, Option.some.injEq, exists_eq_left', List.getElem?_cons_zero, List.getElem?_cons_succ, ld_0, ld_1, ld_2, sc_0, sc_1, sc_2, List.take_succ_cons, List.take_zero, List.all_cons, List.all_nil, List.map_cons, List.map_nil, Bool.and_true, Bool.true_and, flt_snap, flt_sok, flt_imv, flt_one, flt_eq, set_hs, ld_hs, sumS_len, lk_ints, setK_nil, hh_imv, tx_imv, HS.cells, lk_imv]))
theorem rhas_ret (room : Int) (rs : List (List Int)) (h : HS) (hn : rs.length ≤ 16) : PRet Try.prog 23 [.ip [.int .i64 room, encL HS.cells (rs.map hsum), encL cT rs] 0, .agg h.cells] (.bool (isS rs h.1)) := by
  refine pret_intro fd23 (by simp) ?_
  simp only [lc23, VC0, VC1, VC2, VC3, VC4, VC5, VC6, VC7, VC8, VC9, reduceIte, reduceCtorEq, Nat.reduceEqDiff, Nat.reduceAdd, Nat.reduceMul, Nat.reduceBEq, Nat.reduceLT, Nat.reduceLeDiff, Int.reduceEq, Int.reduceLT, Int.reduceLE, Int.reduceNeg, Int.reduceToNat, Int.reduceAdd, Nat.reduceDiv, Nat.reduceSub, Nat.reduceMod, encL, lk_len, lk_ld, lk_set, lk_app, lk_imv, lk_snap, lk_sok, lk_one, lk_ldall, lk_setall, lk_mk, List.length_set, List.length_append, List.length_singleton, List.length_replicate, fold_or32, fold_xor32, fold_and32, fold_shl32, fold_shr32, fold_add32, fold_not32, sc_one, rv2, rv3, Option.bind_some, Option.map_some, Option.some.injEq, exists_eq_left', List.getElem?_cons_zero, List.getElem?_cons_succ, ld_0, ld_1, ld_2, sc_0, sc_1, sc_2, List.take_succ_cons, List.take_zero, List.all_cons, List.all_nil, List.map_cons, List.map_nil, Bool.and_true, Bool.true_and, flt_snap, flt_sok, flt_imv, flt_one, flt_eq, set_hs, ld_hs, sumS_len, lk_ints, setK_nil, hc_ldall, hc_snap, hc_sok]
  refine callX_of (at_ret room rs h hn) (.inr rfl) ?_
  simp only [VC0, VC1, VC2, VC3, VC4, VC5, VC6, VC7, VC8, VC9, reduceIte, reduceCtorEq, Nat.reduceEqDiff, Nat.reduceAdd, Nat.reduceMul, Nat.reduceBEq, Nat.reduceLT, Nat.reduceLeDiff, Int.reduceEq, Int.reduceLT, Int.reduceLE, Int.reduceNeg, Int.reduceToNat, Int.reduceAdd, Nat.reduceDiv, Nat.reduceSub, Nat.reduceMod, encL, lk_len, lk_ld, lk_set, lk_app, lk_imv, lk_snap, lk_sok, lk_one, lk_ldall, lk_setall, lk_mk, List.length_set, List.length_append, List.length_singleton, List.length_replicate, fold_or32, fold_xor32, fold_and32, fold_shl32, fold_shr32, fold_add32, fold_not32, sc_one, rv2, rv3, Option.bind_some, Option.map_some, Option.some.injEq, exists_eq_left', List.getElem?_cons_zero, List.getElem?_cons_succ, ld_0, ld_1, ld_2, sc_0, sc_1, sc_2, List.take_succ_cons, List.take_zero, List.all_cons, List.all_nil, List.map_cons, List.map_nil, Bool.and_true, Bool.true_and, flt_snap, flt_sok, flt_imv, flt_one, flt_eq, set_hs, ld_hs, sumS_len, lk_ints, setK_nil]
theorem rget_some (room : Int) (rs : List (List Int)) (h : HS) (hn : rs.length ≤ 16) (b : List Int) (hb : rs[atS rs h.1]? = some b) (e : sumS b = h.1) : PRet Try.prog 22 [.ip [.int .i64 room, encL HS.cells (rs.map hsum), encL cT rs] 0, .agg h.cells] (.tup [.str (bytS b), .int .i64 0]) := by
  have hlt : atS rs h.1 < rs.length := (List.getElem?_eq_some_iff.1 hb).1
  have hi : isS rs h.1 = true := by unfold isS; rw [hb]; exact decide_eq_true e
  have hg : rs.getD (atS rs h.1) [] = b := by rw [List.getD_eq_getElem?_getD, hb]; rfl
  have kk : 0 ≤ ((atS rs h.1 : Nat) : Int) ∧ ((atS rs h.1 : Nat) : Int) < rs.length := by omega
  refine pret_intro fd22 (by simp) ?_
  simp only [lc22, VC0, VC1, VC2, VC3, VC4, VC5, VC6, VC7, VC8, VC9, reduceIte, reduceCtorEq, Nat.reduceEqDiff, Nat.reduceAdd, Nat.reduceMul, Nat.reduceBEq, Nat.reduceLT, Nat.reduceLeDiff, Int.reduceEq, Int.reduceLT, Int.reduceLE, Int.reduceNeg, Int.reduceToNat, Int.reduceAdd, Nat.reduceDiv, Nat.reduceSub, Nat.reduceMod, encL, lk_len, lk_ld, lk_set, lk_app, lk_imv, lk_snap, lk_sok, lk_one, lk_ldall, lk_setall, lk_mk, List.length_set, List.length_append, List.length_singleton, List.length_replicate, fold_or32, fold_xor32, fold_and32, fold_shl32, fold_shr32, fold_add32, fold_not32, sc_one, rv2, rv3, Option.bind_some, Option.map_some, Option.some.injEq, exists_eq_left', List.getElem?_cons_zero, List.getElem?_cons_succ, ld_0, ld_1, ld_2, sc_0, sc_1, sc_2, List.take_succ_cons, List.take_zero, List.all_cons, List.all_nil, List.map_cons, List.map_nil, Bool.and_true, Bool.true_and, flt_snap, flt_sok, flt_imv, flt_one, flt_eq, set_hs, ld_hs, sumS_len, lk_ints, setK_nil, hc_ldall, hc_snap, hc_sok]
  refine callX_of (at_ret room rs h hn) (.inr rfl) ?_
  simp only [VC0, VC1, VC2, VC3, VC4, VC5, VC6, VC7, VC8, VC9, reduceIte, reduceCtorEq, Nat.reduceEqDiff, Nat.reduceAdd, Nat.reduceMul, Nat.reduceBEq, Nat.reduceLT, Nat.reduceLeDiff, Int.reduceEq, Int.reduceLT, Int.reduceLE, Int.reduceNeg, Int.reduceToNat, Int.reduceAdd, Nat.reduceDiv, Nat.reduceSub, Nat.reduceMod, encL, lk_len, lk_ld, lk_set, lk_app, lk_imv, lk_snap, lk_sok, lk_one, lk_ldall, lk_setall, lk_mk, List.length_set, List.length_append, List.length_singleton, List.length_replicate, fold_or32, fold_xor32, fold_and32, fold_shl32, fold_shr32, fold_add32, fold_not32, sc_one, rv2, rv3, Option.bind_some, Option.map_some, Option.some.injEq, exists_eq_left', List.getElem?_cons_zero, List.getElem?_cons_succ, ld_0, ld_1, ld_2, sc_0, sc_1, sc_2, List.take_succ_cons, List.take_zero, List.all_cons, List.all_nil, List.map_cons, List.map_nil, Bool.and_true, Bool.true_and, flt_snap, flt_sok, flt_imv, flt_one, flt_eq, set_hs, ld_hs, sumS_len, lk_ints, setK_nil, hi, kk, tx_ld hlt, hg]
theorem rget_none (room : Int) (rs : List (List Int)) (h : HS) (hn : rs.length ≤ 16) (hi : isS rs h.1 = false) : PRet Try.prog 22 [.ip [.int .i64 room, encL HS.cells (rs.map hsum), encL cT rs] 0, .agg h.cells] (.tup [.str ⟨#[]⟩, .int .i64 10]) := by
  refine pret_intro fd22 (by simp) ?_
  simp only [lc22, VC0, VC1, VC2, VC3, VC4, VC5, VC6, VC7, VC8, VC9, reduceIte, reduceCtorEq, Nat.reduceEqDiff, Nat.reduceAdd, Nat.reduceMul, Nat.reduceBEq, Nat.reduceLT, Nat.reduceLeDiff, Int.reduceEq, Int.reduceLT, Int.reduceLE, Int.reduceNeg, Int.reduceToNat, Int.reduceAdd, Nat.reduceDiv, Nat.reduceSub, Nat.reduceMod, encL, lk_len, lk_ld, lk_set, lk_app, lk_imv, lk_snap, lk_sok, lk_one, lk_ldall, lk_setall, lk_mk, List.length_set, List.length_append, List.length_singleton, List.length_replicate, fold_or32, fold_xor32, fold_and32, fold_shl32, fold_shr32, fold_add32, fold_not32, sc_one, rv2, rv3, Option.bind_some, Option.map_some, Option.some.injEq, exists_eq_left', List.getElem?_cons_zero, List.getElem?_cons_succ, ld_0, ld_1, ld_2, sc_0, sc_1, sc_2, List.take_succ_cons, List.take_zero, List.all_cons, List.all_nil, List.map_cons, List.map_nil, Bool.and_true, Bool.true_and, flt_snap, flt_sok, flt_imv, flt_one, flt_eq, set_hs, ld_hs, sumS_len, lk_ints, setK_nil, hc_ldall, hc_snap, hc_sok]
  refine callX_of (at_ret room rs h hn) (.inr rfl) ?_
  simp only [VC0, VC1, VC2, VC3, VC4, VC5, VC6, VC7, VC8, VC9, reduceIte, reduceCtorEq, Nat.reduceEqDiff, Nat.reduceAdd, Nat.reduceMul, Nat.reduceBEq, Nat.reduceLT, Nat.reduceLeDiff, Int.reduceEq, Int.reduceLT, Int.reduceLE, Int.reduceNeg, Int.reduceToNat, Int.reduceAdd, Nat.reduceDiv, Nat.reduceSub, Nat.reduceMod, encL, lk_len, lk_ld, lk_set, lk_app, lk_imv, lk_snap, lk_sok, lk_one, lk_ldall, lk_setall, lk_mk, List.length_set, List.length_append, List.length_singleton, List.length_replicate, fold_or32, fold_xor32, fold_and32, fold_shl32, fold_shr32, fold_add32, fold_not32, sc_one, rv2, rv3, Option.bind_some, Option.map_some, Option.some.injEq, exists_eq_left', List.getElem?_cons_zero, List.getElem?_cons_succ, ld_0, ld_1, ld_2, sc_0, sc_1, sc_2, List.take_succ_cons, List.take_zero, List.all_cons, List.all_nil, List.map_cons, List.map_nil, Bool.and_true, Bool.true_and, flt_snap, flt_sok, flt_imv, flt_one, flt_eq, set_hs, ld_hs, sumS_len, lk_ints, setK_nil, hi]
theorem is_nil0 : PRet Try.prog 13 [.nili, .int .i64 0, .int .i64 0] (.bool true) := by
  refine pret_intro fd13 (by simp) ?_
  simp only [lc13, VC0, VC1, VC2, VC3, VC4, VC5, VC6, VC7, VC8, VC9, reduceIte, reduceCtorEq, Nat.reduceEqDiff, Nat.reduceAdd, Nat.reduceMul, Nat.reduceBEq, Nat.reduceLT, Nat.reduceLeDiff, Int.reduceEq, Int.reduceLT, Int.reduceLE, Int.reduceNeg, Int.reduceToNat, Int.reduceAdd, Nat.reduceDiv, Nat.reduceSub, Nat.reduceMod, encL, lk_len, lk_ld, lk_set, lk_app, lk_imv, lk_snap, lk_sok, lk_one, lk_ldall, lk_setall, lk_mk, List.length_set, List.length_append, List.length_singleton, List.length_replicate, fold_or32, fold_xor32, fold_and32, fold_shl32, fold_shr32, fold_add32, fold_not32, sc_one, rv2, rv3, Option.bind_some, Option.map_some, Option.some.injEq, exists_eq_left', List.getElem?_cons_zero, List.getElem?_cons_succ, ld_0, ld_1, ld_2, sc_0, sc_1, sc_2, List.take_succ_cons, List.take_zero, List.all_cons, List.all_nil, List.map_cons, List.map_nil, Bool.and_true, Bool.true_and, flt_snap, flt_sok, flt_imv, flt_one, flt_eq, set_hs, ld_hs, sumS_len, lk_ints, setK_nil]
  refine callX_of told_nil (.inl rfl) ?_
  simp only [VC0, VC1, VC2, VC3, VC4, VC5, VC6, VC7, VC8, VC9, reduceIte, reduceCtorEq, Nat.reduceEqDiff, Nat.reduceAdd, Nat.reduceMul, Nat.reduceBEq, Nat.reduceLT, Nat.reduceLeDiff, Int.reduceEq, Int.reduceLT, Int.reduceLE, Int.reduceNeg, Int.reduceToNat, Int.reduceAdd, Nat.reduceDiv, Nat.reduceSub, Nat.reduceMod, encL, lk_len, lk_ld, lk_set, lk_app, lk_imv, lk_snap, lk_sok, lk_one, lk_ldall, lk_setall, lk_mk, List.length_set, List.length_append, List.length_singleton, List.length_replicate, fold_or32, fold_xor32, fold_and32, fold_shl32, fold_shr32, fold_add32, fold_not32, sc_one, rv2, rv3, Option.bind_some, Option.map_some, Option.some.injEq, exists_eq_left', List.getElem?_cons_zero, List.getElem?_cons_succ, ld_0, ld_1, ld_2, sc_0, sc_1, sc_2, List.take_succ_cons, List.take_zero, List.all_cons, List.all_nil, List.map_cons, List.map_nil, Bool.and_true, Bool.true_and, flt_snap, flt_sok, flt_imv, flt_one, flt_eq, set_hs, ld_hs, sumS_len, lk_ints, setK_nil]
  try rfl
end Go.Proofs.Ythpffaofpcikiaa
