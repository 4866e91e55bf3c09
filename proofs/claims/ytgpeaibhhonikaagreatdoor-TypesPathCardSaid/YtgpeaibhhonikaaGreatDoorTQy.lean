/-
  FrL9 Tyy: put together.
-/
import Derived.Test.YtgpeaibhhonikaaGreatDoorShr
import Derived.Test.YtgpeaibhhonikaaGreatDoorProg
import Derived.Test.YtgpeaibhhonikaaGreatDoorLgP
import Derived.Test.YtgpeaibhhonikaaGreatDoorTQe
import Derived.Test.YtgpeaibhhonikaaGreatDoorEm
namespace Go.Proofs.YtgpeaibhhonikaaGreatDoor
open Go Go.Lg Go.Lg.Sh
set_option maxRecDepth 100000

def lc9 : LC := .seq (.rego 0 [o 3 0, b0 6]) (.keep [1, 2, 3] (.seq (.rego 1 [⟨some 16, .call 20 [], none⟩, m 15 16, X 17 15 0, X 18 15 1, m 7 17, m 8 18]) (.keep [1, 2, 3, 7] (.seq (.seq (.rego 2 [m 19 7, ⟨some 20, .eqp false (.tmp 19) (.con .nilp), none⟩, m 21 20, g 21 (L 22 4 3), ⟨some 23, .call 15 [.tmp 22, .con (.int .i64 60)], some ⟨21, false⟩⟩, q 24 21 23, m 25 24, g 25 (m 26 1), g 25 (n 27 26), ⟨some 28, .bin .gtr (.tmp 27) (.con (.int .i64 10)), some ⟨25, false⟩⟩, q 29 25 28, m 30 29, g 30 (m 31 2), g 30 (n 32 31), ⟨some 33, .bin .gtr (.tmp 32) (.con (.int .i64 10)), some ⟨30, false⟩⟩, q 34 30 33]) (.keep [1, 2, 3, 7, 34] (.cond (.tmp 34) (.keep [7] (.seq (.rego 3 [m 35 7, ⟨some 36, .eqp true (.tmp 35) (.con .nilp), none⟩, m 37 36, ⟨some 38, .call 17 [], some ⟨37, true⟩⟩, p 39 37 38, m 6 39]) .ret)) .skip))) (.keep [1, 2, 3, 7] (.seq (.rego 4 [m 41 7, L 42 4 3, m 43 1, ⟨some 44, .call 26 [.tmp 41, .tmp 42, .tmp 43], none⟩, m 40 44, X 45 40 0, X 46 40 1, ⟨some 9, .new [.int .i64 0, .str { data := #[] }, .e0, .e0], none⟩, W 4 9 45, m 10 46]) (.keep [1, 2, 3, 7, 9, 10] (.seq (.regd 5 [0, 0, 0, 0, 12, 0, 60, 127, 255, 511, 511, 0, 3071, 8191] [m 48 7, L 49 4 3, ⟨some 50, .bsl 0 [] [], none⟩, m 51 1, ⟨some 52, .appE 1 16 (.tmp 50) (.tmp 51), none⟩, m 53 2, ⟨some 54, .app 1 16 (.tmp 52) (.tmp 53), none⟩, ⟨some 55, .call 26 [.tmp 48, .tmp 49, .tmp 54], none⟩, m 47 55, X 56 47 0, X 57 47 1, ⟨some 11, .new [.int .i64 0, .str { data := #[] }, .e0, .e0], none⟩, W 4 11 56, m 12 57]) (.keep [2, 7, 9, 10, 11, 12] (.seq (.seq (.rego 6 [m 58 10, ⟨some 59, .eqi true true (.tmp 58) (.con .nili), none⟩]) (.keep [2, 7, 9, 11, 12, 59] (.cond (.tmp 59) (.keep [12] (.seq (.rego 7 [⟨some 60, .call 17 [], none⟩, m 61 60, h 61 (m 62 12), ⟨some 63, .eqi true true (.tmp 62) (.con .nili), some ⟨61, true⟩⟩, p 64 61 63, m 6 64]) .ret)) .skip))) (.keep [2, 7, 9, 11, 12] (.seq (.rego 8 [m 66 7, L 67 4 9, m 68 2, ⟨some 69, .call 26 [.tmp 66, .tmp 67, .tmp 68], none⟩, m 65 69, X 70 65 0, X 71 65 1, ⟨some 13, .new [.int .i64 0, .str { data := #[] }, .e0, .e0], none⟩, W 4 13 70, m 14 71]) (.keep [11, 12, 13, 14] (.seq (.regf 9 [0, 1, 3, 7, 3, 19, 63, 127, 255, 511, 511, 2047, 4095, 8191] [⟨some 72, .call 17 [], none⟩, m 73 72, h 73 (m 74 14), ⟨some 75, .eqi false true (.tmp 74) (.con .nili), some ⟨73, true⟩⟩, h 73 (m 76 12), ⟨some 77, .eqi false true (.tmp 76) (.con .nili), some ⟨73, true⟩⟩, ⟨some 78, .eqb false (.tmp 75) (.tmp 77), some ⟨73, true⟩⟩, p 79 73 78, m 80 79, h 80 (L 81 4 13), h 80 (L 82 4 11), h 80 (C 83 24 81 82), p 84 80 83, m 6 84]) .ret))))))))))))))
theorem fd9 : fnData Tryz.prog 9 = some (85, lc9.erase, [LRV.tmp 6]) := by kernel_rfl

end Go.Proofs.YtgpeaibhhonikaaGreatDoor

set_option linter.unusedSimpArgs false
set_option linter.unusedVariables false
namespace Go.Proofs.YtgpeaibhhonikaaGreatDoor
open Go Go.Lg Go.RowKit
set_option linter.unusedVariables false
set_option linter.unusedSimpArgs false
set_option maxRecDepth 20000

theorem at_shift : ∀ (l : List ByteArray) (t : RT) (i j : Nat), (atS t l i).1 = (atS t l j).1 ∧ (atS t l i).2.1 = (atS t l j).2.1
  | [], _, _, _ => ⟨rfl, rfl⟩
  | s :: r, t, i, j => by
    rw [atS, atS]
    split
    · exact at_shift r _ _ _
    · exact ⟨rfl, rfl⟩
theorem at_app : ∀ (p q : List ByteArray) (t : RT) (i : Nat), (atS t p i).2.1 = 0 → atS t (p ++ q) i = atS (atS t p i).1 q (i + p.length)
  | [], q, t, i, _ => rfl
  | s :: r, q, t, i, h => by
    rw [atS] at h
    rw [List.cons_append, atS, atS]
    split
    · rename_i h0
      rw [if_pos h0] at h
      rw [at_app r q _ _ h, List.length_cons, Nat.add_assoc, Nat.add_comm 1]
    · rename_i h0
      rw [if_neg h0] at h
      exact absurd h h0
theorem at_err : ∀ (p q : List ByteArray) (t : RT) (i : Nat), ¬ (atS t p i).2.1 = 0 → ¬ (atS t (p ++ q) i).2.1 = 0
  | [], q, t, i, h => absurd rfl h
  | s :: r, q, t, i, h => by
    rw [atS] at h
    rw [List.cons_append, atS]
    split
    · rename_i h0
      rw [if_pos h0] at h
      exact at_err r q _ _ h
    · rename_i h0
      exact h0
theorem flt_eq0 (neg : Bool) (c i : Int) (h : c = 0) : leqi neg true (fltV c i) .nili = .A (true = true) (.bool (!neg)) := by
  unfold fltV; rw [if_pos h]; rfl
theorem flt_eq1 (neg : Bool) (c i : Int) (h : ¬ c = 0) : leqi neg true (fltV c i) .nili = .A True (.bool neg) := by
  unfold fltV; rw [if_neg h]; rfl
theorem wS_keys : keysV wS = [] := rfl
theorem ls_cat (a b : List ByteArray) : a.flatMap cS ++ b.flatMap cS = (a ++ b).flatMap cS := by rw [List.flatMap_append]

set_option maxHeartbeats 8000000 in
theorem typesPath_ret (t : RT) (ht : t.ok) (p : List ByteArray) (hp : p.length ≤ maxLen) (q : List ByteArray) (hq : q.length ≤ maxLen) :
    PRet Tryz.prog 9 [.agg t.cells, encL cS p, encL cS q] (.bool true) := by
  refine pret_intro fd9 (by simp) ?_
  simp only [lc9, VCA, simprocAttr, encL, MCA, TTA, LDA]
  have eqpS' : leqp true wS .nilp = .A (isPtr wS = true) (.bool true) := rfl
  refine callX_of world_ret (.inl rfl) ?_
  simp only [VCA, simprocAttr, encL, MCA, TTA, LDA, wS_imv, wS_snap, wS_sok, wX_imv, wX_snap, wX_sok, eqpS, eqpX, ptrS, ptrX]
  refine callX_of (deep_ret 60 t ht (by decide)) (by first | exact .inr rfl | exact .inl rfl) ?_
  simp only [VCA, simprocAttr, encL, MCA, TTA, LDA, wS_imv, wS_snap, wS_sok, wX_imv, wX_snap, wX_sok]
  cases hd : deepB 60 t <;> simp only [VCA, simprocAttr, encL, MCA, TTA, LDA, wS_imv, wS_snap, wS_sok, wX_imv, wX_snap, wX_sok, eqpS', ptrS, hd]
  case true =>
    refine callX_of told14_ret (.inl rfl) ?_
    simp only [VCA, simprocAttr, encL, MCA]
  cases hp10 : decide ((10 : Int) < p.length) <;> simp only [VCA, simprocAttr, encL, MCA, TTA, LDA, wS_imv, wS_snap, wS_sok, wX_imv, wX_snap, wX_sok, eqpS', ptrS, hp10]
  case true =>
    refine callX_of told14_ret (.inl rfl) ?_
    simp only [VCA, simprocAttr, encL, MCA]
  cases hq10 : decide ((10 : Int) < q.length) <;> simp only [VCA, simprocAttr, encL, MCA, TTA, LDA, wS_imv, wS_snap, wS_sok, wX_imv, wX_snap, wX_sok, eqpS', ptrS, hq10]
  case true =>
    refine callX_of told14_ret (.inl rfl) ?_
    simp only [VCA, simprocAttr, encL, MCA]
  have hp1 : p.length ≤ 10 := by have := of_decide_eq_false hp10; omega
  have hq1 : q.length ≤ 10 := by have := of_decide_eq_false hq10; omega
  have a1 := at_ret t hd p (by omega)
  have a2 := at_ret t hd (p ++ q) (by rw [List.length_append]; omega)
  have d1 := deep_at p t 0 hd
  have d2 := deep_at (p ++ q) t 0 hd
  have e1 := at_app p q t 0
  have e2 := at_err p q t 0
  generalize atS t (p ++ q) 0 = C at *
  have htk : ((p ++ q).flatMap cS).take (p.length + q.length) = (p ++ q).flatMap cS := List.take_of_length_le (by rw [ls_len, List.length_append]; omega)
  simp only [encL, List.length_append] at a2
  generalize atS t p 0 = A at *
  refine callX_of a1 (by first | exact .inr rfl | exact .inl rfl) ?_
  simp only [VCA, simprocAttr, encL, MCA, TTA, LDA, wS_imv, wS_snap, wS_sok, wX_imv, wX_snap, wX_sok, fill1]
  refine vcg_regd_of (fun i => if i = 7 then some (20484, 0) else none) ?_
  simp only [VCA, simprocAttr, encL, MCA, TTA, LDA, vopsF_cons, vopsF_nil, vopsF1_none, vopsF1_some, pzC_call, pzD_row, okF, rdF, rdK, wrK, thereP, hRes_cons, hRes_nil, dynOp, IOp.cls, List.flatMap_cons, List.flatMap_nil, List.append_nil, List.nil_append, List.append_assoc, kv_sl, kv_agg, kv_tup, kv_int, kv_bool, kv_str, kv_e0, kv_ip, kv_im, kv_nilp, kv_nili, kv_ifc, kv_msl, kv_mp, kv_mm, kv_junk, some_ex1, wS_keys, wS_imv, wS_snap, wS_sok, wX_imv, wX_snap, wX_sok, fill1, ls_cat, htk]
  refine ⟨by omega, by omega, ?_⟩
  refine ⟨_, a2, ?_⟩
  simp only [VCA, simprocAttr, encL, MCA, TTA, LDA, vopsF_cons, vopsF_nil, vopsF1_none, vopsF1_some, pzC_call, pzD_row, okF, rdF, rdK, wrK, thereP, hRes_cons, hRes_nil, dynOp, IOp.cls, List.flatMap_cons, List.flatMap_nil, List.append_nil, List.nil_append, List.append_assoc, kv_sl, kv_agg, kv_tup, kv_int, kv_bool, kv_str, kv_e0, kv_ip, kv_im, kv_nilp, kv_nili, kv_ifc, kv_msl, kv_mp, kv_mm, kv_junk, some_ex1, wS_keys, wS_imv, wS_snap, wS_sok, wX_imv, wX_snap, wX_sok, fill1, ls_cat, htk]
  refine ⟨by decide, ?_⟩
  cases b0 : decide (A.2.1 = 0)
  · have n0 := of_decide_eq_false b0
    simp only [VCA, simprocAttr, encL, MCA, TTA, LDA, flt_eq1 _ _ _ n0, flt_eq1 _ _ _ (e2 n0)]
    refine callX_of told14_ret (.inl rfl) ?_
    simp only [VCA, simprocAttr, encL, MCA, TTA, LDA, flt_eq1 _ _ _ n0, flt_eq1 _ _ _ (e2 n0)]
  have n0 := of_decide_eq_true b0
  have hC := e1 n0
  have a3 := at_ret A.1 d1 q (by omega)
  have sh := at_shift q A.1 (0 + p.length) 0
  rw [← hC] at sh
  have d3 := deep_at q A.1 0 d1
  generalize atS A.1 q 0 = B at *
  simp only [VCA, simprocAttr, encL, MCA, TTA, LDA, wS_imv, wS_snap, wS_sok, flt_eq0 _ _ _ n0]
  refine callX_of a3 (by first | exact .inr rfl | exact .inl rfl) ?_
  simp only [VCA, simprocAttr, encL, MCA, TTA, LDA, wS_imv, wS_snap, wS_sok, wX_imv, wX_snap, wX_sok, fill1]
  refine callV_of told14_ret (.inl rfl) ?_
  have hex := exact_ret 60 B.1 C.1 (by decide) d3
  rw [(exB_iff B.1 C.1).2 sh.1.symm] at hex
  cases b1 : decide (B.2.1 = 0)
  · have n1 := of_decide_eq_false b1
    have n2 : ¬ C.2.1 = 0 := by rw [sh.2]; exact n1
    simp only [VCA, simprocAttr, encL, MCA, TTA, LDA, flt_eq1 _ _ _ n1, flt_eq1 _ _ _ n2]
    refine callV_of hex (by first | exact .inr rfl | exact .inl rfl) ?_
    simp only [VCA, simprocAttr, encL, MCA, TTA, LDA]
  · have n1 := of_decide_eq_true b1
    have n2 : C.2.1 = 0 := by rw [sh.2]; exact n1
    simp only [VCA, simprocAttr, encL, MCA, TTA, LDA, flt_eq0 _ _ _ n1, flt_eq0 _ _ _ n2]
    refine callV_of hex (by first | exact .inr rfl | exact .inl rfl) ?_
    simp only [VCA, simprocAttr, encL, MCA, TTA, LDA]
end Go.Proofs.YtgpeaibhhonikaaGreatDoor
