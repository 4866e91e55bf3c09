/-
  FrL6 Tyx: put together.
-/
import Derived.Test.YtgpeaibhhonikaaGreatDoorShr
import Derived.Test.YtgpeaibhhonikaaGreatDoorProg
import Derived.Test.YtgpeaibhhonikaaGreatDoorLgP
import Derived.Test.YtgpeaibhhonikaaGreatDoorTQe
namespace Go.Proofs.YtgpeaibhhonikaaGreatDoor
open Go Go.Lg Go.Lg.Sh
set_option maxRecDepth 100000

def lc6 : LC := .seq (.rego 0 [o 4 0, o 5 1, b0 8]) (.keep [2, 3, 4, 5] (.seq (.rego 1 [⟨some 19, .call 20 [], none⟩, m 18 19, X 20 18 0, X 21 18 1, m 9 20, m 10 21]) (.keep [2, 3, 4, 5, 9, 10] (.seq (.seq (.rego 2 [m 22 9, ⟨some 23, .eqp false (.tmp 22) (.con .nilp), none⟩, m 24 23, g 24 (m 25 10), ⟨some 26, .eqp false (.tmp 25) (.con .nilp), some ⟨24, false⟩⟩, q 27 24 26, m 28 27, g 28 (L 29 4 4), ⟨some 30, .call 15 [.tmp 29, .con (.int .i64 60)], some ⟨28, false⟩⟩, q 31 28 30, m 32 31, g 32 (L 33 4 5), ⟨some 34, .call 15 [.tmp 33, .con (.int .i64 60)], some ⟨32, false⟩⟩, q 35 32 34, m 36 35, g 36 (m 37 2), g 36 (n 38 37), ⟨some 39, .bin .gtr (.tmp 38) (.con (.int .i64 20)), some ⟨36, false⟩⟩, q 40 36 39, m 41 40, g 41 (m 42 3), g 41 (n 43 42), ⟨some 44, .bin .gtr (.tmp 43) (.con (.int .i64 70)), some ⟨41, false⟩⟩, q 45 41 44]) (.keep [2, 3, 4, 5, 9, 10, 45] (.cond (.tmp 45) (.keep [] (.seq (.rego 3 [⟨some 46, .call 17 [], none⟩, m 8 46]) .ret)) .skip))) (.keep [2, 3, 4, 5, 9, 10] (.seq (.rego 4 [L 47 4 4, ⟨some 48, .call 25 [.tmp 47, .con .e0], none⟩, ⟨some 11, .new [.int .i64 0, .str { data := #[] }, .e0, .e0], none⟩, W 4 11 48]) (.keep [2, 3, 4, 5, 9, 10, 11] (.seq (.rego 5 [m 50 9, L 51 4 4, m 52 2, ⟨some 53, .call 26 [.tmp 50, .tmp 51, .tmp 52], none⟩, m 49 53, X 54 49 0, X 55 49 1, ⟨some 12, .new [.int .i64 0, .str { data := #[] }, .e0, .e0], none⟩, W 4 12 54, m 13 55]) (.keep [2, 3, 4, 5, 10, 11, 12, 13] (.seq (.rego 6 [m 57 10, L 58 4 4, m 59 2, ⟨some 60, .call 27 [.tmp 57, .tmp 58, .tmp 59], none⟩, m 56 60, X 61 56 0, X 62 56 1, X 63 56 2, ⟨some 14, .new [.int .i64 0, .str { data := #[] }, .e0, .e0], none⟩, W 4 14 61, m 15 62, m 16 63]) (.keep [3, 4, 5, 11, 12, 13, 14, 15, 16] (.seq (.rego 7 [L 64 4 4, m 65 3, C 66 28 64 65, ⟨some 17, .new [.int .i64 0, .str { data := #[] }, .e0, .e0], none⟩, W 4 17 66]) (.keep [3, 4, 5, 11, 12, 13, 14, 15, 16, 17] (.seq (.regf 8 [0, 1, 3, 3, 15, 31, 63, 127, 127, 127, 1023, 2047, 4095, 8191, 8191, 8191, 57343, 131071, 262143, 524287, 1048575, 2097151, 1048575, 8388607, 16777215, 33554431, 67108863, 134217727, 134217727, 536870911, 134217727, 134217727, 4294967295, 8589934591, 17179869183, 34359738367, 68719476735, 137438953471, 68719476735, 549755813887, 1099511627775, 2199023255551, 4398046511103, 8796093022207, 8796093022207, 35184372088831, 70368744177663, 140737488355327] [⟨some 67, .call 17 [], none⟩, m 68 67, h 68 (L 69 4 12), h 68 (L 70 4 14), h 68 (C 71 24 69 70), p 72 68 71, m 73 72, h 73 (m 74 13), h 73 (m 75 15), h 73 (m 76 16), ⟨some 77, .call 29 [.tmp 74, .tmp 75, .tmp 76], some ⟨73, true⟩⟩, p 78 73 77, m 79 78, h 79 (L 80 4 17), h 79 (L 81 4 4), h 79 (m 82 3), h 79 (C 83 25 81 82), h 79 (C 84 24 80 83), p 85 79 84, m 86 85, h 86 (L 87 4 4), h 86 (c 88 31 87), h 86 (L 89 4 4), h 86 (c 90 19 89), h 86 (C 91 30 88 90), p 92 86 91, m 93 92, h 93 (L 94 4 4), h 93 (L 95 4 5), h 93 (C 96 32 94 95), h 93 (L 97 4 4), h 93 (L 98 4 5), h 93 (C 99 33 97 98), ⟨some 100, .eqb false (.tmp 96) (.tmp 99), some ⟨93, true⟩⟩, p 101 93 100, m 102 101, h 102 (L 103 4 4), h 102 (c 104 34 103), h 102 (L 105 4 4), h 102 (c 106 35 105), ⟨some 107, .eqb false (.tmp 104) (.tmp 106), some ⟨102, true⟩⟩, p 108 102 107, m 109 108, h 109 (L 110 4 4), h 109 (L 111 4 11), h 109 (C 112 24 110 111), p 113 109 112, m 8 113]) .ret))))))))))))))
theorem fd6 : fnData Tryz.prog 6 = some (114, lc6.erase, [LRV.tmp 8]) := by kernel_rfl

end Go.Proofs.YtgpeaibhhonikaaGreatDoor

set_option linter.unusedSimpArgs false
set_option linter.unusedVariables false
namespace Go.Proofs.YtgpeaibhhonikaaGreatDoor
open Go Go.Lg Go.RowKit
set_option linter.unusedVariables false
set_option linter.unusedSimpArgs false
set_option maxRecDepth 20000

set_option maxHeartbeats 8000000 in
theorem typesAsk_ret (t : RT) (ht : t.ok) (u : RT) (hu : u.ok) (path : List ByteArray) (hp : path.length ≤ maxLen) (m : List Int) (hm : m.length ≤ maxLen) :
    PRet Tryz.prog 6 [.agg t.cells, .agg u.cells, encL cS path, encL cI m] (.bool true) := by
  refine pret_intro fd6 (by simp) ?_
  simp only [lc6, VCA, simprocAttr, encL, MCA, TTA, LDA]
  refine callX_of world_ret (.inl rfl) ?_
  simp only [VCA, simprocAttr, encL, MCA, TTA, LDA, wS_imv, wS_snap, wS_sok, wX_imv, wX_snap, wX_sok, eqpS, eqpX, ptrS, ptrX]
  refine callX_of (deep_ret 60 t ht (by decide)) (by first | exact .inr rfl | exact .inl rfl) ?_
  simp only [VCA, simprocAttr, encL, MCA, TTA, LDA, wS_imv, wS_snap, wS_sok, wX_imv, wX_snap, wX_sok]
  cases hd : deepB 60 t <;> simp only [VCA, simprocAttr, encL, MCA, TTA, LDA, wS_imv, wS_snap, wS_sok, wX_imv, wX_snap, wX_sok, hd]
  case true =>
    refine callX_of told14_ret (.inl rfl) ?_
    simp only [VCA, simprocAttr, encL, MCA]
  refine callX_of (deep_ret 60 u hu (by decide)) (by first | exact .inr rfl | exact .inl rfl) ?_
  simp only [VCA, simprocAttr, encL, MCA, TTA, LDA, wS_imv, wS_snap, wS_sok, wX_imv, wX_snap, wX_sok]
  cases hdu : deepB 60 u <;> simp only [VCA, simprocAttr, encL, MCA, TTA, LDA, wS_imv, wS_snap, wS_sok, wX_imv, wX_snap, wX_sok, hdu]
  case true =>
    refine callX_of told14_ret (.inl rfl) ?_
    simp only [VCA, simprocAttr, encL, MCA]
  cases hp20 : decide ((20 : Int) < path.length) <;> simp only [VCA, simprocAttr, encL, MCA, TTA, LDA, wS_imv, wS_snap, wS_sok, wX_imv, wX_snap, wX_sok, hp20]
  case true =>
    refine callX_of told14_ret (.inl rfl) ?_
    simp only [VCA, simprocAttr, encL, MCA]
  cases hm70 : decide ((70 : Int) < m.length) <;> simp only [VCA, simprocAttr, encL, MCA, TTA, LDA, wS_imv, wS_snap, wS_sok, wX_imv, wX_snap, wX_sok, hm70]
  case true =>
    refine callX_of told14_ret (.inl rfl) ?_
    simp only [VCA, simprocAttr, encL, MCA]
  have hp1 : path.length ≤ 1000 := by have := of_decide_eq_false hp20; omega
  have hm1 : m.length ≤ 1000 := by have := of_decide_eq_false hm70; omega
  have hs0 := rsubst_ret [] (by decide) 60 t (by decide) hd
  rw [subst_nil] at hs0
  refine callX_of (hs0.nz 3 (by simp only [List.map_cons, List.map_nil, nz_call, nz_e0]; rfl)) (by first | exact .inr rfl | exact .inl rfl) ?_
  simp only [VCA, simprocAttr, encL, MCA, TTA, LDA, wS_imv, wS_snap, wS_sok, wX_imv, wX_snap, wX_sok, fill1]
  have a1 := at_ret t hd path hp1
  have a2 := rat_ret t hd path hp1
  have a3 := deep_at path t 0 hd
  have a4 := at_zero path t 0
  generalize atS t path 0 = Z at *
  obtain ⟨z, n, i⟩ := Z
  have a4 : n = 0 → i = 0 := a4
  have hiz : (if n = 0 then 0 else i) = i := by
    split
    · rename_i h; rw [a4 h]
    · rfl
  refine callX_of a1 (by first | exact .inr rfl | exact .inl rfl) ?_
  simp only [VCA, simprocAttr, encL, MCA, TTA, LDA, wS_imv, wS_snap, wS_sok, wX_imv, wX_snap, wX_sok, fill1]
  refine callX_of a2 (by first | exact .inr rfl | exact .inl rfl) ?_
  simp only [VCA, simprocAttr, encL, MCA, TTA, LDA, wS_imv, wS_snap, wS_sok, wX_imv, wX_snap, wX_sok, fill1]
  refine callX_of (subst_ret m hm1 60 t (by decide) hd) (by first | exact .inr rfl | exact .inl rfl) ?_
  simp only [VCA, simprocAttr, encL, MCA, TTA, LDA, wS_imv, wS_snap, wS_sok, wX_imv, wX_snap, wX_sok, fill1]
  have hdm := deep_subst m 60 t hd
  refine callV_of told14_ret (.inl rfl) ?_
  simp only [VCA, simprocAttr, encL, MCA, TTA, LDA]
  have hex := exact_ret 60 z z (by decide) a3
  rw [exB_self] at hex
  refine callV_of hex (by first | exact .inr rfl | exact .inl rfl) ?_
  simp only [VCA, simprocAttr, encL, MCA, TTA, LDA, flt_snap, flt_sok, flt_imv]
  have his := is_ret n i
  rw [hiz] at his
  refine callV_of his (by first | exact .inr rfl | exact .inl rfl) ?_
  simp only [VCA, simprocAttr, encL, MCA, TTA, LDA]
  refine callV_of (rsubst_ret m hm1 60 t (by decide) hd) (by first | exact .inr rfl | exact .inl rfl) ?_
  simp only [VCA, simprocAttr, encL, MCA, TTA, LDA]
  have hex2 := exact_ret 60 (substS m t) (substS m t) (by decide) hdm
  rw [exB_self] at hex2
  refine callV_of hex2 (by first | exact .inr rfl | exact .inl rfl) ?_
  simp only [VCA, simprocAttr, encL, MCA, TTA, LDA]
  refine callV_of (regs_ret 60 t (by decide) hd) (by first | exact .inr rfl | exact .inl rfl) ?_
  simp only [VCA, simprocAttr, encL, MCA, TTA, LDA]
  refine callV_of (rregs_ret 60 t (by decide) hd) (by first | exact .inr rfl | exact .inl rfl) ?_
  simp only [VCA, simprocAttr, encL, MCA, TTA, LDA]
  have hin := ints_ret (regS t) (regS t) (Nat.le_trans (reg_len 60 t hd) (by decide))
  rw [decide_eq_true rfl] at hin
  refine callV_of hin (by first | exact .inr rfl | exact .inl rfl) ?_
  simp only [VCA, simprocAttr, encL, MCA, TTA, LDA]
  refine callV_of (same_ret 60 t u (by decide) hd) (by first | exact .inr rfl | exact .inl rfl) ?_
  simp only [VCA, simprocAttr, encL, MCA, TTA, LDA]
  refine callV_of (rsame_ret 60 t u (by decide) hd) (by first | exact .inr rfl | exact .inl rfl) ?_
  simp only [VCA, simprocAttr, encL, MCA, TTA, LDA, beq_self_eq_true]
  refine callV_of (copy_ret t) (by first | exact .inr rfl | exact .inl rfl) ?_
  simp only [VCA, simprocAttr, encL, MCA, TTA, LDA]
  refine callV_of (rcopy_ret t) (by first | exact .inr rfl | exact .inl rfl) ?_
  simp only [VCA, simprocAttr, encL, MCA, TTA, LDA, beq_self_eq_true]
  have hex3 := exact_ret 60 t t (by decide) hd
  rw [exB_self] at hex3
  refine callV_of hex3 (by first | exact .inr rfl | exact .inl rfl) ?_
  simp only [VCA, simprocAttr, encL, MCA, TTA, LDA]
end Go.Proofs.YtgpeaibhhonikaaGreatDoor
