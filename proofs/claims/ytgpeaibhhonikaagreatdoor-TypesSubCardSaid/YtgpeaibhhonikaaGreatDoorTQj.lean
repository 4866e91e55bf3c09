/-
  FrL7 Tyj: put together.
-/
import Derived.Test.YtgpeaibhhonikaaGreatDoorShr
import Derived.Test.YtgpeaibhhonikaaGreatDoorProg
import Derived.Test.YtgpeaibhhonikaaGreatDoorLgP
import Derived.Test.YtgpeaibhhonikaaGreatDoorTQb
import Derived.Test.YtgpeaibhhonikaaGreatDoorTQc
namespace Go.Proofs.YtgpeaibhhonikaaGreatDoor
open Go Go.Lg Go.Lg.Sh
set_option maxRecDepth 100000

def lc7 : LC := .seq (.rego 0 [o 3 0, o 4 1, b0 6]) (.keep [2, 3, 4] (.seq (.seq (.rego 1 [L 9 4 3, ⟨some 10, .call 15 [.tmp 9, .con (.int .i64 60)], none⟩, m 11 10, g 11 (L 12 4 4), ⟨some 13, .call 15 [.tmp 12, .con (.int .i64 60)], some ⟨11, false⟩⟩, q 14 11 13, m 15 14, g 15 (m 16 2), g 15 (n 17 16), ⟨some 18, .bin .gtr (.tmp 17) (.con (.int .i64 70)), some ⟨15, false⟩⟩, q 19 15 18]) (.keep [2, 3, 4, 19] (.cond (.tmp 19) (.keep [] (.seq (.rego 2 [⟨some 20, .call 17 [], none⟩, m 6 20]) .ret)) .skip))) (.keep [2, 3, 4] (.seq (.seq (.regf 3 [0, 0, 0, 6, 15, 31, 0] [L 21 4 4, L 22 4 3, m 23 2, C 24 25 22 23, ⟨some 25, .bsl 2 [.int .i64 0, .str { data := #[] }, .e0, .e0, .int .i64 0, .str { data := #[] }, .e0, .e0] [⟨0, 4, .tmp 21⟩, ⟨4, 4, .tmp 24⟩], none⟩, n 26 25, i 27 0]) (.keep [3, 25, 26, 27] (.block 0 (.loop (.seq (.rego 4 [s 28 27 26]) (.keep [3, 25, 26, 27, 28] (.seq (.cond (.tmp 28) .skip (.exit 0)) (.keep [3, 25, 26, 27] (.seq (.block 1 (.seq (.rego 5 [x 29 4 25 27, L 30 4 29, ⟨some 8, .new [.int .i64 0, .str { data := #[] }, .e0, .e0], none⟩, W 4 8 30]) (.keep [3, 8, 25, 26, 27] (.seq (.regf 6 [0, 0, 3, 0, 0, 31, 63, 127] [L 31 4 3, L 32 4 8, C 33 37 31 32, L 34 4 3, L 35 4 8, C 36 38 34 35, C 37 36 33 36, u 38 37]) (.keep [3, 25, 26, 27, 38] (.cond (.tmp 38) (.keep [] (.seq (.rego 7 [b0 6]) .ret)) .skip)))))) (.keep [3, 25, 26, 27] (.rego 8 [a 39 27 1, m 27 39]))))))))))) (.keep [3] (.seq (.regf 9 [0, 1, 3, 7, 3, 31, 63, 127, 255] [⟨some 40, .call 17 [], none⟩, m 41 40, h 41 (L 42 4 3), h 41 (c 43 18 42), h 41 (L 44 4 3), h 41 (c 45 39 44), h 41 (C 46 36 43 45), p 47 41 46, m 6 47]) .ret))))))
theorem fd7 : fnData Tryz.prog 7 = some (48, lc7.erase, [LRV.tmp 6]) := by kernel_rfl

end Go.Proofs.YtgpeaibhhonikaaGreatDoor

set_option linter.unusedSimpArgs false
set_option linter.unusedVariables false
namespace Go.Proofs.YtgpeaibhhonikaaGreatDoor
open Go Go.Lg Go.RowKit
set_option linter.unusedVariables false
set_option linter.unusedSimpArgs false
set_option maxRecDepth 20000

set_option maxHeartbeats 4000000 in
theorem typesSub_ret (t : RT) (ht : t.ok) (u : RT) (hu : u.ok) (m : List Int) (hm : m.length ≤ maxLen) : PRet Tryz.prog 7 [.agg t.cells, .agg u.cells, encL cI m] (.bool true) := by
  refine pret_intro fd7 (by simp) ?_
  simp only [lc7, VCA, simprocAttr, encL, MCA]
  refine callX_of (deep_ret 60 t ht (by decide)) (by first | exact .inr rfl | exact .inl rfl) ?_
  simp only [VCA, simprocAttr, encL, MCA]
  cases hd : deepB 60 t <;> simp only [VCA, simprocAttr, encL, MCA, hd]
  case true =>
    refine callX_of told14_ret (.inl rfl) ?_
    simp only [VCA, simprocAttr, encL, MCA]
  refine callX_of (deep_ret 60 u hu (by decide)) (by first | exact .inr rfl | exact .inl rfl) ?_
  simp only [VCA, simprocAttr, encL, MCA]
  cases hdu : deepB 60 u <;> simp only [VCA, simprocAttr, encL, MCA, hdu]
  case true =>
    refine callX_of told14_ret (.inl rfl) ?_
    simp only [VCA, simprocAttr, encL, MCA]
  cases hm70 : decide ((70 : Int) < m.length) <;> simp only [VCA, simprocAttr, encL, MCA, hm70]
  case true =>
    refine callX_of told14_ret (.inl rfl) ?_
    simp only [VCA, simprocAttr, encL, MCA]
  have hm1 : m.length ≤ 1000 := by have := of_decide_eq_false hm70; omega
  refine callV_of (rsubst_ret m hm1 60 t (by decide) hd) (by first | exact .inr rfl | exact .inl rfl) ?_
  simp only [VCA, simprocAttr, encL, MCA, two_fill]
  have hX2 : [u, substS m t].length = 2 := rfl
  generalize [u, substS m t] = X at *
  refine And.intro (by first | exact rt_imv 2 X | exact ⟨by simp [RT.len], rt_imv 2 X⟩ | trace_state) ?_
  refine loop_vcg (ι := Nat × (Nat → Nat)) (fun y => stO [(3, .box t.cells), (25, .val (encL RT.cells X)), (26, .val (.int .i64 2)), (27, .val (.int .i64 y.1))] y.2)
    (fun y => y.1 ≤ 2) (fun y => 2 - y.1) (0, _) (Nat.zero_le _) (ent_of _ [] rfl rfl (by simp only [VCA, simprocAttr, encL, MCA, rt_imv, hX2])) ?_
  rintro ⟨k, c⟩ hk
  have hk : k ≤ 2 := hk
  simp only [VCA, simprocAttr, encL, MCA]
  have hll : (subT t u).length ≤ 140 * 60 := subT_len 60 t u hd
  refine condD_of (fun h => ?_) (fun h => ?_)
  · have ha : k < X.length := by omega
    have i1 : 0 ≤ (k : Int) ∧ (k : Int) < 2 := by omega
    have ha2 : k < 2 := by omega
    have i3 : InI64 ((k : Int) + 1) := by unfold InI64; omega
    simp only [VCA, simprocAttr, encL, MCA, ha, i1, i3, one_fill]
    refine And.intro (by omega) ?_
    refine callV_of (tsub_ret 60 t X[k] (by decide) hd) (by first | exact .inr rfl | exact .inl rfl) ?_
    simp only [VCA, simprocAttr, encL, MCA]
    refine callV_of (rsub_ret 60 t X[k] (by decide) hd) (by first | exact .inr rfl | exact .inl rfl) ?_
    simp only [VCA, simprocAttr, encL, MCA]
    have hp := pairs_ret (subT t X[k]) (subT t X[k]) (Nat.le_trans (subT_len 60 t X[k] hd) (by decide))
    rw [decide_eq_true rfl] at hp
    refine callV_of hp (by first | exact .inr rfl | exact .inl rfl) ?_
    simp only [VCA, simprocAttr, encL, MCA, i3]
    exact backTo_of (k + 1, _) (by show k + 1 ≤ 2; omega) (by simp only []; omega) (ent_of _ [] rfl rfl (by simp only [VCA, simprocAttr, encL, MCA, rt_imv]))
  simp only [VCA, simprocAttr, encL, MCA]
  refine callV_of told14_ret (.inl rfl) ?_
  simp only [VCA, simprocAttr, encL, MCA]
  refine callV_of (well_ret 60 t (by decide) hd) (.inl rfl) ?_
  simp only [VCA, simprocAttr, encL, MCA]
  refine callV_of (rwell_ret 60 t (by decide) hd) (.inl rfl) ?_
  simp only [VCA, simprocAttr, encL, MCA]
  have hp := pairs_ret (wellS t) (wellS t) (Nat.le_trans (well_len 60 t hd) (by decide))
  rw [decide_eq_true rfl] at hp
  refine callV_of hp (by first | exact .inr rfl | exact .inl rfl) ?_
  simp only [VCA, simprocAttr, encL, MCA]
end Go.Proofs.YtgpeaibhhonikaaGreatDoor
