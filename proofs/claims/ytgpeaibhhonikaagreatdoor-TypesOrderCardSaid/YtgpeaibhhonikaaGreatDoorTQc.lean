/-
  Fi Tyh Tyi: put together.
-/
import Derived.Test.YtgpeaibhhonikaaGreatDoorShr
import Derived.Test.YtgpeaibhhonikaaGreatDoorProg
import Derived.Test.YtgpeaibhhonikaaGreatDoorLgP
import Derived.Test.YtgpeaibhhonikaaGreatDoorTQb
namespace Go.Proofs.YtgpeaibhhonikaaGreatDoor
open Go Go.Lg Go.Lg.Sh
set_option maxRecDepth 100000

def lci83 : LC := .seq (.rego 0 [m 6 0, n 7 6, i 8 0]) (.block 0 (.loop (.seq (.rego 1 [s 9 8 7]) (.seq (.cond (.tmp 9) .skip (.exit 0)) (.seq (.block 1 (.seq (.rego 2 [m 10 8, m 5 10]) (.regf 3 [0, 0, 0, 6, 14, 0, 0, 96, 224, 510, 0, 0, 3072, 7168, 0, 0, 49152, 114688, 261120, 524286, 1048575, 2097151] [l 11 1 2, m 12 0, m 13 5, x 14 1 12 13, l 15 1 14, m 16 1, m 17 5, x 18 1 16 17, l 19 1 18, ⟨some 20, .build [.int .i64 0, .int .i64 0] [⟨0, 1, .tmp 15⟩, ⟨1, 1, .tmp 19⟩], none⟩, m 21 1, m 22 5, x 23 1 21 22, l 24 1 23, m 25 0, m 26 5, x 27 1 25 26, l 28 1 27, ⟨some 29, .build [.int .i64 0, .int .i64 0] [⟨0, 1, .tmp 24⟩, ⟨1, 1, .tmp 28⟩], none⟩, ⟨some 30, .bsl 2 [.int .i64 0, .int .i64 0, .int .i64 0, .int .i64 0] [⟨0, 2, .tmp 20⟩, ⟨2, 2, .tmp 29⟩], none⟩, ⟨some 31, .app 2 16 (.tmp 11) (.tmp 30), none⟩, W 1 2 31]))) (.rego 4 [a 32 8 1, m 8 32]))))))
theorem fdi83 : fnData Tryz.prog 83 = some (33, lci83.erase, []) := by kernel_rfl

def lcg62 : LC := .seq (.rego 0 [o 2 0, o 3 1, ⟨some 4, .mov (.con .e0), none⟩]) (.keep [2, 3] (.seq (.rego 1 [⟨some 5, .new [.e0], none⟩]) (.keep [2, 3, 5] (.seq (.rego 2 [⟨some 9, .mkfn 83 [.tmp 5], none⟩, m 6 9]) (.keep [2, 3, 5, 6] (.seq (.seq (.rego 3 [f 10 0 2, l 11 1 10]) (.keep [2, 3, 5, 6, 11] (.block 0 (.seq (.seq (.rego 4 [e 13 11 5, m 12 13]) (.keep [2, 3, 5, 6, 11, 12] (.cond (.tmp 12) .skip (.keep [2, 3, 5, 6, 11] (.rego 5 [e 14 11 4, m 12 14]))))) (.keep [2, 3, 5, 6, 11, 12] (.cond (.tmp 12) (.keep [2, 3, 5, 6] (.seq (.seq (.rego 6 [L 15 4 2, c 16 50 15, n 17 16, i 18 0]) (.keep [2, 3, 5, 6, 17, 18] (.block 1 (.loop (.seq (.rego 7 [s 19 18 17]) (.keep [2, 3, 5, 6, 17, 18, 19] (.seq (.cond (.tmp 19) .skip (.exit 1)) (.keep [2, 3, 5, 6, 17, 18] (.seq (.block 2 (.seq (.rego 8 [m 20 18, m 7 20]) (.keep [2, 3, 5, 6, 7, 17, 18] (.regf 9 [0, 0, 2, 0, 14, 30, 0, 64, 0, 448, 960, 2046, 4094, 8191, 16383] [l 21 1 5, f 22 2 2, l 23 1 22, m 24 7, x 25 1 23 24, l 26 1 25, f 27 2 3, l 28 1 27, m 29 7, x 30 1 28 29, l 31 1 30, ⟨some 32, .build [.int .i64 0, .int .i64 0] [⟨0, 1, .tmp 26⟩, ⟨1, 1, .tmp 31⟩], none⟩, ⟨some 33, .bsl 1 [.int .i64 0, .int .i64 0] [⟨0, 2, .tmp 32⟩], none⟩, ⟨some 34, .app 2 16 (.tmp 21) (.tmp 33), none⟩, W 1 5 34])))) (.keep [2, 3, 5, 6, 17, 18] (.rego 10 [a 35 18 1, m 18 35]))))))))))) (.keep [2, 3, 5, 6] (.seq (.rego 11 [f 36 3 2, l 37 1 36, n 38 37, ⟨some 39, .mn false (.con (.int .i64 1)) (.tmp 38), none⟩, i 40 0]) (.keep [2, 3, 5, 6, 39, 40] (.block 3 (.loop (.seq (.rego 12 [s 41 40 39]) (.keep [2, 3, 5, 6, 39, 40, 41] (.seq (.cond (.tmp 41) .skip (.exit 3)) (.keep [2, 3, 5, 6, 39, 40] (.seq (.block 4 (.seq (.rego 13 [m 42 40, m 8 42]) (.keep [2, 3, 5, 6, 8, 39, 40] (.seq (.seq (.rego 14 [f 43 0 2, l 44 1 43, e 45 44 4]) (.keep [2, 3, 5, 6, 8, 39, 40, 45] (.cond (.tmp 45) (.keep [2, 3, 5, 6, 8, 39, 40] (.seq (.regf 15 [0, 0, 2, 0, 14, 30, 0, 64, 0, 448, 960, 2046, 4095, 8191] [l 46 1 5, f 47 3 2, l 48 1 47, m 49 8, x 50 4 48 49, L 51 4 50, f 52 3 3, l 53 1 52, m 54 8, x 55 4 53 54, L 56 4 55, C 57 62 51 56, ⟨some 58, .app 2 16 (.tmp 46) (.tmp 57), none⟩, W 1 5 58]) (.exit 4))) .skip))) (.keep [2, 3, 5, 6, 8, 39, 40] (.regg 16 [0, 0, 2, 0, 14, 30, 62, 0, 128, 0, 896, 1920, 4094, 8191] [m 59 6, f 60 3 2, l 61 1 60, m 62 8, x 63 4 61 62, L 64 4 63, c 65 31 64, f 66 3 3, l 67 1 66, m 68 8, x 69 4 67 68, L 70 4 69, c 71 31 70, ⟨some 72, .callv (.tmp 59) [.tmp 65, .tmp 71], none⟩])))))) (.keep [2, 3, 5, 6, 39, 40] (.rego 17 [a 73 40 1, m 40 73])))))))))))))) (.keep [2, 3, 5, 6, 11] (.seq (.rego 18 [e 75 11 3, m 74 75]) (.keep [2, 3, 5, 6, 74] (.cond (.tmp 74) (.keep [2, 3, 5, 6] (.rego 19 [m 76 6, f 77 2 2, l 78 1 77, f 79 2 3, l 80 1 79, ⟨some 81, .callv (.tmp 76) [.tmp 78, .tmp 80], none⟩])) .skip)))))))))) (.keep [5] (.seq (.rego 20 [l 82 1 5, m 4 82]) .ret))))))))
theorem fdg62 : fnData Tryz.prog 62 = some (83, lcg62.erase, [LRV.tmp 4]) := by kernel_rfl

end Go.Proofs.YtgpeaibhhonikaaGreatDoor

set_option linter.unusedSimpArgs false
set_option linter.unusedVariables false
namespace Go.Proofs.YtgpeaibhhonikaaGreatDoor
open Go Go.Lg Go.RowKit
set_option linter.unusedVariables false
set_option linter.unusedSimpArgs false
set_option maxRecDepth 20000

theorem bothS_take {r s : List Int} {k : Nat} (hr : k < r.length) (hs : k < s.length) : bothS (r.take (k + 1)) (s.take (k + 1)) = bothS (r.take k) (s.take k) ++ [(r[k], s[k]), (s[k], r[k])] := by
  induction k generalizing r s with
  | zero => cases r with
    | nil => simp at hr
    | cons x r => cases s with
      | nil => simp at hs
      | cons y s => rfl
  | succ k ih => cases r with
    | nil => simp at hr
    | cons x r => cases s with
      | nil => simp at hs
      | cons y s =>
        have h1 : k < r.length := by simpa using hr
        have h2 : k < s.length := by simpa using hs
        simp only [List.take_succ_cons, bothS, List.cons_append, List.getElem_cons_succ]
        rw [ih h1 h2]
theorem sc_40 (a b c d x y : V) : setCells [a, b, c, d] 0 [x, y] = [x, y, c, d] := rfl
theorem sc_42 (a b c d x y : V) : setCells [a, b, c, d] 2 [x, y] = [a, b, x, y] := rfl
theorem lp_app2 (l : List (Int × Int)) (a b c d : Int) : l.flatMap cP ++ [.int .i64 a, .int .i64 b, .int .i64 c, .int .i64 d] = (l ++ [(a, b), (c, d)]).flatMap cP := by rw [List.flatMap_append]; rfl
theorem zip_take1 {r s O : List Int} {k : Nat} (hO : r.take 1 = O) (hk : k < O.length) (h1 : k < r.length) (h2 : k < s.length) : (O.zip s).take k ++ [(r[k], s[k])] = (O.zip s).take (k + 1) := by
  subst hO
  cases r with
  | nil => simp at hk
  | cons x r => cases s with
    | nil => simp at h2
    | cons y s =>
      simp only [List.take_succ_cons, List.take_zero, List.length_singleton] at hk
      obtain rfl : k = 0 := by omega
      rfl
theorem subH_pos {b : Bool} {e m : List RT} (h : 0 < e.length) (h2 : 0 < m.length) : subH b e m = if b = true then subS e[0] m[0] else bothS (regS e[0]) (regS m[0]) := by
  cases e with
  | nil => simp at h
  | cons x l => cases m with
    | nil => simp at h2
    | cons y m => rfl
theorem sameL_0 : ∀ {e m : List RT}, sameL e m = true → ∀ (h : 0 < e.length) (h2 : 0 < m.length), sameB e[0] m[0] = true
  | [], _, _, h, _ => by simp at h
  | _ :: _, [], _, _, h => by simp at h
  | x :: l, y :: m, hs, _, _ => by simp only [sameL, Bool.and_eq_true] at hs; exact hs.1
theorem sameL_at : ∀ {e m : List RT}, sameL e m = true → ∀ (j : Nat) (h : j < e.length) (h2 : j < m.length), sameB e[j] m[j] = true
  | [], _, _, j, h, _ => by simp at h
  | _ :: _, [], _, j, _, h => by simp at h
  | x :: l, y :: m, hs, j, h, h2 => by
    simp only [sameL, Bool.and_eq_true] at hs
    cases j with
    | zero => exact hs.1
    | succ j => exact sameL_at hs.2 j (by simpa using h) (by simpa using h2)
theorem deep_same : ∀ (d : Nat) (a b : RT), sameB a b = true → deepB d a = false → deepB d b = false
  | 0, _, _, _, h => (deep_zero h).elim
  | d + 1, a, b, hs, h => by
    obtain ⟨he, hr, hc⟩ := deep_succ h
    obtain ⟨s1, s2, s3, s4⟩ := same_parts hs
    have hel := sameL_len _ _ s4
    simp only [deepB, Bool.or_eq_false_iff, decide_eq_false_iff_not, List.any_eq_false]
    refine ⟨⟨by omega, by omega⟩, fun y hy => ?_⟩
    obtain ⟨j, hj, rfl⟩ := List.getElem_of_mem hy
    have hj' : j < a.elem.length := by omega
    simp [deep_same d _ _ (sameL_at s4 j hj' hj) (hc _ (List.getElem_mem hj'))]
theorem subH_none {b : Bool} {e m : List RT} (h : e.length = 0) : subH b e m = [] := by rw [List.eq_nil_of_length_eq_zero h]; rfl

set_option maxHeartbeats 4000000 in
theorem sub_ret : ∀ (d : Nat) (a b : RT), d ≤ 100 → deepB d a = false → sameB a b = true → PRet Tryz.prog 62 [.agg a.cells, .agg b.cells] (encL cP (subS a b)) := by
  intro d
  induction d with
  | zero => intro t _ _ h; exact (deep_zero h).elim
  | succ d ih =>
    intro a b hd h hs
    obtain ⟨he, hr, hc⟩ := deep_succ h
    obtain ⟨s1, s2, s3, s4⟩ := same_parts hs
    have hel := sameL_len _ _ s4
    refine pret_intro_l fdg62 (by simp) ?_
    simp only [lcg62, VCA, simprocAttr, encL, MCA]
    rw [subS_eq]
    have hk3 : (decide (a.kind = 5) = true ∧ decide (a.kind = 4) = false) ∨ (decide (a.kind = 5) = false ∧ decide (a.kind = 4) = true) ∨ (decide (a.kind = 5) = false ∧ decide (a.kind = 4) = false) := by
      by_cases h5 : a.kind = 5
      · left; simp [h5]
      · by_cases h4 : a.kind = 4
        · right; left; simp [h4]
        · right; right; simp [h4, h5]
    rcases hk3 with ⟨b5, b4⟩ | ⟨b5, b4⟩ | ⟨b5, b4⟩
    case inr.inr =>
      cases b3 : decide (a.kind = 3)
      · have n3 : ¬ a.kind = 3 := of_decide_eq_false b3
        have nr : ¬ isRef a.kind = true := by rw [isRef, b4, b5]; decide
        rw [if_neg n3, if_neg nr]
        simp only [VCA, simprocAttr, encL, MCA, b5, b4, b3, List.flatMap_nil]
      · have n3 : a.kind = 3 := of_decide_eq_true b3
        rw [if_pos n3]
        simp only [VCA, simprocAttr, encL, MCA, b5, b4, b3]
        refine callX_inl fdi83 (by simp) ?_
        simp only [lci83, VCA, simprocAttr, encL, MCA]
        generalize hr1 : a.regions = r at *
        generalize hr2 : b.regions = s at *
        refine loop_vcg (ι := (Nat × List (Int × Int)) × (Nat → Nat)) (fun y => stO [(2, .ali 100010), (0, .val (encL cI r)), (1, .val (encL cI s)), (7, .val (.int .i64 r.length)), (8, .val (.int .i64 y.1.1)), (100010, .boxo 2 y.1.2.length (y.1.2.flatMap cP))] y.2)
          (fun y => y.1.1 ≤ r.length ∧ y.1.2 = bothS (r.take y.1.1) (s.take y.1.1)) (fun y => r.length - y.1.1) ((0, []), _) ⟨Nat.zero_le _, rfl⟩ (ent_of _ [] rfl rfl (by simp only [VCA, simprocAttr, encL, MCA, lp_imv, lp_len, List.flatMap_nil, List.length_append, List.length_cons, List.length_nil, Nat.reduceAdd]; try (repeat' (first | rfl | refine And.intro ?_ ?_ | decide)))) ?_
        rintro ⟨⟨k, R⟩, c⟩ hk
        obtain ⟨hk, hR⟩ : k ≤ r.length ∧ R = bothS (r.take k) (s.take k) := hk
        have hRl : R.length ≤ 2 * k := by
          have := both_len (r.take k) (s.take k)
          rw [← hR, List.length_take] at this
          omega
        simp only [VCA, simprocAttr, encL, MCA]
        refine condD_of (fun h => ?_) (fun h => ?_)
        · have h1 : k < r.length := by omega
          have h2 : k < s.length := by omega
          have i1 : 0 ≤ (k : Int) ∧ (k : Int) < r.length := by omega
          have i2 : 0 ≤ (k : Int) ∧ (k : Int) < s.length := by omega
          have i3 : InI64 ((k : Int) + 1) := by unfold InI64; omega
          have hRs : R ++ [(r[k], s[k]), (s[k], r[k])] = bothS (r.take (k + 1)) (s.take (k + 1)) := by rw [hR, bothS_take h1 h2]
          simp only [VCA, simprocAttr, encL, MCA, h1, h2, i1, i2, i3, sc_0, sc_1, sc_20, sc_40, sc_42, lp_len, lp_app2, lp_imv, lp_one, lp_sok]
          exact ⟨⟨by omega, by omega⟩, backTo_of ((k + 1, R ++ [(r[k], s[k]), (s[k], r[k])]), _) ⟨h1, hRs⟩ (by simp only []; omega) (ent_of _ [] rfl rfl (by simp only [VCA, simprocAttr, encL, MCA, lp_imv, lp_len, List.flatMap_nil, List.length_append, List.length_cons, List.length_nil, Nat.reduceAdd]; try (repeat' (first | rfl | refine And.intro ?_ ?_ | decide))))⟩
        · have hk' : k = r.length := by omega
          subst hk'
          rw [List.take_length, List.take_of_length_le (by omega)] at hR
          refine ⟨_, rfl, ?_⟩
          simp only [VCA, simprocAttr, encL, MCA, lp_imv, lp_len, lp_snap, lp_take (Nat.le_refl _)]
          rw [hR]
          exact ⟨rfl, rfl⟩
    all_goals
      have n3 : ¬ a.kind = 3 := by
        intro h3
        simp [h3] at b4 b5
      have hkr : isRef a.kind = true := by rw [isRef, b4, b5]; decide
      rw [if_neg n3, if_pos hkr]
      have hown := own_ret a
      have ol : (a.regions.take 1).length ≤ a.regions.length := by rw [List.length_take]; omega
      have ol1 : (a.regions.take 1).length ≤ 1 := by rw [List.length_take]; omega
      simp only [VCA, simprocAttr, encL, MCA, b5, b4]
      refine callX_of hown (by first | exact .inr rfl | exact .inl rfl) ?_
      generalize hO : a.regions.take 1 = O at *
      simp only [VCA, simprocAttr, encL, MCA]
      refine loop_vcg (ι := (Nat × List (Int × Int)) × (Nat → Nat)) (fun y => stO [(6, .clo 83 [5]), (2, .box a.cells), (3, .box b.cells), (17, .val (.int .i64 O.length)), (18, .val (.int .i64 y.1.1)), (5, .boxo 2 y.1.2.length (y.1.2.flatMap cP))] y.2)
        (fun y => y.1.1 ≤ O.length ∧ y.1.2 = (O.zip b.regions).take y.1.1) (fun y => O.length - y.1.1) ((0, []), _) ⟨Nat.zero_le _, rfl⟩ (ent_of _ [] rfl rfl (by simp only [VCA, simprocAttr, encL, MCA, lp_imv, lp_len, List.flatMap_nil, List.length_append, List.length_cons, List.length_nil, Nat.reduceAdd]; try (repeat' (first | rfl | refine And.intro ?_ ?_ | decide)))) ?_
      rintro ⟨⟨k, R⟩, c⟩ hk
      obtain ⟨hk, hR⟩ : k ≤ O.length ∧ R = (O.zip b.regions).take k := hk
      have hRl : R.length ≤ k := by rw [hR, List.length_take]; omega
      simp only [VCA, simprocAttr, encL, MCA]
      refine condD_of (fun h => ?_) (fun h => ?_)
      · have hk' : k < O.length := by omega
        have h1 : k < a.regions.length := by omega
        have h2 : k < b.regions.length := by omega
        have i1 : 0 ≤ (k : Int) ∧ (k : Int) < a.regions.length := by omega
        have i2 : 0 ≤ (k : Int) ∧ (k : Int) < b.regions.length := by omega
        have i3 : InI64 ((k : Int) + 1) := by unfold InI64; omega
        have hRs : R ++ [(a.regions[k], b.regions[k])] = (O.zip b.regions).take (k + 1) := by
          rw [hR, zip_take1 hO hk' h1 h2]
        simp only [VCA, simprocAttr, encL, MCA, h1, h2, i1, i2, i3, sc_0, sc_1, sc_20, lp_len, lp_app, lp_imv, lp_one, lp_sok]
        exact ⟨⟨by omega, by omega⟩, backTo_of ((k + 1, R ++ [(a.regions[k], b.regions[k])]), _) ⟨hk', hRs⟩ (by simp only []; omega) (ent_of _ [] rfl rfl (by simp only [VCA, simprocAttr, encL, MCA, lp_imv, lp_len, List.flatMap_nil, List.length_append, List.length_cons, List.length_nil, Nat.reduceAdd]; try (repeat' (first | rfl | refine And.intro ?_ ?_ | decide))))⟩
      have hk' : k = O.length := by omega
      subst hk'
      have hOb : O.length ≤ b.regions.length := by omega
      rw [List.take_of_length_le (by rw [List.length_zip]; omega)] at hR
      clear h hk
      have hR0 : R.length ≤ 1 := by omega
      simp only [VCA, simprocAttr, encL, MCA]
      obtain ⟨n, hn, hn1⟩ : ∃ n : Nat, (if (a.elem.length : Int) < 1 then (a.elem.length : Int) else 1) = n ∧ n = min 1 a.elem.length := ⟨min 1 a.elem.length, by split <;> omega, rfl⟩
      rw [hn]
      refine loop_vcg (ι := (Nat × List (Int × Int)) × (Nat → Nat)) (fun y => stO [(6, .clo 83 [5]), (2, .box a.cells), (3, .box b.cells), (39, .val (.int .i64 n)), (40, .val (.int .i64 y.1.1)), (5, .boxo 2 y.1.2.length (y.1.2.flatMap cP))] y.2)
        (fun y => y.1.1 ≤ n ∧ y.1.2 = if y.1.1 = 0 then R else R ++ subH (decide (a.kind = 4)) a.elem b.elem) (fun y => n - y.1.1) ((0, R), _) ⟨Nat.zero_le _, rfl⟩ (ent_of _ [] rfl rfl (by simp only [VCA, simprocAttr, encL, MCA, lp_imv, lp_len, List.flatMap_nil, List.length_append, List.length_cons, List.length_nil, Nat.reduceAdd]; try (repeat' (first | rfl | refine And.intro ?_ ?_ | decide)))) ?_
      rintro ⟨⟨k, R2⟩, c⟩ hk
      obtain ⟨hk, hR2⟩ : k ≤ n ∧ R2 = if k = 0 then R else R ++ subH (decide (a.kind = 4)) a.elem b.elem := hk
      simp only [VCA, simprocAttr, encL, MCA]
      refine (fun h1 h2 => condD_of h2 h1) (fun h => ?_) (fun h => ?_)
      · have hk' : k = n := by omega
        subst hk'
        have hRR : R2 = O.zip b.regions ++ subH (decide (a.kind = 4)) a.elem b.elem := by
          rw [hR2, ← hR]
          split
          · have he0 : a.elem.length = 0 := by omega
            rw [subH_none he0, List.append_nil]
          · rfl
        rw [b4] at hRR
        rw [← List.length_append, ← hRR]
        simp only [VCA, simprocAttr, encL, MCA, lp_imv, lp_len, lp_snap, lp_take (Nat.le_refl _)]
      have hk0 : k = 0 := by omega
      subst hk0
      rw [if_pos rfl] at hR2
      subst hR2
      have hn0 : 0 < n := by omega
      clear h hk
      have hp : 0 < a.elem.length := by omega
      have hp2 : 0 < b.elem.length := by omega
      have p1 : (0 : Int) < a.elem.length := by omega
      have p2 : (0 : Int) < b.elem.length := by omega
      have f1 := rt_first hp
      have f2 := rt_first hp2
      have hx := hc _ (List.getElem_mem hp)
      have hxy : sameB a.elem[0] b.elem[0] = true := sameL_0 s4 hp hp2
      rw [subH_pos hp hp2]
      simp only [VCA, simprocAttr, encL, MCA, b4, p1, p2, f1, f2, hp, hp2, vcg_regg, vopsL_one, vopsL_cons]
    · have hdb := deep_same d _ _ hxy hx
      refine ⟨by decide, ?_⟩
      refine callV_of (regs_ret d a.elem[0] (by omega) hx) (by first | exact .inr rfl | exact .inl rfl) ?_
      simp only [VCA, simprocAttr, encL, MCA, b4, p1, p2, f1, f2, hp, hp2, vopsL_one, vopsL_cons]
      refine callV_of (regs_ret d b.elem[0] (by omega) hdb) (by first | exact .inr rfl | exact .inl rfl) ?_
      have hll := regS_len_same _ _ hxy
      have hrl := reg_len d _ hx
      generalize regS a.elem[0] = r at *
      generalize regS b.elem[0] = s at *
      try simp only [VCA, simprocAttr, encL, MCA, b4, p1, p2, f1, f2, hp, hp2, vopsL_one, vopsL_cons]
      refine ⟨by simp only [lp_len, Nat.le_refl, decide_true, lp_take (Nat.le_refl _), lp_sok, Bool.and_self], ?_⟩
      refine callX_inl fdi83 (by simp) ?_
      simp only [lci83, VCA, simprocAttr, encL, MCA]
      refine loop_vcg (ι := (Nat × List (Int × Int)) × (Nat → Nat)) (fun y => stO [(2, .ali 100010), (100012, .clo 83 [100010]), (0, .val (encL cI r)), (1, .val (encL cI s)), (7, .val (.int .i64 r.length)), (8, .val (.int .i64 y.1.1)), (100004, .box a.cells), (100006, .box b.cells), (100078, .val (.int .i64 n)), (100080, .val (.int .i64 0)), (100010, .boxo 2 y.1.2.length (y.1.2.flatMap cP))] y.2)
        (fun y => y.1.1 ≤ r.length ∧ y.1.2 = R2 ++ bothS (r.take y.1.1) (s.take y.1.1)) (fun y => r.length - y.1.1) ((0, R2), _) ⟨Nat.zero_le _, by simp [bothS]⟩ (ent_of _ [] rfl rfl (by simp only [VCA, simprocAttr, encL, MCA, lp_imv, lp_len, List.flatMap_nil, List.length_append, List.length_cons, List.length_nil, Nat.reduceAdd]; try (repeat' (first | rfl | refine And.intro ?_ ?_ | decide)))) ?_
      rintro ⟨⟨k, R⟩, c⟩ hk
      obtain ⟨hk, hR⟩ : k ≤ r.length ∧ R = R2 ++ bothS (r.take k) (s.take k) := hk
      have hRl : R.length ≤ 1 + 2 * k := by
        have := both_len (r.take k) (s.take k)
        rw [List.length_take] at this
        rw [hR, List.length_append]
        omega
      simp only [VCA, simprocAttr, encL, MCA]
      refine condD_of (fun h => ?_) (fun h => ?_)
      · have h1 : k < r.length := by omega
        have h2 : k < s.length := by omega
        have i1 : 0 ≤ (k : Int) ∧ (k : Int) < r.length := by omega
        have i2 : 0 ≤ (k : Int) ∧ (k : Int) < s.length := by omega
        have i3 : InI64 ((k : Int) + 1) := by unfold InI64; omega
        have hRs : R ++ [(r[k], s[k]), (s[k], r[k])] = R2 ++ bothS (r.take (k + 1)) (s.take (k + 1)) := by rw [hR, bothS_take h1 h2, List.append_assoc]
        simp only [VCA, simprocAttr, encL, MCA, h1, h2, i1, i2, i3, sc_0, sc_1, sc_20, sc_40, sc_42, lp_len, lp_app2, lp_imv, lp_one, lp_sok]
        exact ⟨⟨by omega, by omega⟩, backTo_of ((k + 1, R ++ [(r[k], s[k]), (s[k], r[k])]), _) ⟨h1, hRs⟩ (by simp only []; omega) (ent_of _ [] rfl rfl (by simp only [VCA, simprocAttr, encL, MCA, lp_imv, lp_len, List.flatMap_nil, List.length_append, List.length_cons, List.length_nil, Nat.reduceAdd]; try (repeat' (first | rfl | refine And.intro ?_ ?_ | decide))))⟩
      · have hk' : k = r.length := by omega
        subst hk'
        rw [List.take_length, List.take_of_length_le (by omega)] at hR
        refine ⟨_, rfl, ?_⟩
        simp only [VCA, simprocAttr, encL, MCA, lp_imv, lp_len, lp_snap, lp_take (Nat.le_refl _)]
        exact ⟨by unfold InI64; omega, backTo_of ((1, R), _) ⟨by show 1 ≤ n; omega, hR⟩ (by simp only []; omega) (ent_of _ [] rfl rfl (by simp only [VCA, simprocAttr, encL, MCA, lp_imv, lp_len, List.flatMap_nil, List.length_append, List.length_cons, List.length_nil, Nat.reduceAdd]; try (repeat' (first | rfl | refine And.intro ?_ ?_ | decide))))⟩
    · have hsl := sub_len d a.elem[0] b.elem[0] hx
      refine callV_of (ih a.elem[0] b.elem[0] (by omega) hx hxy) (by first | exact .inr rfl | exact .inl rfl) ?_
      generalize subS a.elem[0] b.elem[0] = S at *
      simp only [VCA, simprocAttr, encL, MCA, lp_len, lp_cat, lp_imv, lp_one, lp_snap, lp_sok, lp_take (Nat.le_refl _)]
      exact ⟨⟨by omega, by omega⟩, by unfold InI64; omega, backTo_of ((1, R2 ++ S), _) ⟨by show 1 ≤ n; omega, rfl⟩ (by simp only []; omega) (ent_of _ [] rfl rfl (by simp only [VCA, simprocAttr, encL, MCA, lp_imv, lp_len, List.flatMap_nil, List.length_append, List.length_cons, List.length_nil, Nat.reduceAdd]; try (repeat' (first | rfl | refine And.intro ?_ ?_ | decide))))⟩
end Go.Proofs.YtgpeaibhhonikaaGreatDoor

set_option linter.unusedSimpArgs false
set_option linter.unusedVariables false
namespace Go.Proofs.YtgpeaibhhonikaaGreatDoor
open Go Go.Lg Go.RowKit
set_option linter.unusedVariables false
set_option linter.unusedSimpArgs false
set_option maxRecDepth 20000

theorem tsub_ret (d : Nat) (a b : RT) (hd : d ≤ 100) (h : deepB d a = false) : PRet Tryz.prog 37 [.agg a.cells, .agg b.cells] (encL cP (subT a b)) := by
  refine pret_intro_l fd37 (by simp) ?_
  simp only [lc37, VCA, simprocAttr, encL, MCA]
  refine callX_of (same_ret d a b hd h) (by first | exact .inr rfl | exact .inl rfl) ?_
  simp only [VCA, simprocAttr, encL, MCA, subT]
  cases hs : sameB a b <;> simp only [VCA, simprocAttr, encL, MCA, hs]
  · rfl
  · refine callX_of (sub_ret d a b hd h hs) (by first | exact .inr rfl | exact .inl rfl) ?_
    simp only [VCA, simprocAttr, encL, MCA]

theorem zip_take11 (r s : List Int) : (r.take 1).zip s = (r.take 1).zip (s.take 1) := by
  cases r with
  | nil => rfl
  | cons x r => cases s with
    | nil => rfl
    | cons y s => rfl
theorem zip_succ {r s : List Int} {k : Nat} (h1 : k < r.length) (h2 : k < s.length) : (r.zip s).take k ++ [(r[k], s[k])] = (r.zip s).take (k + 1) := by
  have h : k < (r.zip s).length := by rw [List.length_zip]; omega
  rw [List.take_succ_eq_append_getElem h, List.getElem_zip]
theorem ownS_ref {k : Int} {r : List Int} (h3 : ¬ k = 3) (hk : isRef k = true) : ownS k r = r.take 1 := by rw [ownS, if_neg h3, if_pos hk]
set_option maxHeartbeats 4000000 in
theorem rsub_ret : ∀ (d : Nat) (a b : RT), d ≤ 100 → deepB d a = false → PRet Tryz.prog 38 [.agg a.cells, .agg b.cells] (encL cP (subT a b)) := by
  intro d
  induction d with
  | zero => intro t _ _ h; exact (deep_zero h).elim
  | succ d ih =>
    intro a b hd h
    obtain ⟨he, hr, hc⟩ := deep_succ h
    refine pret_intro_l fd38 (by simp) ?_
    simp only [lc38, VCA, simprocAttr, encL, MCA]
    refine callX_of (rsame_ret (d + 1) a b hd h) (by first | exact .inr rfl | exact .inl rfl) ?_
    simp only [VCA, simprocAttr, encL, MCA, subT]
    cases hs : sameB a b <;> simp only [VCA, simprocAttr, encL, MCA, hs]
    · rfl
    obtain ⟨s1, s2, s3, s4⟩ := same_parts hs
    have hel := sameL_len _ _ s4
    have ho1 := rown_ret a
    have ho2 := rown_ret b
    rw [← s1] at ho2
    refine callV_of ho1 (by first | exact .inr rfl | exact .inl rfl) ?_
    simp only [VCA, simprocAttr, encL, MCA]
    refine callV_of ho2 (by first | exact .inr rfl | exact .inl rfl) ?_
    rw [subS_eq]
    have hk3 : (decide (a.kind = 5) = true ∧ decide (a.kind = 4) = false) ∨ (decide (a.kind = 5) = false ∧ decide (a.kind = 4) = true) ∨ (decide (a.kind = 5) = false ∧ decide (a.kind = 4) = false) := by
      by_cases h5 : a.kind = 5
      · left; simp [h5]
      · by_cases h4 : a.kind = 4
        · right; left; simp [h4]
        · right; right; simp [h4, h5]
    rcases hk3 with ⟨b5, b4⟩ | ⟨b5, b4⟩ | ⟨b5, b4⟩
    case inr.inr =>
      cases b3 : decide (a.kind = 3)
      · have n3 : ¬ a.kind = 3 := of_decide_eq_false b3
        have nr : ¬ isRef a.kind = true := by rw [isRef, b4, b5]; decide
        rw [if_neg n3, if_neg nr]
        simp only [VCA, simprocAttr, encL, MCA, b5, b4, b3, List.flatMap_nil]
      · have n3 : a.kind = 3 := of_decide_eq_true b3
        rw [if_pos n3]
        have e1 : ∀ r, ownS a.kind r = r := fun r => by rw [ownS, if_pos n3]
        rw [e1, e1]
        generalize hr1 : a.regions = r at *
        generalize hr2 : b.regions = s at *
        simp only [VCA, simprocAttr, encL, MCA, b5, b4, b3]
        refine loop_vcg (ι := (Nat × List (Int × Int)) × (Nat → Nat)) (fun y => stO [(5, .own 2 y.1.2.length (y.1.2.flatMap cP)), (6, .val (encL cI r)), (7, .val (encL cI s)), (8, .val (.int .i64 y.1.1))] y.2)
          (fun y => y.1.1 ≤ r.length ∧ y.1.2 = bothS (r.take y.1.1) (s.take y.1.1)) (fun y => r.length - y.1.1) ((0, []), _) ⟨Nat.zero_le _, rfl⟩ (ent_of _ [] rfl rfl (by simp only [VCA, simprocAttr, encL, MCA, lp_imv, lp_len, List.flatMap_nil, List.length_append, List.length_cons, List.length_nil, Nat.reduceAdd])) ?_
        rintro ⟨⟨k, R⟩, c⟩ hk
        obtain ⟨hk, hR⟩ : k ≤ r.length ∧ R = bothS (r.take k) (s.take k) := hk
        have hRl : R.length ≤ 2 * k := by
          have := both_len (r.take k) (s.take k)
          rw [← hR, List.length_take] at this
          omega
        simp only [VCA, simprocAttr, encL, MCA]
        refine condD_of (fun h => ?_) (fun h => ?_)
        · have h1 : k < r.length := by omega
          have h2 : k < s.length := by omega
          have i1 : 0 ≤ (k : Int) ∧ (k : Int) < r.length := by omega
          have i2 : 0 ≤ (k : Int) ∧ (k : Int) < s.length := by omega
          have i3 : InI64 ((k : Int) + 1) := by unfold InI64; omega
          have hRs : R ++ [(r[k], s[k]), (s[k], r[k])] = bothS (r.take (k + 1)) (s.take (k + 1)) := by rw [hR, bothS_take h1 h2]
          simp only [VCA, simprocAttr, encL, MCA, h1, h2, i1, i2, i3, sc_0, sc_1, sc_20, sc_40, sc_42, lp_len, lp_app2, lp_imv, lp_one, lp_sok]
          exact ⟨⟨by omega, by omega⟩, backTo_of ((k + 1, R ++ [(r[k], s[k]), (s[k], r[k])]), _) ⟨h1, hRs⟩ (by simp only []; omega) (ent_of _ [] rfl rfl (by simp only [VCA, simprocAttr, encL, MCA, lp_imv, lp_len, List.flatMap_nil, List.length_append, List.length_cons, List.length_nil, Nat.reduceAdd]))⟩
        · have hk' : k = r.length := by omega
          subst hk'
          rw [List.take_length, List.take_of_length_le (by omega)] at hR
          simp only [VCA, simprocAttr, encL, MCA, lp_imv, lp_len, lp_snap, lp_take (Nat.le_refl _)]
          rw [hR]
          exact ⟨rfl, rfl⟩
    all_goals
      have n3 : ¬ a.kind = 3 := by
        intro h3
        simp [h3] at b4 b5
      have b3 : decide (a.kind = 3) = false := decide_eq_false n3
      have hkr : isRef a.kind = true := by rw [isRef, b4, b5]; decide
      rw [if_neg n3, if_pos hkr, ownS_ref n3 hkr, ownS_ref n3 hkr, zip_take11]
      have ol1 : (a.regions.take 1).length ≤ 1 := by rw [List.length_take]; omega
      have ol2 : (a.regions.take 1).length = (b.regions.take 1).length := by rw [List.length_take, List.length_take]; omega
      generalize a.regions.take 1 = O at *
      generalize b.regions.take 1 = O2 at *
      simp only [VCA, simprocAttr, encL, MCA, b5, b4, b3]
      refine loop_vcg (ι := (Nat × List (Int × Int)) × (Nat → Nat)) (fun y => stO [(2, .box a.cells), (3, .box b.cells), (5, .own 2 y.1.2.length (y.1.2.flatMap cP)), (6, .val (encL cI O)), (7, .val (encL cI O2)), (9, .val (.int .i64 y.1.1))] y.2)
        (fun y => y.1.1 ≤ O.length ∧ y.1.2 = (O.zip O2).take y.1.1) (fun y => O.length - y.1.1) ((0, []), _) ⟨Nat.zero_le _, rfl⟩ (ent_of _ [] rfl rfl (by simp only [VCA, simprocAttr, encL, MCA, lp_imv, lp_len, List.flatMap_nil, List.length_append, List.length_cons, List.length_nil, Nat.reduceAdd])) ?_
      rintro ⟨⟨k, R⟩, c⟩ hk
      obtain ⟨hk, hR⟩ : k ≤ O.length ∧ R = (O.zip O2).take k := hk
      have hRl : R.length ≤ k := by rw [hR, List.length_take]; omega
      simp only [VCA, simprocAttr, encL, MCA]
      refine condD_of (fun h => ?_) (fun h => ?_)
      · have h1 : k < O.length := by omega
        have h2 : k < O2.length := by omega
        have i1 : 0 ≤ (k : Int) ∧ (k : Int) < O.length := by omega
        have i2 : 0 ≤ (k : Int) ∧ (k : Int) < O2.length := by omega
        have i3 : InI64 ((k : Int) + 1) := by unfold InI64; omega
        have hRs : R ++ [(O[k], O2[k])] = (O.zip O2).take (k + 1) := by rw [hR, zip_succ h1 h2]
        simp only [VCA, simprocAttr, encL, MCA, h1, h2, i1, i2, i3, sc_0, sc_1, sc_20, lp_len, lp_app, lp_imv, lp_one, lp_sok]
        exact ⟨⟨by omega, by omega⟩, backTo_of ((k + 1, R ++ [(O[k], O2[k])]), _) ⟨h1, hRs⟩ (by simp only []; omega) (ent_of _ [] rfl rfl (by simp only [VCA, simprocAttr, encL, MCA, lp_imv, lp_len, List.flatMap_nil, List.length_append, List.length_cons, List.length_nil, Nat.reduceAdd]))⟩
      have hk' : k = O.length := by omega
      subst hk'
      rw [List.take_of_length_le (by rw [List.length_zip]; omega)] at hR
      clear h hk
      simp only [VCA, simprocAttr, encL, MCA]
      cases c0 : decide ((a.elem.length : Int) = 0)
      case true =>
        have he0 : a.elem.length = 0 := by have := of_decide_eq_true c0; omega
        rw [subH_none he0, List.append_nil, ← hR]
        simp only [VCA, simprocAttr, encL, MCA, c0, lp_len, lp_imv, lp_one, lp_snap, lp_take (Nat.le_refl _)]
      have hp : 0 < a.elem.length := by have := of_decide_eq_false c0; omega
      have hp2 : 0 < b.elem.length := by omega
      have p1 : (0 : Int) < a.elem.length := by omega
      have p2 : (0 : Int) < b.elem.length := by omega
      have f1 := rt_first hp
      have f2 := rt_first hp2
      have hx := hc _ (List.getElem_mem hp)
      have hxy : sameB a.elem[0] b.elem[0] = true := sameL_0 s4 hp hp2
      rw [subH_pos hp hp2, ← hR]
      simp only [VCA, simprocAttr, encL, MCA, c0, b4, p1, p2, f1, f2, hp, hp2]
    · have hdb := deep_same d _ _ hxy hx
      refine callV_of (rregs_ret d a.elem[0] (by omega) hx) (by first | exact .inr rfl | exact .inl rfl) ?_
      simp only [VCA, simprocAttr, encL, MCA, c0, b4, p1, p2, f1, f2, hp, hp2]
      refine callV_of (rregs_ret d b.elem[0] (by omega) hdb) (by first | exact .inr rfl | exact .inl rfl) ?_
      have hll := regS_len_same _ _ hxy
      have hrl := reg_len d _ hx
      generalize regS a.elem[0] = r at *
      generalize regS b.elem[0] = s at *
      simp only [VCA, simprocAttr, encL, MCA]
      refine loop_vcg (ι := (Nat × List (Int × Int)) × (Nat → Nat)) (fun y => stO [(5, .own 2 y.1.2.length (y.1.2.flatMap cP)), (10, .val (encL cI r)), (11, .val (encL cI s)), (12, .val (.int .i64 y.1.1))] y.2)
        (fun y => y.1.1 ≤ r.length ∧ y.1.2 = R ++ bothS (r.take y.1.1) (s.take y.1.1)) (fun y => r.length - y.1.1) ((0, R), _) ⟨Nat.zero_le _, by simp [bothS]⟩ (ent_of _ [] rfl rfl (by simp only [VCA, simprocAttr, encL, MCA, lp_imv, lp_len, List.flatMap_nil, List.length_append, List.length_cons, List.length_nil, Nat.reduceAdd])) ?_
      rintro ⟨⟨k, R3⟩, c⟩ hk
      obtain ⟨hk, hR3⟩ : k ≤ r.length ∧ R3 = R ++ bothS (r.take k) (s.take k) := hk
      have hRl3 : R3.length ≤ 1 + 2 * k := by
        have := both_len (r.take k) (s.take k)
        rw [List.length_take] at this
        rw [hR3, List.length_append]
        omega
      simp only [VCA, simprocAttr, encL, MCA]
      cases b1 : decide ((k : Int) < r.length) <;> simp only [VCA, simprocAttr, encL, MCA, b1]
      · have hk' : k = r.length := by have := of_decide_eq_false b1; omega
        subst hk'
        rw [List.take_length, List.take_of_length_le (by omega)] at hR3
        simp only [VCA, simprocAttr, encL, MCA, lp_imv, lp_len, lp_one, lp_snap, lp_take (Nat.le_refl _)]
        rw [← hR3, ← List.length_append, ← hR3]
        exact ⟨rfl, rfl⟩
      · have h1 : k < r.length := by have := of_decide_eq_true b1; omega
        have h2 : k < s.length := by omega
        have b2 : decide ((k : Int) < s.length) = true := decide_eq_true (by omega)
        have i1 : 0 ≤ (k : Int) ∧ (k : Int) < r.length := by omega
        have i2 : 0 ≤ (k : Int) ∧ (k : Int) < s.length := by omega
        have i3 : InI64 ((k : Int) + 1) := by unfold InI64; omega
        have hRs : R3 ++ [(r[k], s[k]), (s[k], r[k])] = R ++ bothS (r.take (k + 1)) (s.take (k + 1)) := by rw [hR3, bothS_take h1 h2, List.append_assoc]
        simp only [VCA, simprocAttr, encL, MCA, b2, h1, h2, i1, i2, i3, sc_0, sc_1, sc_20, sc_40, sc_42, lp_len, lp_app2, lp_imv, lp_one, lp_sok]
        exact ⟨⟨by omega, by omega⟩, backTo_of ((k + 1, R3 ++ [(r[k], s[k]), (s[k], r[k])]), _) ⟨h1, hRs⟩ (by simp only []; omega) (ent_of _ [] rfl rfl (by simp only [VCA, simprocAttr, encL, MCA, lp_imv, lp_len, List.flatMap_nil, List.length_append, List.length_cons, List.length_nil, Nat.reduceAdd]))⟩
    · have hsl := sub_len d a.elem[0] b.elem[0] hx
      have hi := ih a.elem[0] b.elem[0] (by omega) hx
      rw [subT, if_pos hxy] at hi
      refine callV_of hi (by first | exact .inr rfl | exact .inl rfl) ?_
      generalize subS a.elem[0] b.elem[0] = S at *
      have hq : (R ++ S).length * 2 ≤ (R.length + S.length) * 2 := by rw [List.length_append]; omega
      simp only [VCA, simprocAttr, encL, MCA, lp_len, lp_cat, lp_imv, lp_one, lp_snap, lp_sok, lp_take hq, lp_take (Nat.le_refl _), List.length_append]
      exact ⟨by omega, by omega⟩

theorem subT_len (d : Nat) (a b : RT) (h : deepB d a = false) : (subT a b).length ≤ 140 * d := by
  unfold subT
  split
  · exact sub_len d a b h
  · simp

theorem two_fill (a b : RT) : setCells (setCells [V.int IntKind.i64 0, V.str { data := #[] }, V.e0, V.e0, V.int IntKind.i64 0, V.str { data := #[] }, V.e0, V.e0] 0 a.cells) 4 b.cells = [a, b].flatMap RT.cells := by
  simp [setCells, RT.cells_eq]
theorem one_fill (a : RT) : setCells [V.int IntKind.i64 0, V.str { data := #[] }, V.e0, V.e0] 0 a.cells = a.cells := setCells_all (by rw [RT.len]; rfl)

end Go.Proofs.YtgpeaibhhonikaaGreatDoor
