/-
  Fo Tyk FrL8 Tyo: put together.
-/
import Derived.Test.YtgpeaibhhonikaaGreatDoorShr
import Derived.Test.YtgpeaibhhonikaaGreatDoorProg
import Derived.Test.YtgpeaibhhonikaaGreatDoorLgP
import Derived.Test.YtgpeaibhhonikaaGreatDoorTQc
import Derived.Test.YtgpeaibhhonikaaGreatDoorTQb
namespace Go.Proofs.YtgpeaibhhonikaaGreatDoor
open Go Go.Lg Go.Lg.Sh
set_option maxRecDepth 100000

def lco40 : LC := .seq (.rego 0 [o 3 1, b0 4]) (.keep [0, 3] (.seq (.regb 1 [⟨false, ⟨some 10, .iaA 2 1 (.tmp 3) (.con (.int .i64 0)), none⟩⟩, ⟨false, l 11 1 10⟩, ⟨true, ⟨some 12, .bsl 1 [.int .i64 0] [⟨0, 1, .tmp 11⟩], none⟩⟩, ⟨false, m 5 12⟩]) (.keep [0, 3, 5] (.seq (.seq (.rego 2 [i 6 0]) (.keep [0, 3, 5, 6] (.block 0 (.loop (.seq (.seq (.rego 3 [m 13 6, m 14 5, n 15 14, s 16 13 15]) (.keep [0, 3, 5, 6, 16] (.cond (.tmp 16) .skip (.exit 0)))) (.keep [0, 3, 5, 6] (.seq (.block 1 (.seq (.seq (.reg 5 [m 19 5, m 20 6, x 21 1 19 20, l 22 1 21, ⟨some 23, .iaA 2 1 (.tmp 3) (.con (.int .i64 1)), none⟩, l 24 1 23, E 25 22 24]) (.keep [0, 3, 5, 6, 25] (.cond (.tmp 25) (.keep [] (.seq (.rego 6 [b1 4]) .ret)) .skip))) (.keep [0, 3, 5, 6] (.seq (.rego 7 [i 7 0]) (.keep [0, 3, 5, 6, 7] (.block 2 (.loop (.seq (.seq (.rego 8 [m 26 7, m 27 0, n 28 27, s 29 26 28]) (.keep [0, 3, 5, 6, 7, 29] (.cond (.tmp 29) .skip (.exit 2)))) (.keep [0, 3, 5, 6, 7] (.seq (.block 3 (.seq (.seq (.reg 10 [m 32 0, m 33 7, x 34 2 32 33, ⟨some 35, .iaA 2 1 (.tmp 34) (.con (.int .i64 0)), none⟩, l 36 1 35, m 37 5, m 38 6, x 39 1 37 38, l 40 1 39, ⟨some 41, .bin .neq (.tmp 36) (.tmp 40), none⟩]) (.keep [0, 3, 5, 6, 7, 41] (.cond (.tmp 41) (.exit 3) .skip))) (.keep [0, 3, 5, 6, 7] (.seq (.rego 11 [b0 8]) (.keep [0, 3, 5, 6, 7, 8] (.seq (.seq (.rego 12 [i 9 0]) (.keep [0, 3, 5, 6, 7, 8, 9] (.block 4 (.loop (.seq (.seq (.rego 13 [m 42 9, m 43 5, n 44 43, s 45 42 44]) (.keep [0, 3, 5, 6, 7, 8, 9, 45] (.cond (.tmp 45) .skip (.exit 4)))) (.keep [0, 3, 5, 6, 7, 8, 9] (.seq (.block 5 (.reg 15 [m 48 8, m 49 48, g 49 (m 50 5), g 49 (m 51 9), g 49 (x 52 1 50 51), g 49 (l 53 1 52), g 49 (m 54 0), g 49 (m 55 7), g 49 (x 56 2 54 55), ⟨some 57, .iaA 2 1 (.tmp 56) (.con (.int .i64 1)), some ⟨49, false⟩⟩, g 49 (l 58 1 57), g 49 (E 59 53 58), q 60 49 59, m 8 60])) (.keep [0, 3, 5, 6, 7, 8, 9] (.rego 14 [m 46 9, a 47 46 1, m 9 47]))))))))) (.keep [0, 3, 5, 6, 7, 8] (.seq (.rego 16 [m 61 8, u 62 61]) (.keep [0, 3, 5, 6, 7, 62] (.cond (.tmp 62) (.keep [0, 3, 5, 6, 7] (.rego 17 [m 63 5, m 64 0, m 65 7, x 66 2 64 65, ⟨some 67, .iaA 2 1 (.tmp 66) (.con (.int .i64 1)), none⟩, l 68 1 67, ⟨some 69, .bsl 1 [.int .i64 0] [⟨0, 1, .tmp 68⟩], none⟩, ⟨some 70, .app 1 8 (.tmp 63) (.tmp 69), none⟩, m 5 70])) .skip)))))))))) (.keep [0, 3, 5, 6, 7] (.rego 9 [m 30 7, a 31 30 1, m 7 31])))))))))))) (.keep [0, 3, 5, 6] (.rego 4 [m 17 6, a 18 17 1, m 6 18]))))))))) (.keep [] (.seq (.rego 18 [b0 4]) .ret))))))
theorem fdo40 : fnData Tryz.prog 40 = some (71, lco40.erase, [LRV.tmp 4]) := by kernel_rfl

end Go.Proofs.YtgpeaibhhonikaaGreatDoor

set_option linter.unusedSimpArgs false
set_option linter.unusedVariables false
namespace Go.Proofs.YtgpeaibhhonikaaGreatDoor
open Go Go.Lg Go.RowKit
set_option linter.unusedVariables false
set_option linter.unusedSimpArgs false
set_option maxRecDepth 20000

theorem nodup_len : ∀ (g s : List Int), g.Nodup → (∀ x ∈ g, x ∈ s) → g.length ≤ s.length
  | [], s, _, _ => Nat.zero_le _
  | x :: g, s, h, hs => by
    rw [List.nodup_cons] at h
    have hx : x ∈ s := hs x (List.mem_cons_self ..)
    have h1 := nodup_len g (s.erase x) h.2 fun y hy => by
      refine (List.mem_erase_of_ne ?_).2 (hs y (List.mem_cons_of_mem _ hy))
      rintro rfl; exact h.1 hy
    rw [List.length_erase_of_mem hx] at h1
    have h2 : 0 < s.length := List.length_pos_of_mem hx
    rw [List.length_cons]; omega

/-- What the search knows. -/
structure Fol (l : List (Int × Int)) (p : Int × Int) (got : List Int) (i : Nat) : Prop where
  nd : got.Nodup
  sub : ∀ x ∈ got, x ∈ p.1 :: l.map (·.2)
  hd : got[0]? = some p.1
  ne : ∀ j, j < i → got[j]? ≠ some p.2
  clo : ∀ j, j < i → ∀ q ∈ l, got[j]? = some q.1 → q.2 ∈ got
theorem Fol.len {l : List (Int × Int)} {p : Int × Int} {got : List Int} {i : Nat} (h : Fol l p got i) : got.length ≤ l.length + 1 := by
  have := nodup_len got _ h.nd h.sub
  simpa using this
theorem Fol.snoc {l : List (Int × Int)} {p : Int × Int} {got : List Int} {i : Nat} (h : Fol l p got i) (hi : i ≤ got.length) {v : Int} (hv : v ∉ got) (hl : v ∈ l.map (·.2)) : Fol l p (got ++ [v]) i where
  nd := by
    rw [List.nodup_append]
    refine ⟨h.nd, by simp, fun a ha b hb => ?_⟩
    obtain rfl := List.mem_singleton.1 hb
    rintro rfl; exact hv ha
  sub := fun x hx => by
    rcases List.mem_append.1 hx with hx | hx
    · exact h.sub x hx
    · obtain rfl := List.mem_singleton.1 hx; exact List.mem_cons_of_mem _ hl
  hd := by
    have h0 := h.hd
    have : 0 < got.length := (List.getElem?_eq_some_iff.1 h0).1
    rw [List.getElem?_append_left this, h0]
  ne := fun j hj => by rw [List.getElem?_append_left (by omega)]; exact h.ne j hj
  clo := fun j hj q hq e => by
    rw [List.getElem?_append_left (by omega)] at e
    exact List.mem_append_left _ (h.clo j hj q hq e)
theorem Fol.step {l : List (Int × Int)} {p : Int × Int} {got : List Int} {i : Nat} (h : Fol l p got i) (hn : got[i]? ≠ some p.2) (hc : ∀ q ∈ l, got[i]? = some q.1 → q.2 ∈ got) : Fol l p got (i + 1) where
  nd := h.nd
  sub := h.sub
  hd := h.hd
  ne := fun j hj => by
    by_cases e : j = i
    · subst e; exact hn
    · exact h.ne j (by omega)
  clo := fun j hj q hq e => by
    by_cases e' : j = i
    · subst e'; exact hc q hq e
    · exact h.clo j (by omega) q hq e
theorem Fol.done {l : List (Int × Int)} {p : Int × Int} {got : List Int} (h : Fol l p got got.length) (hv : Via l p) : False := by
  obtain ⟨x, h1, h2⟩ := hv
  have h0 : 0 < got.length := (List.getElem?_eq_some_iff.1 h.hd).1
  have hx := h.clo 0 h0 _ h1 h.hd
  obtain ⟨m, hm, rfl⟩ := List.getElem_of_mem hx
  have hp := h.clo m hm _ h2 (List.getElem?_eq_getElem hm)
  obtain ⟨n, hn, he⟩ := List.getElem_of_mem hp
  exact h.ne n hn (by rw [List.getElem?_eq_getElem hn, he])
theorem Fol.start (l : List (Int × Int)) (p : Int × Int) : Fol l p [p.1] 0 where
  nd := by simp
  sub := fun x hx => by rw [List.mem_singleton.1 hx]; exact List.mem_cons_self ..
  hd := rfl
  ne := fun j hj => absurd hj (Nat.not_lt_zero _)
  clo := fun j hj => absurd hj (Nat.not_lt_zero _)

theorem mem_take_succ {l : List Int} {k : Nat} (h : k < l.length) (v : Int) : decide (v ∈ l.take (k + 1)) = (decide (v ∈ l.take k) || decide (l[k] = v)) := by
  rw [List.take_succ_eq_append_getElem h, Bool.eq_iff_iff]
  simp only [decide_eq_true_eq, List.mem_append, List.mem_singleton, Bool.or_eq_true]
  constructor
  · rintro (h | h)
    · exact .inl h
    · exact .inr h.symm
  · rintro (h | h)
    · exact .inl h
    · exact .inr h.symm

theorem ld2_0 (a b : V) : ldV false 1 [a, b] 0 = some a := rfl
theorem ld2_1 (a b : V) : ldV false 1 [a, b] 1 = some b := rfl
theorem lp_l0 {l : List (Int × Int)} {k : Nat} (h : k < l.length) : ldV false 1 (l.flatMap cP) (k * 2) = some (.int .i64 l[k].1) := by
  rw [ld_flat0 (f := cP) cP_len (agg := false) h (n := 1) (by decide) (by decide)]; rfl
theorem lp_l1 {l : List (Int × Int)} {k : Nat} (h : k < l.length) : ldV false 1 (l.flatMap cP) (k * 2 + 1) = some (.int .i64 l[k].2) := by
  rw [ld_flat (f := cP) cP_len (agg := false) h (j := 1) (n := 1) (by decide) (by decide)]; rfl
set_option maxHeartbeats 2000000 in
theorem follows_ret (l : List (Int × Int)) (hl : l.length ≤ 100000) (p : Int × Int) (hv : Via l p) : PRet Tryz.prog 40 [encL cP l, .agg (cP p)] (.bool true) := by
  refine pret_intro fdo40 (by simp) ?_
  simp only [lco40, VCA, simprocAttr, encL, MCA, cP, ld2_0, ld2_1]
  refine loop_vcg (ι := (Nat × List Int) × (Nat → Nat)) (fun y => stO [(0, .val (encL cP l)), (3, .box (cP p)), (5, .own 1 y.1.2.length (y.1.2.flatMap cI)), (6, .val (.int .i64 y.1.1))] y.2)
    (fun y => y.1.1 ≤ y.1.2.length ∧ Fol l p y.1.2 y.1.1) (fun y => l.length + 2 - y.1.1) ((0, [p.1]), _) ⟨Nat.zero_le _, Fol.start l p⟩ (ent_of _ [] rfl rfl (by simp only [VCA, simprocAttr, encL, MCA, cP, lp_imv]; rfl)) ?_
  rintro ⟨⟨i, got⟩, c⟩ hi
  obtain ⟨hi, hF⟩ : i ≤ got.length ∧ Fol l p got i := hi
  have hgl := hF.len
  simp only [VCA, simprocAttr, encL, MCA]
  refine condD_of (fun h => ?_) (fun h => ?_)
  case refine_2 =>
    have hi' : i = got.length := by omega
    subst hi'
    exact (hF.done hv).elim
  have hi' : i < got.length := by omega
  have i1 : 0 ≤ (i : Int) ∧ (i : Int) < got.length := by omega
  have i3 : InI64 ((i : Int) + 1) := by unfold InI64; omega
  simp only [VCA, simprocAttr, encL, MCA, hi', i1, i3, cP, ld2_0, ld2_1]
  cases b1 : decide (got[i] = p.2) <;> simp only [VCA, simprocAttr, encL, MCA, b1]
  have hne : got[i]? ≠ some p.2 := by
    rw [List.getElem?_eq_getElem hi']
    intro e; exact of_decide_eq_false b1 (Option.some.inj e)
  obtain ⟨g, hg⟩ : ∃ g, got[i]? = some g := ⟨_, List.getElem?_eq_getElem hi'⟩
  have hgi : got[i] = g := by rw [List.getElem?_eq_getElem hi'] at hg; exact Option.some.inj hg
  have hng : g ≠ p.2 := fun e => hne (by rw [hg, e])
  refine loop_vcg (ι := (Nat × List Int) × (Nat → Nat)) (fun y => stO [(0, .val (encL cP l)), (3, .box (cP p)), (5, .own 1 y.1.2.length (y.1.2.flatMap cI)), (6, .val (.int .i64 i)), (7, .val (.int .i64 y.1.1))] y.2)
    (fun y => y.1.1 ≤ l.length ∧ (i < y.1.2.length ∧ y.1.2[i]? = some g) ∧ Fol l p y.1.2 i ∧ ∀ q ∈ l.take y.1.1, g = q.1 → q.2 ∈ y.1.2) (fun y => l.length - y.1.1) ((0, got), _) ⟨Nat.zero_le _, ⟨hi', hg⟩, hF, fun q hq => by simp at hq⟩ (ent_of _ [] rfl rfl (by simp only [VCA, simprocAttr, encL, MCA, cP, lp_imv])) ?_
  clear hi hF hgl h hi' i1 hg hgi b1
  rintro ⟨⟨k, G⟩, c⟩ hk
  obtain ⟨hk, ⟨hi', hg⟩, hF, hq⟩ : k ≤ l.length ∧ (i < G.length ∧ G[i]? = some g) ∧ Fol l p G i ∧ ∀ q ∈ l.take k, g = q.1 → q.2 ∈ G := hk
  have hGl := hF.len
  simp only [VCA, simprocAttr, encL, MCA]
  refine condD_of (fun h => ?_) (fun h => ?_)
  case refine_2 =>
    have hk' : k = l.length := by omega
    subst hk'
    rw [List.take_length] at hq
    simp only [VCA, simprocAttr, encL, MCA, i3]
    refine backTo_of ((i + 1, G), _) ⟨hi', hF.step (by rw [hg]; intro e; exact hng (Option.some.inj e)) (fun q h1 h2 => hq q h1 (by rw [hg] at h2; exact Option.some.inj h2))⟩ (by simp only []; omega) (ent_of _ [] rfl rfl (by simp only [VCA, simprocAttr, encL, MCA, cP, lp_imv]))
  have hk' : k < l.length := by omega
  have k1 : 0 ≤ (k : Int) ∧ (k : Int) < l.length := by omega
  have k3 : InI64 ((k : Int) + 1) := by unfold InI64; omega
  have i1 : 0 ≤ (i : Int) ∧ (i : Int) < G.length := by omega
  have hGi : G[i] = g := by rw [List.getElem?_eq_getElem hi'] at hg; exact Option.some.inj hg
  simp only [VCA, simprocAttr, encL, MCA, hk', k1, i1, hi', lp_l0, lp_l1, hGi]
  have hqn : ∀ (G' : List Int), (∀ x ∈ G, x ∈ G') → (g = l[k].1 → l[k].2 ∈ G') → ∀ q ∈ l.take (k + 1), g = q.1 → q.2 ∈ G' := by
    intro G' hs hl2 q hq1 hq2
    rw [List.take_succ_eq_append_getElem hk'] at hq1
    rcases List.mem_append.1 hq1 with hq1 | hq1
    · exact hs _ (hq q hq1 hq2)
    · obtain rfl := List.mem_singleton.1 hq1; exact hl2 hq2
  cases b2 : decide (l[k].1 = g) <;> simp only [VCA, simprocAttr, encL, MCA, b2, k3]
  · exact backTo_of ((k + 1, G), _) ⟨hk', ⟨hi', hg⟩, hF, hqn G (fun x h => h) (fun e => absurd e.symm (of_decide_eq_false b2))⟩ (by simp only []; omega) (ent_of _ [] rfl rfl (by simp only [VCA, simprocAttr, encL, MCA, cP, lp_imv]))
  have hg1 : l[k].1 = g := of_decide_eq_true b2
  obtain ⟨v, hv2⟩ : ∃ v, l[k].2 = v := ⟨_, rfl⟩
  have hvm : v ∈ l.map (·.2) := by rw [← hv2]; exact List.mem_map.2 ⟨_, List.getElem_mem hk', rfl⟩
  refine loop_vcg (ι := (Nat × Bool) × (Nat → Nat)) (fun y => stO [(0, .val (encL cP l)), (3, .box (cP p)), (5, .own 1 G.length (G.flatMap cI)), (6, .val (.int .i64 i)), (7, .val (.int .i64 k)), (8, .val (.bool y.1.2)), (9, .val (.int .i64 y.1.1))] y.2)
    (fun y => y.1.1 ≤ G.length ∧ y.1.2 = decide (v ∈ G.take y.1.1)) (fun y => G.length - y.1.1) ((0, false), _) ⟨Nat.zero_le _, by simp⟩ (ent_of _ [] rfl rfl (by simp only [VCA, simprocAttr, encL, MCA, cP, lp_imv])) ?_
  rintro ⟨⟨j, b⟩, c⟩ hj
  obtain ⟨hj, hb⟩ : j ≤ G.length ∧ b = decide (v ∈ G.take j) := hj
  simp only [VCA, simprocAttr, encL, MCA]
  refine condD_of (fun h => ?_) (fun h => ?_)
  · have hj' : j < G.length := by omega
    have j1 : 0 ≤ (j : Int) ∧ (j : Int) < G.length := by omega
    have j3 : InI64 ((j : Int) + 1) := by unfold InI64; omega
    have hm := mem_take_succ hj' v
    rw [← hb] at hm
    simp only [VCA, simprocAttr, encL, MCA, hj', j1, j3, hk', k1, lp_l0, lp_l1, hv2]
    cases b <;> simp only [VCA, simprocAttr, encL, MCA, hj', j1, j3, hk', k1, lp_l0, lp_l1, hv2]
    · rw [Bool.false_or] at hm
      exact backTo_of ((j + 1, decide (G[j] = v)), _) ⟨hj', hm.symm⟩ (by simp only []; omega) (ent_of _ [] rfl rfl (by simp only [VCA, simprocAttr, encL, MCA, cP, lp_imv]))
    · rw [Bool.true_or] at hm
      exact backTo_of ((j + 1, true), _) ⟨hj', hm.symm⟩ (by simp only []; omega) (ent_of _ [] rfl rfl (by simp only [VCA, simprocAttr, encL, MCA, cP, lp_imv]))
  have hj' : j = G.length := by omega
  subst hj'
  rw [List.take_length] at hb
  simp only [VCA, simprocAttr, encL, MCA, k3]
  cases b <;> simp only [VCA, simprocAttr, encL, MCA, k3, hk', k1, lp_l0, lp_l1, hv2]
  · have hvn : v ∉ G := of_decide_eq_false hb.symm
    have hG1 := hF.snoc (Nat.le_of_lt hi') hvn hvm
    refine ⟨?_, backTo_of ((k + 1, G ++ [v]), _) ⟨hk', ⟨by rw [List.length_append]; omega, by rw [List.getElem?_append_left hi', hg]⟩, hG1, hqn _ (fun x h => List.mem_append_left _ h) (fun _ => by rw [hv2]; simp)⟩ (by simp only []; omega) (ent_of _ [] rfl rfl (by simp only [VCA, simprocAttr, encL, MCA, cP, lp_imv]))⟩
    omega
  · have hvi : v ∈ G := of_decide_eq_true hb.symm
    exact backTo_of ((k + 1, G), _) ⟨hk', ⟨hi', hg⟩, hF, hqn G (fun x h => h) (fun _ => by rw [hv2]; exact hvi)⟩ (by simp only []; omega) (ent_of _ [] rfl rfl (by simp only [VCA, simprocAttr, encL, MCA, cP, lp_imv]))
end Go.Proofs.YtgpeaibhhonikaaGreatDoor

namespace Go.Proofs.YtgpeaibhhonikaaGreatDoor
open Go Go.Lg Go.Lg.Sh
set_option maxRecDepth 100000

def lc8 : LC := .seq (.rego 0 [o 3 0, b0 6]) (.keep [1, 2, 3] (.seq (.seq (.rego 1 [L 15 4 3, ⟨some 16, .call 15 [.tmp 15, .con (.int .i64 20)], none⟩, m 17 16, g 17 (m 18 1), g 17 (n 19 18), ⟨some 20, .bin .gtr (.tmp 19) (.con (.int .i64 70)), some ⟨17, false⟩⟩, q 21 17 20, m 22 21, g 22 (m 23 2), g 22 (n 24 23), ⟨some 25, .bin .gtr (.tmp 24) (.con (.int .i64 70)), some ⟨22, false⟩⟩, q 26 22 25, m 27 26, g 27 (L 28 4 3), g 27 (c 29 19 28), g 27 (n 30 29), ⟨some 31, .bin .gtr (.tmp 30) (.con (.int .i64 60)), some ⟨27, false⟩⟩, q 32 27 31]) (.keep [1, 2, 3, 32] (.cond (.tmp 32) (.keep [] (.seq (.rego 2 [⟨some 33, .call 17 [], none⟩, m 6 33]) .ret)) .skip))) (.keep [1, 2, 3] (.seq (.rego 3 [L 34 4 3, L 35 4 3, C 36 37 34 35, m 7 36]) (.keep [1, 2, 3, 7] (.seq (.seq (.rego 4 [i 8 0]) (.keep [1, 2, 3, 7, 8] (.block 0 (.loop (.seq (.seq (.rego 5 [m 37 8, m 38 7, n 39 38, s 40 37 39]) (.keep [1, 2, 3, 7, 8, 40] (.cond (.tmp 40) .skip (.exit 0)))) (.keep [1, 2, 3, 7, 8] (.seq (.block 1 (.seq (.reg 7 [m 43 7, m 44 8, x 45 2 43 44, ⟨some 46, .iaA 2 1 (.tmp 45) (.con (.int .i64 0)), none⟩, l 47 1 46, m 48 7, m 49 8, x 50 2 48 49, ⟨some 51, .iaA 2 1 (.tmp 50) (.con (.int .i64 1)), none⟩, l 52 1 51, ⟨some 53, .bin .neq (.tmp 47) (.tmp 52), none⟩]) (.keep [1, 2, 3, 7, 8, 53] (.cond (.tmp 53) (.keep [] (.seq (.rego 8 [b0 6]) .ret)) .skip)))) (.keep [1, 2, 3, 7, 8] (.rego 6 [m 41 8, a 42 41 1, m 8 42]))))))))) (.keep [1, 2, 3] (.seq (.regf 9 [0, 0, 0, 6, 0, 0, 62, 0, 0, 0, 1023, 2047, 4095] [L 54 4 3, L 55 4 3, m 56 1, C 57 25 55 56, L 58 4 3, m 59 2, C 60 25 58 59, ⟨some 9, .new [.int .i64 0, .str { data := #[] }, .e0, .e0], none⟩, ⟨some 10, .new [.int .i64 0, .str { data := #[] }, .e0, .e0], none⟩, ⟨some 11, .new [.int .i64 0, .str { data := #[] }, .e0, .e0], none⟩, W 4 9 54, W 4 10 57, W 4 11 60]) (.keep [9, 10, 11] (.seq (.regf 10 [0, 0, 0, 6, 15, 0, 0, 127, 255, 511] [⟨some 61, .bsl 0 [] [], none⟩, L 62 4 9, L 63 4 10, C 64 37 62 63, ⟨some 65, .appE 2 16 (.tmp 61) (.tmp 64), none⟩, L 66 4 10, L 67 4 11, C 68 37 66 67, ⟨some 69, .app 2 16 (.tmp 65) (.tmp 68), none⟩, m 12 69]) (.keep [9, 11, 12] (.seq (.rego 11 [L 70 4 9, L 71 4 11, C 72 37 70 71, m 13 72]) (.keep [12, 13] (.seq (.seq (.rego 12 [i 14 0]) (.keep [12, 13, 14] (.block 2 (.loop (.seq (.seq (.rego 13 [m 73 14, m 74 13, n 75 74, s 76 73 75]) (.keep [12, 13, 14, 76] (.cond (.tmp 76) .skip (.exit 2)))) (.keep [12, 13, 14] (.seq (.block 3 (.seq (.rego 15 [m 79 12, m 80 13, m 81 14, x 82 2 80 81, L 83 2 82, C 84 40 79 83, u 85 84]) (.keep [12, 13, 14, 85] (.cond (.tmp 85) (.keep [] (.seq (.rego 16 [b0 6]) .ret)) .skip)))) (.keep [12, 13, 14] (.rego 14 [m 77 14, a 78 77 1, m 14 78]))))))))) (.keep [] (.seq (.rego 17 [⟨some 86, .call 17 [], none⟩, m 6 86]) .ret))))))))))))))))
theorem fd8 : fnData Tryz.prog 8 = some (87, lc8.erase, [LRV.tmp 6]) := by kernel_rfl

end Go.Proofs.YtgpeaibhhonikaaGreatDoor

set_option linter.unusedSimpArgs false
set_option linter.unusedVariables false
namespace Go.Proofs.YtgpeaibhhonikaaGreatDoor
open Go Go.Lg Go.RowKit
set_option linter.unusedVariables false
set_option linter.unusedSimpArgs false
set_option maxRecDepth 20000

theorem subT_subst (a b : List Int) (t : RT) : subT (substS a t) (substS b t) = subS (substS a t) (substS b t) := by rw [subT, if_pos (same_subst a b t)]

theorem cP_sok (H : Heap) (d : Nat) (p : Int × Int) : (cP p).all (sok H (d + 1)) = true := rfl
theorem cP_snap (H : Heap) (d : Nat) (p : Int × Int) : (cP p).map (snap H (d + 1)) = cP p := rfl
set_option maxHeartbeats 4000000 in
theorem typesOrder_ret (t : RT) (ht : t.ok) (m : List Int) (hm : m.length ≤ maxLen) (n : List Int) (hn : n.length ≤ maxLen) : PRet Tryz.prog 8 [.agg t.cells, encL cI m, encL cI n] (.bool true) := by
  refine pret_intro fd8 (by simp) ?_
  simp only [lc8, VCA, simprocAttr, encL, MCA]
  refine callX_of (deep_ret 20 t ht (by decide)) (by first | exact .inr rfl | exact .inl rfl) ?_
  simp only [VCA, simprocAttr, encL, MCA]
  cases hd : deepB 20 t <;> simp only [VCA, simprocAttr, encL, MCA, hd]
  case true =>
    refine callX_of told14_ret (.inl rfl) ?_
    simp only [VCA, simprocAttr, encL, MCA]
  cases hm70 : decide ((70 : Int) < m.length) <;> simp only [VCA, simprocAttr, encL, MCA, hm70]
  case true =>
    refine callX_of told14_ret (.inl rfl) ?_
    simp only [VCA, simprocAttr, encL, MCA]
  cases hn70 : decide ((70 : Int) < n.length) <;> simp only [VCA, simprocAttr, encL, MCA, hn70]
  case true =>
    refine callX_of told14_ret (.inl rfl) ?_
    simp only [VCA, simprocAttr, encL, MCA]
  refine callX_of (rregs_ret 20 t (by decide) hd) (by first | exact .inr rfl | exact .inl rfl) ?_
  simp only [VCA, simprocAttr, encL, MCA]
  cases hr60 : decide ((60 : Int) < (regS t).length) <;> simp only [VCA, simprocAttr, encL, MCA, hr60]
  case true =>
    refine callX_of told14_ret (.inl rfl) ?_
    simp only [VCA, simprocAttr, encL, MCA]
  clear hr60
  have hm1 : m.length ≤ 1000 := by have := of_decide_eq_false hm70; omega
  have hn1 : n.length ≤ 1000 := by have := of_decide_eq_false hn70; omega
  refine callX_of (tsub_ret 20 t t (by decide) hd) (by first | exact .inr rfl | exact .inl rfl) ?_
  have hL : subT t t = subS t t := by rw [subT, if_pos (same_self t)]
  have hself : ∀ p ∈ subT t t, p.1 = p.2 := by rw [hL]; exact subS_self t
  have hLl := subT_len 20 t t hd
  generalize subT t t = L at *
  simp only [VCA, simprocAttr, encL, MCA]
  refine loop_vcg (ι := Nat × (Nat → Nat)) (fun y => stO [(1, .val (encL cI m)), (2, .val (encL cI n)), (3, .box t.cells), (7, .val (encL cP L)), (8, .val (.int .i64 y.1))] y.2)
    (fun y => y.1 ≤ L.length) (fun y => L.length - y.1) (0, _) (Nat.zero_le _) (ent_of _ [] rfl rfl (by simp only [VCA, simprocAttr, encL, MCA, lp_imv])) ?_
  rintro ⟨k, c⟩ hk
  have hk : k ≤ L.length := hk
  simp only [VCA, simprocAttr, encL, MCA]
  refine condD_of (fun h => ?_) (fun h => ?_)
  · have hk' : k < L.length := by omega
    have k1 : 0 ≤ (k : Int) ∧ (k : Int) < L.length := by omega
    have k3 : InI64 ((k : Int) + 1) := by unfold InI64; omega
    obtain ⟨z, hz⟩ : ∃ z, L[k].2 = z := ⟨_, rfl⟩
    have hz1 : L[k].1 = z := (hself _ (List.getElem_mem hk')).trans hz
    simp only [VCA, simprocAttr, encL, MCA, hk', k1, lp_l0, lp_l1, hz, hz1, k3]
    exact backTo_of (k + 1, _) hk' (by simp only []; omega) (ent_of _ [] rfl rfl (by simp only [VCA, simprocAttr, encL, MCA, lp_imv]))
  clear h hk
  simp only [VCA, simprocAttr, encL, MCA]
  have d1 := deep_subst m 20 t hd
  have d2 := deep_subst n 20 t hd
  refine callV_of (rsubst_ret m hm1 20 t (by decide) hd) (by first | exact .inr rfl | exact .inl rfl) ?_
  simp only [VCA, simprocAttr, encL, MCA, one_fill]
  refine callV_of (rsubst_ret n hn1 20 t (by decide) hd) (by first | exact .inr rfl | exact .inl rfl) ?_
  simp only [VCA, simprocAttr, encL, MCA, one_fill]
  have e1 : subS t (substS n t) = subT t (substS n t) := by have := subT_subst [] n t; rw [subst_nil] at this; exact this.symm
  have e2 : subS t (substS m t) = subT t (substS m t) := by have := subT_subst [] m t; rw [subst_nil] at this; exact this.symm
  have hvia := subS_via [] m n t
  rw [subst_nil, ← subT_subst, e1, e2] at hvia
  have l1 := subT_len 20 t (substS m t) hd
  have l2 := subT_len 20 (substS m t) (substS n t) d1
  have l3 := subT_len 20 t (substS n t) hd
  have s1 := tsub_ret 20 t (substS m t) (by decide) hd
  have s2 := tsub_ret 20 (substS m t) (substS n t) (by decide) d1
  have s3 := tsub_ret 20 t (substS n t) (by decide) hd
  clear e1 e2
  generalize subT t (substS m t) = A at *
  generalize subT (substS m t) (substS n t) = B at *
  generalize subT t (substS n t) = Y at *
  refine callV_of s1 (by first | exact .inr rfl | exact .inl rfl) ?_
  simp only [VCA, simprocAttr, encL, MCA, one_fill, lp_len, lp_one]
  refine And.intro (by omega) ?_
  refine callV_of s2 (by first | exact .inr rfl | exact .inl rfl) ?_
  simp only [VCA, simprocAttr, encL, MCA, one_fill, lp_len, lp_one, lp_cat]
  refine And.intro (by omega) ?_
  refine callX_of s3 (by first | exact .inr rfl | exact .inl rfl) ?_
  simp only [VCA, simprocAttr, encL, MCA]
  rw [← List.length_append]
  have hABl : (A ++ B).length ≤ 100000 := by rw [List.length_append]; omega
  generalize A ++ B = X at *
  refine loop_vcg (ι := Nat × (Nat → Nat)) (fun y => stO [(12, .own 2 X.length (X.flatMap cP)), (13, .val (encL cP Y)), (14, .val (.int .i64 y.1))] y.2)
    (fun y => y.1 ≤ Y.length) (fun y => Y.length - y.1) (0, _) (Nat.zero_le _) (ent_of _ [] rfl rfl (by simp only [VCA, simprocAttr, encL, MCA, lp_imv])) ?_
  rintro ⟨j, c⟩ hj
  have hj : j ≤ Y.length := hj
  simp only [VCA, simprocAttr, encL, MCA]
  refine condD_of (fun h => ?_) (fun h => ?_)
  · have hj' : j < Y.length := by omega
    have j1 : 0 ≤ (j : Int) ∧ (j : Int) < Y.length := by omega
    have j3 : InI64 ((j : Int) + 1) := by unfold InI64; omega
    simp only [VCA, simprocAttr, encL, MCA, hj', j1, lp_ld, lp_len, lp_sok, lp_snap, cP_sok, cP_snap, lp_take (Nat.le_refl _)]
    refine callX_of (follows_ret X hABl Y[j] (hvia _ (List.getElem_mem hj'))) (by first | exact .inr rfl | exact .inl rfl) ?_
    simp only [VCA, simprocAttr, encL, MCA, j3]
    exact backTo_of (j + 1, _) hj' (by simp only []; omega) (ent_of _ [] rfl rfl (by simp only [VCA, simprocAttr, encL, MCA, lp_imv]))
  simp only [VCA, simprocAttr, encL, MCA]
  refine callX_of told14_ret (.inl rfl) ?_
  simp only [VCA, simprocAttr, encL, MCA]
end Go.Proofs.YtgpeaibhhonikaaGreatDoor
