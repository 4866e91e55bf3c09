/-
  CheckKnown, whatever the world's choice: true.
-/
import Derived.Test.YtgpeaibhhonikaaGreatDoorCkb0
import Derived.Test.YtgpeaibhhonikaaGreatDoorCkb1
import Derived.Test.YtgpeaibhhonikaaGreatDoorCkb2
import Derived.Test.YtgpeaibhhonikaaGreatDoorCkb3
import Derived.Test.YtgpeaibhhonikaaGreatDoorCkb4
import Derived.Test.YtgpeaibhhonikaaGreatDoorCkb5
set_option linter.unusedSimpArgs false
set_option linter.unusedVariables false
namespace Go.Proofs.YtgpeaibhhonikaaGreatDoor
open Go Go.Lg Go.RowKit
set_option maxRecDepth 100000
theorem sk_all : ∀ n : Nat, n < 33 → skB n = true
  | 0, _ => ck0
  | 1, _ => ck1
  | 2, _ => ck2
  | 3, _ => ck3
  | 4, _ => ck4
  | 5, _ => ck5
  | 6, _ => ck6
  | 7, _ => ck7
  | 8, _ => ck8
  | 9, _ => ck9
  | 10, _ => ck10
  | 11, _ => ck11
  | 12, _ => ck12
  | 13, _ => ck13
  | 14, _ => ck14
  | 15, _ => ck15
  | 16, _ => ck16
  | 17, _ => ck17
  | 18, _ => ck18
  | 19, _ => ck19
  | 20, _ => ck20
  | 21, _ => ck21
  | 22, _ => ck22
  | 23, _ => ck23
  | 24, _ => ck24
  | 25, _ => ck25
  | 26, _ => ck26
  | 27, _ => ck27
  | 28, _ => ck28
  | 29, _ => ck29
  | 30, _ => ck30
  | 31, _ => ck31
  | 32, _ => ck32
  | n + 33, h => by omega
theorem sk_ch {K : St → Prop} {σ : St} {w : Int} (h0 : σ.tm 0 = .int .i64 w) (h3 : llen false (σ.tm 4) = .A True (.int .i64 33))
    (hK : ∀ (n : Nat) (σ' : St), n < 33 → σ'.H = σ.H → σ'.cnt = σ.cnt → (∀ k, k < 6 → σ'.tm k = σ.tm k) → σ'.tm 6 = .int .i64 n → K σ') : vopsM Tryz.prog 4 skOps 0 K σ := by
  obtain ⟨tm, H, cnt⟩ := σ
  have h0 : tm 0 = .int .i64 w := h0
  have h3 : llen false (tm 4) = .A True (.int .i64 33) := h3
  have hr : 0 ≤ (w.tmod 33 + 33).tmod 33 ∧ (w.tmod 33 + 33).tmod 33 < 33 := by
    have h1 : -33 < w.tmod 33 := by
      have := Int.lt_tmod_of_pos w (show (0:Int) < 33 by decide); omega
    have h2 := Int.tmod_lt_of_pos w (show (0:Int) < 33 by decide)
    exact ⟨Int.tmod_nonneg _ (by omega), Int.tmod_lt_of_pos _ (by decide)⟩
  have hi : InI64 (w.tmod 33 + 33) := by
    have h1 : -33 < w.tmod 33 := by
      have := Int.lt_tmod_of_pos w (show (0:Int) < 33 by decide); omega
    have h2 := Int.tmod_lt_of_pos w (show (0:Int) < 33 by decide)
    unfold InI64; omega
  obtain ⟨n, hn⟩ : ∃ n : Nat, (w.tmod 33 + 33).tmod 33 = n := ⟨_, (Int.toNat_of_nonneg hr.1).symm⟩
  simp only [skOps, vopsM_nil, vopsM_cons, vstepM_none, vresM_A, lop, Rd.get, lbin, St.put, dput_some, tupd_app, h0, h3, hn, hi, Nat.reduceEqDiff, reduceIte, reduceCtorEq, true_and, ne_eq, and_true]
  refine ⟨by decide, by decide, hK n _ (by omega) rfl rfl (fun k hk => ?_) ?_⟩
  · simp only [tupd_app]
    repeat' (first | rw [if_neg (by omega)] | rfl)
  · simp only [tupd_app, reduceIte]
theorem checkKnown_ret (w : Int) : PRet Tryz.prog 11 [.int .i64 w] (.bool true) := by
  refine pret_intro sk_fd (by simp) ?_
  rw [arg_den _ (by simp)]
  have hcl : ClOk Tryz.prog skC := clN_ok tbY_ok 60
  refine part_nm hcl (lit_kinds _) (n0 w) ?_
  refine part_nm hcl (lit_kinds _) (n1 w) ?_
  refine part_nm hcl (lit_kinds _) (n2 w) ?_
  refine part_nm hcl (lit_kinds _) (n3 w) ?_
  refine join_vcg (ι := Nat) (fun n => denq (fun _ => .junk) (frF (skA n) 0 .nil) sH) (fun n => n < 33) ?_ fun n hn => sk_case n (sk_all n hn)
  have e3 : llen false (sT w 4) = .A True (.int .i64 33) := by rw [t4 w]; exact t4l
  refine sk_ch (t0 w) e3 ?_
  intro n σ' hn h1 h2 h3 h4
  refine joinTo_of n hn (Ent.of_le (le_fr (by simp [skA]) (fun k hk => ?_) (h1.trans ?_) (h2.trans ?_)))
  · have hk : k < 7 := hk
    match k, hk with
    | 0, _ => exact .inr rfl
    | 1, _ => exact .inr rfl
    | 2, _ => exact .inr rfl
    | 3, _ => exact .inl ((h3 3 (by omega)).trans (t3 w)).symm
    | 4, _ => exact .inl ((h3 4 (by omega)).trans (t4 w)).symm
    | 5, _ => exact .inl ((h3 5 (by omega)).trans (t5 w)).symm
    | 6, _ => exact .inl h4.symm
    | k + 7, hk => omega
  · show (nmH (sr3 w)).H = sH.H
    rw [tH w]
  · show (nmH (sr3 w)).c = sH.c
    rw [tH w]
#print axioms checkKnown_ret
end Go.Proofs.YtgpeaibhhonikaaGreatDoor
