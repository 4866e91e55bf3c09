/-
  ScopeKnown, whatever the world's choice: true.
-/
import Derived.Test.YtalihpfjkfeibaaGreatDoorEt
set_option linter.unusedSimpArgs false
set_option linter.unusedVariables false
namespace Go.Proofs.YtalihpfjkfeibaaGreatDoor
open Go Go.Lg Go.RowKit
set_option maxRecDepth 100000
theorem sk_ch {K : St → Prop} {σ : St} {w : Int} (h0 : σ.tm 0 = .int .i64 w) (h3 : llen false (σ.tm 3) = .A True (.int .i64 22))
    (hK : ∀ (n : Nat) (σ' : St), n < 22 → σ'.H = σ.H → σ'.cnt = σ.cnt → (∀ k, k < 6 → σ'.tm k = σ.tm k) → σ'.tm 6 = .int .i64 n → K σ') : vopsM Tryz.prog 4 skOps 0 K σ := by
  obtain ⟨tm, H, cnt⟩ := σ
  have h0 : tm 0 = .int .i64 w := h0
  have h3 : llen false (tm 3) = .A True (.int .i64 22) := h3
  have hr : 0 ≤ (w.tmod 22 + 22).tmod 22 ∧ (w.tmod 22 + 22).tmod 22 < 22 := by
    have h1 : -22 < w.tmod 22 := by
      have := Int.lt_tmod_of_pos w (show (0:Int) < 22 by decide); omega
    have h2 := Int.tmod_lt_of_pos w (show (0:Int) < 22 by decide)
    exact ⟨Int.tmod_nonneg _ (by omega), Int.tmod_lt_of_pos _ (by decide)⟩
  have hi : InI64 (w.tmod 22 + 22) := by
    have h1 : -22 < w.tmod 22 := by
      have := Int.lt_tmod_of_pos w (show (0:Int) < 22 by decide); omega
    have h2 := Int.tmod_lt_of_pos w (show (0:Int) < 22 by decide)
    unfold InI64; omega
  obtain ⟨n, hn⟩ : ∃ n : Nat, (w.tmod 22 + 22).tmod 22 = n := ⟨_, (Int.toNat_of_nonneg hr.1).symm⟩
  simp only [skOps, vopsM_nil, vopsM_cons, vstepM_none, vresM_A, lop, Rd.get, lbin, St.put, dput_some, tupd_app, h0, h3, hn, hi, Nat.reduceEqDiff, reduceIte, reduceCtorEq, true_and, ne_eq, and_true]
  refine ⟨by decide, by decide, hK n _ (by omega) rfl rfl (fun k hk => ?_) ?_⟩
  · simp only [tupd_app]
    repeat' (first | rw [if_neg (by omega)] | rfl)
  · simp only [tupd_app, reduceIte]
theorem scopeKnown_ret (w : Int) : PRet Tryz.prog 3 [.int .i64 w] (.bool true) := by
  refine pret_intro sk_fd (by simp) ?_
  rw [arg_den _ (by simp)]
  have hcl : ClOk Tryz.prog skC := clN_ok tbY_ok 60
  refine part_nm hcl (lit_kinds _) (n0 w) ?_
  refine part_nm hcl (lit_kinds _) (n1 w) ?_
  refine part_nm hcl (lit_kinds _) (n2 w) ?_
  refine part_nm hcl (lit_kinds _) (n3 w) ?_
  refine join_vcg (ι := Nat) (fun n => denq (fun _ => .junk) (frF (skA n) 0 .nil) sH) (fun n => n < 22) ?_ fun n hn => sk_case n (List.all_eq_true.1 sk_all n (List.mem_range.2 hn))
  have e3 : llen false (sT w 3) = .A True (.int .i64 22) := by rw [t3 w]; exact t3l
  refine sk_ch (t0 w) e3 ?_
  intro n σ' hn h1 h2 h3 h4
  refine joinTo_of n hn (Ent.of_le (le_fr (by simp [skA]) (fun k hk => ?_) (h1.trans ?_) (h2.trans ?_)))
  · have hk : k < 7 := hk
    match k, hk with
    | 0, _ => exact .inr rfl
    | 1, _ => exact .inr rfl
    | 2, _ => exact .inr rfl
    | 3, _ => exact .inl ((h3 3 (by omega)).trans (t3 w)).symm
    | 4, _ => exact .inl ((h3 4 (by omega)).trans (t4 w)).symm
    | 5, _ => exact .inl ((h3 5 (by omega)).trans (t5 w)).symm
    | 6, _ => exact .inl h4.symm
    | k + 7, hk => omega
  · show (nmH (sr3 w)).H = sH.H
    rw [tH w]
  · show (nmH (sr3 w)).c = sH.c
    rw [tH w]
#print axioms scopeKnown_ret
end Go.Proofs.YtalihpfjkfeibaaGreatDoor
