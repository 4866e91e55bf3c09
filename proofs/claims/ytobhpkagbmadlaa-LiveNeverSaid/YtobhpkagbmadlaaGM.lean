/-
  Texts Ctn of this claim, put together.
-/
import Derived.Test.YtobhpkagbmadlaaGL
import Derived.Test.YtobhpkagbmadlaaGG
set_option linter.unusedSimpArgs false
set_option linter.unusedVariables false
namespace Go.Proofs.Ytobhpkagbmadlaa
open Go Go.Lg Go.RowKit
set_option maxRecDepth 20000

theorem liv_used {m : Mir} {i : Nat} {v : Int} (h : Liv m i v) : ∃ (j : Nat) (hj : j < m.code.length), v ∈ usesL m.code[j] := by
  induction h with
  | use hi hu => exact ⟨_, hi, hu⟩
  | step _ _ _ _ ih => exact ih

set_option maxHeartbeats 2000000 in
theorem liveNever_ret (m : Mir) (hm : m.ok) : PRet Try.prog 11 [.agg m.cells] (.bool true) := by
  refine pret_intro fd11 (by simp) ?_
  simp only [lc11, VC0, VC1, VC2, VC3, VC4, VC5, VC6, reduceIte, reduceCtorEq, Nat.reduceEqDiff, Nat.reduceAdd, Nat.reduceMul, Nat.reduceBEq, Nat.reduceLT, Nat.reduceLeDiff, Int.reduceEq, Int.reduceLT, Int.reduceLE, Int.reduceNeg, Int.reduceToNat, Int.reduceAdd, Nat.reduceDiv, encL, MC0, MC1, MC2]
  repeat' (first | refine condDn_of (fun h => ?_) (fun h => ?_) <;> simp only [VC0, VC1, VC2, VC3, VC4, VC5, VC6, reduceIte, reduceCtorEq, Nat.reduceEqDiff, Nat.reduceAdd, Nat.reduceMul, Nat.reduceBEq, Nat.reduceLT, Nat.reduceLeDiff, Int.reduceEq, Int.reduceLT, Int.reduceLE, Int.reduceNeg, Int.reduceToNat, Int.reduceAdd, Nat.reduceDiv, encL, MC0, MC1, MC2, h] | refine condD_of (fun h => ?_) (fun h => ?_) <;> simp only [VC0, VC1, VC2, VC3, VC4, VC5, VC6, reduceIte, reduceCtorEq, Nat.reduceEqDiff, Nat.reduceAdd, Nat.reduceMul, Nat.reduceBEq, Nat.reduceLT, Nat.reduceLeDiff, Int.reduceEq, Int.reduceLT, Int.reduceLE, Int.reduceNeg, Int.reduceToNat, Int.reduceAdd, Nat.reduceDiv, encL, MC0, MC1, MC2, h] | refine condVn_of (fun h => ?_) (fun h => ?_) <;> simp only [VC0, VC1, VC2, VC3, VC4, VC5, VC6, reduceIte, reduceCtorEq, Nat.reduceEqDiff, Nat.reduceAdd, Nat.reduceMul, Nat.reduceBEq, Nat.reduceLT, Nat.reduceLeDiff, Int.reduceEq, Int.reduceLT, Int.reduceLE, Int.reduceNeg, Int.reduceToNat, Int.reduceAdd, Nat.reduceDiv, encL, MC0, MC1, MC2, h] | refine condV_of (fun h => ?_) (fun h => ?_) <;> simp only [VC0, VC1, VC2, VC3, VC4, VC5, VC6, reduceIte, reduceCtorEq, Nat.reduceEqDiff, Nat.reduceAdd, Nat.reduceMul, Nat.reduceBEq, Nat.reduceLT, Nat.reduceLeDiff, Int.reduceEq, Int.reduceLT, Int.reduceLE, Int.reduceNeg, Int.reduceToNat, Int.reduceAdd, Nat.reduceDiv, encL, MC0, MC1, MC2, h] | refine gdDn_of (fun h => ?_) (fun h => ?_) <;> simp only [VC0, VC1, VC2, VC3, VC4, VC5, VC6, reduceIte, reduceCtorEq, Nat.reduceEqDiff, Nat.reduceAdd, Nat.reduceMul, Nat.reduceBEq, Nat.reduceLT, Nat.reduceLeDiff, Int.reduceEq, Int.reduceLT, Int.reduceLE, Int.reduceNeg, Int.reduceToNat, Int.reduceAdd, Nat.reduceDiv, encL, MC0, MC1, MC2, h] | refine gdD_of (fun h => ?_) (fun h => ?_) <;> simp only [VC0, VC1, VC2, VC3, VC4, VC5, VC6, reduceIte, reduceCtorEq, Nat.reduceEqDiff, Nat.reduceAdd, Nat.reduceMul, Nat.reduceBEq, Nat.reduceLT, Nat.reduceLeDiff, Int.reduceEq, Int.reduceLT, Int.reduceLE, Int.reduceNeg, Int.reduceToNat, Int.reduceAdd, Nat.reduceDiv, encL, MC0, MC1, MC2, h] | refine gdVMn_of (fun h => ?_) (fun h => ?_) <;> simp only [VC0, VC1, VC2, VC3, VC4, VC5, VC6, reduceIte, reduceCtorEq, Nat.reduceEqDiff, Nat.reduceAdd, Nat.reduceMul, Nat.reduceBEq, Nat.reduceLT, Nat.reduceLeDiff, Int.reduceEq, Int.reduceLT, Int.reduceLE, Int.reduceNeg, Int.reduceToNat, Int.reduceAdd, Nat.reduceDiv, encL, MC0, MC1, MC2, h] | refine gdVM_of (fun h => ?_) (fun h => ?_) <;> simp only [VC0, VC1, VC2, VC3, VC4, VC5, VC6, reduceIte, reduceCtorEq, Nat.reduceEqDiff, Nat.reduceAdd, Nat.reduceMul, Nat.reduceBEq, Nat.reduceLT, Nat.reduceLeDiff, Int.reduceEq, Int.reduceLT, Int.reduceLE, Int.reduceNeg, Int.reduceToNat, Int.reduceAdd, Nat.reduceDiv, encL, MC0, MC1, MC2, h] | refine gpDn_of (fun h => ?_) (fun h => ?_) <;> simp only [VC0, VC1, VC2, VC3, VC4, VC5, VC6, reduceIte, reduceCtorEq, Nat.reduceEqDiff, Nat.reduceAdd, Nat.reduceMul, Nat.reduceBEq, Nat.reduceLT, Nat.reduceLeDiff, Int.reduceEq, Int.reduceLT, Int.reduceLE, Int.reduceNeg, Int.reduceToNat, Int.reduceAdd, Nat.reduceDiv, encL, MC0, MC1, MC2, h] | refine gpD_of (fun h => ?_) (fun h => ?_) <;> simp only [VC0, VC1, VC2, VC3, VC4, VC5, VC6, reduceIte, reduceCtorEq, Nat.reduceEqDiff, Nat.reduceAdd, Nat.reduceMul, Nat.reduceBEq, Nat.reduceLT, Nat.reduceLeDiff, Int.reduceEq, Int.reduceLT, Int.reduceLE, Int.reduceNeg, Int.reduceToNat, Int.reduceAdd, Nat.reduceDiv, encL, MC0, MC1, MC2, h] | refine gdVn_of (fun h => ?_) (fun h => ?_) <;> simp only [VC0, VC1, VC2, VC3, VC4, VC5, VC6, reduceIte, reduceCtorEq, Nat.reduceEqDiff, Nat.reduceAdd, Nat.reduceMul, Nat.reduceBEq, Nat.reduceLT, Nat.reduceLeDiff, Int.reduceEq, Int.reduceLT, Int.reduceLE, Int.reduceNeg, Int.reduceToNat, Int.reduceAdd, Nat.reduceDiv, encL, MC0, MC1, MC2, h] | refine gdV_of (fun h => ?_) (fun h => ?_) <;> simp only [VC0, VC1, VC2, VC3, VC4, VC5, VC6, reduceIte, reduceCtorEq, Nat.reduceEqDiff, Nat.reduceAdd, Nat.reduceMul, Nat.reduceBEq, Nat.reduceLT, Nat.reduceLeDiff, Int.reduceEq, Int.reduceLT, Int.reduceLE, Int.reduceNeg, Int.reduceToNat, Int.reduceAdd, Nat.reduceDiv, encL, MC0, MC1, MC2, h] | refine callX_of (great_ret m hm) (by first | exact Or.inr rfl | exact Or.inl rfl) ?_ <;> simp only [VC0, VC1, VC2, VC3, VC4, VC5, VC6, reduceIte, reduceCtorEq, Nat.reduceEqDiff, Nat.reduceAdd, Nat.reduceMul, Nat.reduceBEq, Nat.reduceLT, Nat.reduceLeDiff, Int.reduceEq, Int.reduceLT, Int.reduceLE, Int.reduceNeg, Int.reduceToNat, Int.reduceAdd, Nat.reduceDiv, encL, MC0, MC1, MC2] | refine callX_of (may16_ret m hm) (by first | exact Or.inr rfl | exact Or.inl rfl) ?_ <;> simp only [VC0, VC1, VC2, VC3, VC4, VC5, VC6, reduceIte, reduceCtorEq, Nat.reduceEqDiff, Nat.reduceAdd, Nat.reduceMul, Nat.reduceBEq, Nat.reduceLT, Nat.reduceLeDiff, Int.reduceEq, Int.reduceLT, Int.reduceLE, Int.reduceNeg, Int.reduceToNat, Int.reduceAdd, Nat.reduceDiv, encL, MC0, MC1, MC2] | refine callX_of (told19_ret) (by first | exact Or.inr rfl | exact Or.inl rfl) ?_ <;> simp only [VC0, VC1, VC2, VC3, VC4, VC5, VC6, reduceIte, reduceCtorEq, Nat.reduceEqDiff, Nat.reduceAdd, Nat.reduceMul, Nat.reduceBEq, Nat.reduceLT, Nat.reduceLeDiff, Int.reduceEq, Int.reduceLT, Int.reduceLE, Int.reduceNeg, Int.reduceToNat, Int.reduceAdd, Nat.reduceDiv, encL, MC0, MC1, MC2] | (unfold InI64; omega) | refine And.intro ?_ ?_)
  rename_i hgr
  have hmay := h
  have hg := okG_of h
  have hN := hg.le
  have hsm := small_of hgr
  have hsl := hsm.l
  have hin := livein_ret m hm hgr
  rw [if_pos h] at hin
  have hTl := livTab_len m
  have hTr : ∀ (j : Nat) (h : j < (livTab m).length), ((livTab m)[j]).length = m.locals.length := fun j h => livTab_row h
  have hTa : ∀ (j u : Nat) (h2 : j < (livTab m).length) (h4 : u < ((livTab m)[j]).length), (livTab m)[j][u] = true ↔ Liv m j (u : Int) := fun j u h2 h4 => livTab_at h2 h4
  generalize livTab m = T at hin hTl hTr hTa
  refine callX_of hin (.inl rfl) ?_
  simp only [VC0, VC1, VC2, VC3, VC4, VC5, VC6, reduceIte, reduceCtorEq, Nat.reduceEqDiff, Nat.reduceAdd, Nat.reduceMul, Nat.reduceBEq, Nat.reduceLT, Nat.reduceLeDiff, Int.reduceEq, Int.reduceLT, Int.reduceLE, Int.reduceNeg, Int.reduceToNat, Int.reduceAdd, Nat.reduceDiv, encL, MC0, MC1, MC2, hTl]
  refine And.intro (by omega) ?_
  refine loop_vcg (ι := Nat × List Bool × (Nat → Nat)) (fun (i, S, c) => stO [(1, .box m.cells), (3, .val (encL (cL cB) T)), (4, .own 1 m.locals.length (S.flatMap cB)), (5, .val (.int .i64 i))] c)
    (fun (i, S, _) => i ≤ m.code.length ∧ S.length = m.locals.length ∧ ∀ (j : Nat) (h : j < m.code.length), j < i → ∀ v ∈ usesL m.code[j], S.getD v.toNat false = true) (fun (i, _, _) => m.code.length - i) (0, List.replicate m.locals.length false, _)
    ⟨Nat.zero_le _, by simp, fun j _ h => by omega⟩ (ent_of _ [] rfl rfl (by simp only [VC0, VC1, VC2, VC3, VC4, VC5, VC6, reduceIte, reduceCtorEq, Nat.reduceEqDiff, Nat.reduceAdd, Nat.reduceMul, Nat.reduceBEq, Nat.reduceLT, Nat.reduceLeDiff, Int.reduceEq, Int.reduceLT, Int.reduceLE, Int.reduceNeg, Int.reduceToNat, Int.reduceAdd, Nat.reduceDiv, encL, MC0, MC1, MC2, hTl])) ?_
  rintro ⟨i, S, c⟩ ⟨hi, hSl, hS⟩
  simp only [VC0, VC1, VC2, VC3, VC4, VC5, VC6, reduceIte, reduceCtorEq, Nat.reduceEqDiff, Nat.reduceAdd, Nat.reduceMul, Nat.reduceBEq, Nat.reduceLT, Nat.reduceLeDiff, Int.reduceEq, Int.reduceLT, Int.reduceLE, Int.reduceNeg, Int.reduceToNat, Int.reduceAdd, Nat.reduceDiv, encL, MC0, MC1, MC2, hTl]
  refine condD_of (fun h => ?_) (fun h => ?_)
  · have hi' : i < m.code.length := by omega
    have hin' : 0 ≤ (i : Int) ∧ (i : Int) < m.code.length := by omega
    have hiT : i < T.length := by omega
    have hrow := hTr i hiT
    have hua := hsm.a _ (List.getElem_mem hi')
    have hul := usesL_len m.code[i]
    have hult : ∀ v ∈ usesL m.code[i], 0 ≤ v ∧ v < m.locals.length := fun v hv => uses_lt hmay (List.getElem_mem hi') hv
    simp only [VC0, VC1, VC2, VC3, VC4, VC5, VC6, reduceIte, reduceCtorEq, Nat.reduceEqDiff, Nat.reduceAdd, Nat.reduceMul, Nat.reduceBEq, Nat.reduceLT, Nat.reduceLeDiff, Int.reduceEq, Int.reduceLT, Int.reduceLE, Int.reduceNeg, Int.reduceToNat, Int.reduceAdd, Nat.reduceDiv, encL, MC0, MC1, MC2, hi', hin']
    refine callX_of (uses_own m.code[i] (by omega)).ret (.inl rfl) ?_
    simp only [VC0, VC1, VC2, VC3, VC4, VC5, VC6, reduceIte, reduceCtorEq, Nat.reduceEqDiff, Nat.reduceAdd, Nat.reduceMul, Nat.reduceBEq, Nat.reduceLT, Nat.reduceLeDiff, Int.reduceEq, Int.reduceLT, Int.reduceLE, Int.reduceNeg, Int.reduceToNat, Int.reduceAdd, Nat.reduceDiv, encL, MC0, MC1, MC2]
    generalize hU : usesL m.code[i] = U at hul hult
    refine loop_vcg (ι := Nat × List Bool × (Nat → Nat)) (fun (k, S, c) => stO [(1, .box m.cells), (3, .val (encL (cL cB) T)), (4, .own 1 m.locals.length (S.flatMap cB)), (5, .val (.int .i64 i)), (6, .val (encL cI U)), (7, .val (.int .i64 k))] c)
      (fun (k, S, _) => k ≤ U.length ∧ S.length = m.locals.length ∧ (∀ (j : Nat) (h : j < m.code.length), j < i → ∀ v ∈ usesL m.code[j], S.getD v.toNat false = true) ∧ ∀ v ∈ U.take k, S.getD v.toNat false = true) (fun (k, _, _) => U.length - k) (0, S, _)
      ⟨Nat.zero_le _, hSl, hS, fun v hv => by simp at hv⟩ (ent_of _ [] rfl rfl (by simp only [VC0, VC1, VC2, VC3, VC4, VC5, VC6, reduceIte, reduceCtorEq, Nat.reduceEqDiff, Nat.reduceAdd, Nat.reduceMul, Nat.reduceBEq, Nat.reduceLT, Nat.reduceLeDiff, Int.reduceEq, Int.reduceLT, Int.reduceLE, Int.reduceNeg, Int.reduceToNat, Int.reduceAdd, Nat.reduceDiv, encL, MC0, MC1, MC2, hTl])) ?_
    rintro ⟨k, S, c⟩ ⟨hk, hSl, hS, hSk⟩
    simp only [VC0, VC1, VC2, VC3, VC4, VC5, VC6, reduceIte, reduceCtorEq, Nat.reduceEqDiff, Nat.reduceAdd, Nat.reduceMul, Nat.reduceBEq, Nat.reduceLT, Nat.reduceLeDiff, Int.reduceEq, Int.reduceLT, Int.reduceLE, Int.reduceNeg, Int.reduceToNat, Int.reduceAdd, Nat.reduceDiv, encL, MC0, MC1, MC2, hTl]
    refine condD_of (fun h => ?_) (fun h => ?_)
    · have hk' : k < U.length := by omega
      have hkin : 0 ≤ (k : Int) ∧ (k : Int) < U.length := by omega
      obtain ⟨v, hv⟩ : ∃ v : Nat, U[k] = (v : Int) := ⟨U[k].toNat, by have := hult _ (List.getElem_mem hk'); omega⟩
      have hvL : v < m.locals.length := by have := hult _ (List.getElem_mem hk'); omega
      have hvin : 0 ≤ (v : Int) ∧ (v : Int) < m.locals.length := by omega
      have hv0 : ¬ (v : Int) < 0 := by omega
      have hv1 : ¬ ((m.locals.length : Int) ≤ (v : Int)) := by omega
      have hvT : v < T[i].length := by omega
      have hvS : v < S.length := by omega
      have hvle : v + 1 ≤ m.locals.length := hvL
      have hTv : T[i][v] = true := (hTa i v hiT hvT).2 (.use hi' (by rw [hU, ← hv]; exact List.getElem_mem hk'))
      simp only [VC0, VC1, VC2, VC3, VC4, VC5, VC6, reduceIte, reduceCtorEq, Nat.reduceEqDiff, Nat.reduceAdd, Nat.reduceMul, Nat.reduceBEq, Nat.reduceLT, Nat.reduceLeDiff, Int.reduceEq, Int.reduceLT, Int.reduceLE, Int.reduceNeg, Int.reduceToNat, Int.reduceAdd, Nat.reduceDiv, encL, MC0, MC1, MC2, hk', hkin, hv, hv0, hv1, hTl, hin', hiT, ld_cLB hiT, hrow, hvin, hvT, ld_cB hvT, hTv, hvle, hSl, lb_set hvS]
      refine And.intro (by unfold InI64; omega) (backTo_of (k + 1, S.set v true, _) ⟨hk', by simp [hSl], fun j hj hji w hw => ?_, fun w hw => ?_⟩ (by simp only []; omega) (ent_of _ [] rfl rfl (by simp only [VC0, VC1, VC2, VC3, VC4, VC5, VC6, reduceIte, reduceCtorEq, Nat.reduceEqDiff, Nat.reduceAdd, Nat.reduceMul, Nat.reduceBEq, Nat.reduceLT, Nat.reduceLeDiff, Int.reduceEq, Int.reduceLT, Int.reduceLE, Int.reduceNeg, Int.reduceToNat, Int.reduceAdd, Nat.reduceDiv, encL, MC0, MC1, MC2, hTl])))
      · simp only [getB_set hvS]
        split
        · rfl
        · exact hS j hj hji w hw
      · simp only [getB_set hvS]
        simp only [List.take_succ_eq_append_getElem hk', List.mem_append, List.mem_singleton, hv] at hw
        rcases hw with hw | rfl
        · split
          · rfl
          · exact hSk w hw
        · rw [if_pos (by simp)]
    · have hk' : k = U.length := by omega
      subst hk'
      simp only [VC0, VC1, VC2, VC3, VC4, VC5, VC6, reduceIte, reduceCtorEq, Nat.reduceEqDiff, Nat.reduceAdd, Nat.reduceMul, Nat.reduceBEq, Nat.reduceLT, Nat.reduceLeDiff, Int.reduceEq, Int.reduceLT, Int.reduceLE, Int.reduceNeg, Int.reduceToNat, Int.reduceAdd, Nat.reduceDiv, encL, MC0, MC1, MC2]
      refine And.intro (by unfold InI64; omega) (backTo_of (i + 1, S, _) ⟨hi', hSl, fun j hj hji w hw => ?_⟩ (by simp only []; omega) (ent_of _ [] rfl rfl (by simp only [VC0, VC1, VC2, VC3, VC4, VC5, VC6, reduceIte, reduceCtorEq, Nat.reduceEqDiff, Nat.reduceAdd, Nat.reduceMul, Nat.reduceBEq, Nat.reduceLT, Nat.reduceLeDiff, Int.reduceEq, Int.reduceLT, Int.reduceLE, Int.reduceNeg, Int.reduceToNat, Int.reduceAdd, Nat.reduceDiv, encL, MC0, MC1, MC2, hTl])))
      by_cases e : j = i
      · subst e
        rw [hU] at hw
        exact hSk w (by rw [List.take_length]; exact hw)
      · exact hS j hj (by simp only [] at hji; omega) w hw
  · have hi' : i = m.code.length := by omega
    subst hi'
    have hall : ∀ (j v : Nat), Liv m j (v : Int) → S.getD v false = true := fun j v hl => by
      obtain ⟨j', hj', hu⟩ := liv_used hl
      have := hS j' hj' hj' _ hu
      rwa [Int.toNat_natCast] at this
    simp only [VC0, VC1, VC2, VC3, VC4, VC5, VC6, reduceIte, reduceCtorEq, Nat.reduceEqDiff, Nat.reduceAdd, Nat.reduceMul, Nat.reduceBEq, Nat.reduceLT, Nat.reduceLeDiff, Int.reduceEq, Int.reduceLT, Int.reduceLE, Int.reduceNeg, Int.reduceToNat, Int.reduceAdd, Nat.reduceDiv, encL, MC0, MC1, MC2]
    refine loop_vcg (ι := Nat × (Nat → Nat)) (fun (i, c) => stO [(3, .val (encL (cL cB) T)), (4, .own 1 m.locals.length (S.flatMap cB)), (8, .val (.int .i64 i))] c)
      (fun (i, _) => i ≤ m.code.length) (fun (i, _) => m.code.length - i) (0, _) (Nat.zero_le _) (ent_of _ [] rfl rfl (by simp only [VC0, VC1, VC2, VC3, VC4, VC5, VC6, reduceIte, reduceCtorEq, Nat.reduceEqDiff, Nat.reduceAdd, Nat.reduceMul, Nat.reduceBEq, Nat.reduceLT, Nat.reduceLeDiff, Int.reduceEq, Int.reduceLT, Int.reduceLE, Int.reduceNeg, Int.reduceToNat, Int.reduceAdd, Nat.reduceDiv, encL, MC0, MC1, MC2, hTl])) ?_
    rintro ⟨i, c⟩ hi
    simp only [VC0, VC1, VC2, VC3, VC4, VC5, VC6, reduceIte, reduceCtorEq, Nat.reduceEqDiff, Nat.reduceAdd, Nat.reduceMul, Nat.reduceBEq, Nat.reduceLT, Nat.reduceLeDiff, Int.reduceEq, Int.reduceLT, Int.reduceLE, Int.reduceNeg, Int.reduceToNat, Int.reduceAdd, Nat.reduceDiv, encL, MC0, MC1, MC2, hTl]
    refine condD_of (fun h => ?_) (fun h => ?_)
    · have hi' : i < m.code.length := by omega
      have hin' : 0 ≤ (i : Int) ∧ (i : Int) < m.code.length := by omega
      have hiT : i < T.length := by omega
      have hrow := hTr i hiT
      simp only [VC0, VC1, VC2, VC3, VC4, VC5, VC6, reduceIte, reduceCtorEq, Nat.reduceEqDiff, Nat.reduceAdd, Nat.reduceMul, Nat.reduceBEq, Nat.reduceLT, Nat.reduceLeDiff, Int.reduceEq, Int.reduceLT, Int.reduceLE, Int.reduceNeg, Int.reduceToNat, Int.reduceAdd, Nat.reduceDiv, encL, MC0, MC1, MC2]
      refine loop_vcg (ι := Nat × (Nat → Nat)) (fun (v, c) => stO [(3, .val (encL (cL cB) T)), (4, .own 1 m.locals.length (S.flatMap cB)), (8, .val (.int .i64 i)), (9, .val (.int .i64 v))] c)
        (fun (v, _) => v ≤ m.locals.length) (fun (v, _) => m.locals.length - v) (0, _) (Nat.zero_le _) (ent_of _ [] rfl rfl (by simp only [VC0, VC1, VC2, VC3, VC4, VC5, VC6, reduceIte, reduceCtorEq, Nat.reduceEqDiff, Nat.reduceAdd, Nat.reduceMul, Nat.reduceBEq, Nat.reduceLT, Nat.reduceLeDiff, Int.reduceEq, Int.reduceLT, Int.reduceLE, Int.reduceNeg, Int.reduceToNat, Int.reduceAdd, Nat.reduceDiv, encL, MC0, MC1, MC2, hTl])) ?_
      rintro ⟨v, c⟩ hv
      simp only [VC0, VC1, VC2, VC3, VC4, VC5, VC6, reduceIte, reduceCtorEq, Nat.reduceEqDiff, Nat.reduceAdd, Nat.reduceMul, Nat.reduceBEq, Nat.reduceLT, Nat.reduceLeDiff, Int.reduceEq, Int.reduceLT, Int.reduceLE, Int.reduceNeg, Int.reduceToNat, Int.reduceAdd, Nat.reduceDiv, encL, MC0, MC1, MC2, hTl, hin', hiT, ld_cLB hiT, hrow]
      refine condD_of (fun h => ?_) (fun h => ?_)
      · have hvL : v < m.locals.length := by omega
        have hvin : 0 ≤ (v : Int) ∧ (v : Int) < m.locals.length := by omega
        have hvT : v < T[i].length := by omega
        have hvS : v < S.length := by omega
        have hvI : InI64 ((v : Int) + 1) := by unfold InI64; omega
        simp only [VC0, VC1, VC2, VC3, VC4, VC5, VC6, reduceIte, reduceCtorEq, Nat.reduceEqDiff, Nat.reduceAdd, Nat.reduceMul, Nat.reduceBEq, Nat.reduceLT, Nat.reduceLeDiff, Int.reduceEq, Int.reduceLT, Int.reduceLE, Int.reduceNeg, Int.reduceToNat, Int.reduceAdd, Nat.reduceDiv, encL, MC0, MC1, MC2, hTl, hin', hiT, ld_cLB hiT, hrow, hvin, hvT, ld_cB hvT]
        repeat' (first | refine condDn_of (fun h => ?_) (fun h => ?_) <;> simp only [VC0, VC1, VC2, VC3, VC4, VC5, VC6, reduceIte, reduceCtorEq, Nat.reduceEqDiff, Nat.reduceAdd, Nat.reduceMul, Nat.reduceBEq, Nat.reduceLT, Nat.reduceLeDiff, Int.reduceEq, Int.reduceLT, Int.reduceLE, Int.reduceNeg, Int.reduceToNat, Int.reduceAdd, Nat.reduceDiv, encL, MC0, MC1, MC2, h, hTl, hin', hiT, ld_cLB hiT, hrow, hvin, hvL, hvS, hSl, ld_cB hvS, hvI] | refine condD_of (fun h => ?_) (fun h => ?_) <;> simp only [VC0, VC1, VC2, VC3, VC4, VC5, VC6, reduceIte, reduceCtorEq, Nat.reduceEqDiff, Nat.reduceAdd, Nat.reduceMul, Nat.reduceBEq, Nat.reduceLT, Nat.reduceLeDiff, Int.reduceEq, Int.reduceLT, Int.reduceLE, Int.reduceNeg, Int.reduceToNat, Int.reduceAdd, Nat.reduceDiv, encL, MC0, MC1, MC2, h, hTl, hin', hiT, ld_cLB hiT, hrow, hvin, hvL, hvS, hSl, ld_cB hvS, hvI] | refine condVn_of (fun h => ?_) (fun h => ?_) <;> simp only [VC0, VC1, VC2, VC3, VC4, VC5, VC6, reduceIte, reduceCtorEq, Nat.reduceEqDiff, Nat.reduceAdd, Nat.reduceMul, Nat.reduceBEq, Nat.reduceLT, Nat.reduceLeDiff, Int.reduceEq, Int.reduceLT, Int.reduceLE, Int.reduceNeg, Int.reduceToNat, Int.reduceAdd, Nat.reduceDiv, encL, MC0, MC1, MC2, h, hTl, hin', hiT, ld_cLB hiT, hrow, hvin, hvL, hvS, hSl, ld_cB hvS, hvI] | refine condV_of (fun h => ?_) (fun h => ?_) <;> simp only [VC0, VC1, VC2, VC3, VC4, VC5, VC6, reduceIte, reduceCtorEq, Nat.reduceEqDiff, Nat.reduceAdd, Nat.reduceMul, Nat.reduceBEq, Nat.reduceLT, Nat.reduceLeDiff, Int.reduceEq, Int.reduceLT, Int.reduceLE, Int.reduceNeg, Int.reduceToNat, Int.reduceAdd, Nat.reduceDiv, encL, MC0, MC1, MC2, h, hTl, hin', hiT, ld_cLB hiT, hrow, hvin, hvL, hvS, hSl, ld_cB hvS, hvI] | refine gdDn_of (fun h => ?_) (fun h => ?_) <;> simp only [VC0, VC1, VC2, VC3, VC4, VC5, VC6, reduceIte, reduceCtorEq, Nat.reduceEqDiff, Nat.reduceAdd, Nat.reduceMul, Nat.reduceBEq, Nat.reduceLT, Nat.reduceLeDiff, Int.reduceEq, Int.reduceLT, Int.reduceLE, Int.reduceNeg, Int.reduceToNat, Int.reduceAdd, Nat.reduceDiv, encL, MC0, MC1, MC2, h, hTl, hin', hiT, ld_cLB hiT, hrow, hvin, hvL, hvS, hSl, ld_cB hvS, hvI] | refine gdD_of (fun h => ?_) (fun h => ?_) <;> simp only [VC0, VC1, VC2, VC3, VC4, VC5, VC6, reduceIte, reduceCtorEq, Nat.reduceEqDiff, Nat.reduceAdd, Nat.reduceMul, Nat.reduceBEq, Nat.reduceLT, Nat.reduceLeDiff, Int.reduceEq, Int.reduceLT, Int.reduceLE, Int.reduceNeg, Int.reduceToNat, Int.reduceAdd, Nat.reduceDiv, encL, MC0, MC1, MC2, h, hTl, hin', hiT, ld_cLB hiT, hrow, hvin, hvL, hvS, hSl, ld_cB hvS, hvI] | refine gdVMn_of (fun h => ?_) (fun h => ?_) <;> simp only [VC0, VC1, VC2, VC3, VC4, VC5, VC6, reduceIte, reduceCtorEq, Nat.reduceEqDiff, Nat.reduceAdd, Nat.reduceMul, Nat.reduceBEq, Nat.reduceLT, Nat.reduceLeDiff, Int.reduceEq, Int.reduceLT, Int.reduceLE, Int.reduceNeg, Int.reduceToNat, Int.reduceAdd, Nat.reduceDiv, encL, MC0, MC1, MC2, h, hTl, hin', hiT, ld_cLB hiT, hrow, hvin, hvL, hvS, hSl, ld_cB hvS, hvI] | refine gdVM_of (fun h => ?_) (fun h => ?_) <;> simp only [VC0, VC1, VC2, VC3, VC4, VC5, VC6, reduceIte, reduceCtorEq, Nat.reduceEqDiff, Nat.reduceAdd, Nat.reduceMul, Nat.reduceBEq, Nat.reduceLT, Nat.reduceLeDiff, Int.reduceEq, Int.reduceLT, Int.reduceLE, Int.reduceNeg, Int.reduceToNat, Int.reduceAdd, Nat.reduceDiv, encL, MC0, MC1, MC2, h, hTl, hin', hiT, ld_cLB hiT, hrow, hvin, hvL, hvS, hSl, ld_cB hvS, hvI] | refine gpDn_of (fun h => ?_) (fun h => ?_) <;> simp only [VC0, VC1, VC2, VC3, VC4, VC5, VC6, reduceIte, reduceCtorEq, Nat.reduceEqDiff, Nat.reduceAdd, Nat.reduceMul, Nat.reduceBEq, Nat.reduceLT, Nat.reduceLeDiff, Int.reduceEq, Int.reduceLT, Int.reduceLE, Int.reduceNeg, Int.reduceToNat, Int.reduceAdd, Nat.reduceDiv, encL, MC0, MC1, MC2, h, hTl, hin', hiT, ld_cLB hiT, hrow, hvin, hvL, hvS, hSl, ld_cB hvS, hvI] | refine gpD_of (fun h => ?_) (fun h => ?_) <;> simp only [VC0, VC1, VC2, VC3, VC4, VC5, VC6, reduceIte, reduceCtorEq, Nat.reduceEqDiff, Nat.reduceAdd, Nat.reduceMul, Nat.reduceBEq, Nat.reduceLT, Nat.reduceLeDiff, Int.reduceEq, Int.reduceLT, Int.reduceLE, Int.reduceNeg, Int.reduceToNat, Int.reduceAdd, Nat.reduceDiv, encL, MC0, MC1, MC2, h, hTl, hin', hiT, ld_cLB hiT, hrow, hvin, hvL, hvS, hSl, ld_cB hvS, hvI] | refine gdVn_of (fun h => ?_) (fun h => ?_) <;> simp only [VC0, VC1, VC2, VC3, VC4, VC5, VC6, reduceIte, reduceCtorEq, Nat.reduceEqDiff, Nat.reduceAdd, Nat.reduceMul, Nat.reduceBEq, Nat.reduceLT, Nat.reduceLeDiff, Int.reduceEq, Int.reduceLT, Int.reduceLE, Int.reduceNeg, Int.reduceToNat, Int.reduceAdd, Nat.reduceDiv, encL, MC0, MC1, MC2, h, hTl, hin', hiT, ld_cLB hiT, hrow, hvin, hvL, hvS, hSl, ld_cB hvS, hvI] | refine gdV_of (fun h => ?_) (fun h => ?_) <;> simp only [VC0, VC1, VC2, VC3, VC4, VC5, VC6, reduceIte, reduceCtorEq, Nat.reduceEqDiff, Nat.reduceAdd, Nat.reduceMul, Nat.reduceBEq, Nat.reduceLT, Nat.reduceLeDiff, Int.reduceEq, Int.reduceLT, Int.reduceLE, Int.reduceNeg, Int.reduceToNat, Int.reduceAdd, Nat.reduceDiv, encL, MC0, MC1, MC2, h, hTl, hin', hiT, ld_cLB hiT, hrow, hvin, hvL, hvS, hSl, ld_cB hvS, hvI] | (unfold InI64; omega) | refine And.intro ?_ ?_)
        all_goals first
          | exact backTo_of (v + 1, _) hvL (by simp only []; omega) (ent_of _ [] rfl rfl (by simp only [VC0, VC1, VC2, VC3, VC4, VC5, VC6, reduceIte, reduceCtorEq, Nat.reduceEqDiff, Nat.reduceAdd, Nat.reduceMul, Nat.reduceBEq, Nat.reduceLT, Nat.reduceLeDiff, Int.reduceEq, Int.reduceLT, Int.reduceLE, Int.reduceNeg, Int.reduceToNat, Int.reduceAdd, Nat.reduceDiv, encL, MC0, MC1, MC2, hTl]))
          | (exfalso
             have := hall i v ((hTa i v hiT hvT).1 (by assumption))
             simp_all)
      · simp only [VC0, VC1, VC2, VC3, VC4, VC5, VC6, reduceIte, reduceCtorEq, Nat.reduceEqDiff, Nat.reduceAdd, Nat.reduceMul, Nat.reduceBEq, Nat.reduceLT, Nat.reduceLeDiff, Int.reduceEq, Int.reduceLT, Int.reduceLE, Int.reduceNeg, Int.reduceToNat, Int.reduceAdd, Nat.reduceDiv, encL, MC0, MC1, MC2]
        exact And.intro (by unfold InI64; omega) (backTo_of (i + 1, _) hi' (by simp only []; omega) (ent_of _ [] rfl rfl (by simp only [VC0, VC1, VC2, VC3, VC4, VC5, VC6, reduceIte, reduceCtorEq, Nat.reduceEqDiff, Nat.reduceAdd, Nat.reduceMul, Nat.reduceBEq, Nat.reduceLT, Nat.reduceLeDiff, Int.reduceEq, Int.reduceLT, Int.reduceLE, Int.reduceNeg, Int.reduceToNat, Int.reduceAdd, Nat.reduceDiv, encL, MC0, MC1, MC2, hTl])))
    · simp only [VC0, VC1, VC2, VC3, VC4, VC5, VC6, reduceIte, reduceCtorEq, Nat.reduceEqDiff, Nat.reduceAdd, Nat.reduceMul, Nat.reduceBEq, Nat.reduceLT, Nat.reduceLeDiff, Int.reduceEq, Int.reduceLT, Int.reduceLE, Int.reduceNeg, Int.reduceToNat, Int.reduceAdd, Nat.reduceDiv, encL, MC0, MC1, MC2]
      refine callX_of told19_ret (.inr rfl) ?_
      simp only [VC0, VC1, VC2, VC3, VC4, VC5, VC6, reduceIte, reduceCtorEq, Nat.reduceEqDiff, Nat.reduceAdd, Nat.reduceMul, Nat.reduceBEq, Nat.reduceLT, Nat.reduceLeDiff, Int.reduceEq, Int.reduceLT, Int.reduceLE, Int.reduceNeg, Int.reduceToNat, Int.reduceAdd, Nat.reduceDiv, encL, MC0, MC1, MC2]

end Go.Proofs.Ytobhpkagbmadlaa
