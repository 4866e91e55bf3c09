/-
  Texts Cto of this claim, put together.
-/
import Derived.Test.YtobhpkagbmadlaaGM
import Derived.Test.YtobhpkagbmadlaaGG
import Derived.Test.YtobhpkagbmadlaaGJ
set_option linter.unusedSimpArgs false
set_option linter.unusedVariables false
namespace Go.Proofs.Ytobhpkagbmadlaa
open Go Go.Lg Go.RowKit
set_option maxRecDepth 20000

theorem ints_nx' {l : List Int} (h : ∀ y ∈ l, 0 ≤ y) : ints (l.map Int.toNat) = l := by
  unfold ints
  rw [List.map_map]
  conv => rhs; rw [← List.map_id l]
  exact List.map_congr_left fun x hx => by have := h x hx; simp [Int.toNat_of_nonneg this]

set_option maxHeartbeats 4000000 in
theorem liveWays_ret (m : Mir) (hm : m.ok) (z : Int) : PRet Try.prog 10 [.agg m.cells, .int .i64 z] (.bool true) := by
  refine pret_intro fd10 (by simp) ?_
  simp only [lc10, VC0, VC1, VC2, VC3, VC4, VC5, VC6, reduceIte, reduceCtorEq, Nat.reduceEqDiff, Nat.reduceAdd, Nat.reduceMul, Nat.reduceBEq, Nat.reduceLT, Nat.reduceLeDiff, Int.reduceEq, Int.reduceLT, Int.reduceLE, Int.reduceNeg, Int.reduceToNat, Int.reduceAdd, Nat.reduceDiv, encL, MC0, MC1, MC2]
  repeat' (first | refine condDn_of (fun h => ?_) (fun h => ?_) <;> simp only [VC0, VC1, VC2, VC3, VC4, VC5, VC6, reduceIte, reduceCtorEq, Nat.reduceEqDiff, Nat.reduceAdd, Nat.reduceMul, Nat.reduceBEq, Nat.reduceLT, Nat.reduceLeDiff, Int.reduceEq, Int.reduceLT, Int.reduceLE, Int.reduceNeg, Int.reduceToNat, Int.reduceAdd, Nat.reduceDiv, encL, MC0, MC1, MC2, h] | refine condD_of (fun h => ?_) (fun h => ?_) <;> simp only [VC0, VC1, VC2, VC3, VC4, VC5, VC6, reduceIte, reduceCtorEq, Nat.reduceEqDiff, Nat.reduceAdd, Nat.reduceMul, Nat.reduceBEq, Nat.reduceLT, Nat.reduceLeDiff, Int.reduceEq, Int.reduceLT, Int.reduceLE, Int.reduceNeg, Int.reduceToNat, Int.reduceAdd, Nat.reduceDiv, encL, MC0, MC1, MC2, h] | refine condVn_of (fun h => ?_) (fun h => ?_) <;> simp only [VC0, VC1, VC2, VC3, VC4, VC5, VC6, reduceIte, reduceCtorEq, Nat.reduceEqDiff, Nat.reduceAdd, Nat.reduceMul, Nat.reduceBEq, Nat.reduceLT, Nat.reduceLeDiff, Int.reduceEq, Int.reduceLT, Int.reduceLE, Int.reduceNeg, Int.reduceToNat, Int.reduceAdd, Nat.reduceDiv, encL, MC0, MC1, MC2, h] | refine condV_of (fun h => ?_) (fun h => ?_) <;> simp only [VC0, VC1, VC2, VC3, VC4, VC5, VC6, reduceIte, reduceCtorEq, Nat.reduceEqDiff, Nat.reduceAdd, Nat.reduceMul, Nat.reduceBEq, Nat.reduceLT, Nat.reduceLeDiff, Int.reduceEq, Int.reduceLT, Int.reduceLE, Int.reduceNeg, Int.reduceToNat, Int.reduceAdd, Nat.reduceDiv, encL, MC0, MC1, MC2, h] | refine gdDn_of (fun h => ?_) (fun h => ?_) <;> simp only [VC0, VC1, VC2, VC3, VC4, VC5, VC6, reduceIte, reduceCtorEq, Nat.reduceEqDiff, Nat.reduceAdd, Nat.reduceMul, Nat.reduceBEq, Nat.reduceLT, Nat.reduceLeDiff, Int.reduceEq, Int.reduceLT, Int.reduceLE, Int.reduceNeg, Int.reduceToNat, Int.reduceAdd, Nat.reduceDiv, encL, MC0, MC1, MC2, h] | refine gdD_of (fun h => ?_) (fun h => ?_) <;> simp only [VC0, VC1, VC2, VC3, VC4, VC5, VC6, reduceIte, reduceCtorEq, Nat.reduceEqDiff, Nat.reduceAdd, Nat.reduceMul, Nat.reduceBEq, Nat.reduceLT, Nat.reduceLeDiff, Int.reduceEq, Int.reduceLT, Int.reduceLE, Int.reduceNeg, Int.reduceToNat, Int.reduceAdd, Nat.reduceDiv, encL, MC0, MC1, MC2, h] | refine gdVMn_of (fun h => ?_) (fun h => ?_) <;> simp only [VC0, VC1, VC2, VC3, VC4, VC5, VC6, reduceIte, reduceCtorEq, Nat.reduceEqDiff, Nat.reduceAdd, Nat.reduceMul, Nat.reduceBEq, Nat.reduceLT, Nat.reduceLeDiff, Int.reduceEq, Int.reduceLT, Int.reduceLE, Int.reduceNeg, Int.reduceToNat, Int.reduceAdd, Nat.reduceDiv, encL, MC0, MC1, MC2, h] | refine gdVM_of (fun h => ?_) (fun h => ?_) <;> simp only [VC0, VC1, VC2, VC3, VC4, VC5, VC6, reduceIte, reduceCtorEq, Nat.reduceEqDiff, Nat.reduceAdd, Nat.reduceMul, Nat.reduceBEq, Nat.reduceLT, Nat.reduceLeDiff, Int.reduceEq, Int.reduceLT, Int.reduceLE, Int.reduceNeg, Int.reduceToNat, Int.reduceAdd, Nat.reduceDiv, encL, MC0, MC1, MC2, h] | refine gpDn_of (fun h => ?_) (fun h => ?_) <;> simp only [VC0, VC1, VC2, VC3, VC4, VC5, VC6, reduceIte, reduceCtorEq, Nat.reduceEqDiff, Nat.reduceAdd, Nat.reduceMul, Nat.reduceBEq, Nat.reduceLT, Nat.reduceLeDiff, Int.reduceEq, Int.reduceLT, Int.reduceLE, Int.reduceNeg, Int.reduceToNat, Int.reduceAdd, Nat.reduceDiv, encL, MC0, MC1, MC2, h] | refine gpD_of (fun h => ?_) (fun h => ?_) <;> simp only [VC0, VC1, VC2, VC3, VC4, VC5, VC6, reduceIte, reduceCtorEq, Nat.reduceEqDiff, Nat.reduceAdd, Nat.reduceMul, Nat.reduceBEq, Nat.reduceLT, Nat.reduceLeDiff, Int.reduceEq, Int.reduceLT, Int.reduceLE, Int.reduceNeg, Int.reduceToNat, Int.reduceAdd, Nat.reduceDiv, encL, MC0, MC1, MC2, h] | refine gdVn_of (fun h => ?_) (fun h => ?_) <;> simp only [VC0, VC1, VC2, VC3, VC4, VC5, VC6, reduceIte, reduceCtorEq, Nat.reduceEqDiff, Nat.reduceAdd, Nat.reduceMul, Nat.reduceBEq, Nat.reduceLT, Nat.reduceLeDiff, Int.reduceEq, Int.reduceLT, Int.reduceLE, Int.reduceNeg, Int.reduceToNat, Int.reduceAdd, Nat.reduceDiv, encL, MC0, MC1, MC2, h] | refine gdV_of (fun h => ?_) (fun h => ?_) <;> simp only [VC0, VC1, VC2, VC3, VC4, VC5, VC6, reduceIte, reduceCtorEq, Nat.reduceEqDiff, Nat.reduceAdd, Nat.reduceMul, Nat.reduceBEq, Nat.reduceLT, Nat.reduceLeDiff, Int.reduceEq, Int.reduceLT, Int.reduceLE, Int.reduceNeg, Int.reduceToNat, Int.reduceAdd, Nat.reduceDiv, encL, MC0, MC1, MC2, h] | refine callX_of (great_ret m hm) (by first | exact Or.inr rfl | exact Or.inl rfl) ?_ <;> simp only [VC0, VC1, VC2, VC3, VC4, VC5, VC6, reduceIte, reduceCtorEq, Nat.reduceEqDiff, Nat.reduceAdd, Nat.reduceMul, Nat.reduceBEq, Nat.reduceLT, Nat.reduceLeDiff, Int.reduceEq, Int.reduceLT, Int.reduceLE, Int.reduceNeg, Int.reduceToNat, Int.reduceAdd, Nat.reduceDiv, encL, MC0, MC1, MC2] | refine callX_of (may16_ret m hm) (by first | exact Or.inr rfl | exact Or.inl rfl) ?_ <;> simp only [VC0, VC1, VC2, VC3, VC4, VC5, VC6, reduceIte, reduceCtorEq, Nat.reduceEqDiff, Nat.reduceAdd, Nat.reduceMul, Nat.reduceBEq, Nat.reduceLT, Nat.reduceLeDiff, Int.reduceEq, Int.reduceLT, Int.reduceLE, Int.reduceNeg, Int.reduceToNat, Int.reduceAdd, Nat.reduceDiv, encL, MC0, MC1, MC2] | refine callX_of (told19_ret) (by first | exact Or.inr rfl | exact Or.inl rfl) ?_ <;> simp only [VC0, VC1, VC2, VC3, VC4, VC5, VC6, reduceIte, reduceCtorEq, Nat.reduceEqDiff, Nat.reduceAdd, Nat.reduceMul, Nat.reduceBEq, Nat.reduceLT, Nat.reduceLeDiff, Int.reduceEq, Int.reduceLT, Int.reduceLE, Int.reduceNeg, Int.reduceToNat, Int.reduceAdd, Nat.reduceDiv, encL, MC0, MC1, MC2] | (unfold InI64; omega) | refine And.intro ?_ ?_)
  rename_i hgr
  have hmay := h
  have hg := okG_of h
  have hN := hg.le
  have hlt := nx_lt hg
  have hsm := small_of hgr
  have hsl := hsm.l
  have hL1 : 1 ≤ m.locals.length := by
    simp only [mayB, Bool.and_eq_true] at hmay
    obtain ⟨⟨⟨h1, _⟩, _⟩, _⟩ := hmay
    simp only [mayHead, inB, Bool.and_eq_true, decide_eq_true_eq] at h1
    omega
  have hxi : ∀ (i : Nat) (h : i < m.code.length), m.code[i].next = ints (nx m i) := by
    intro i h
    have : nx m i = (m.code[i].next).map Int.toNat := by simp [nx, h]
    rw [this, ints_nx' fun y hy => ((hg.nx _ (List.getElem_mem h)).2 y hy).1]
  have hn2 : ∀ i, (nx m i).length ≤ 2 := by
    intro i
    simp only [nx]
    split
    · rename_i x hx
      rw [List.length_map]; exact (hg.nx x (List.mem_of_getElem? hx)).1
    · simp
  have hin := livein_ret m hm hgr
  rw [if_pos h] at hin
  have hTl := livTab_len m
  have hTr : ∀ (j : Nat) (h : j < (livTab m).length), ((livTab m)[j]).length = m.locals.length := fun j h => livTab_row h
  have hTa : ∀ (j u : Nat) (h2 : j < (livTab m).length) (h4 : u < ((livTab m)[j]).length), (livTab m)[j][u] = true ↔ Liv m j (u : Int) := fun j u h2 h4 => livTab_at h2 h4
  generalize livTab m = T at hin hTl hTr hTa
  refine callX_of hin (.inl rfl) ?_
  have hLne : ¬ (m.locals.length : Int) = 0 := by omega
  have hLne' : (m.locals.length : Int) ≠ 0 := hLne
  have hz1 := Int.tmod_lt_of_pos z (show (0 : Int) < m.locals.length by omega)
  have hz2 : -(m.locals.length : Int) < z.tmod m.locals.length := by
    have := Int.lt_tmod_of_pos z (show (0 : Int) < m.locals.length by omega)
    omega
  have hz3 : InI64 (z.tmod m.locals.length + m.locals.length) := by unfold InI64; omega
  obtain ⟨v, hv, hvL⟩ : ∃ v : Nat, (z.tmod m.locals.length + m.locals.length).tmod m.locals.length = (v : Int) ∧ v < m.locals.length := by
    have h1 := Int.tmod_lt_of_pos (z.tmod m.locals.length + m.locals.length) (show (0 : Int) < m.locals.length by omega)
    have h2 := Int.tmod_nonneg (a := z.tmod m.locals.length + m.locals.length) m.locals.length (by omega)
    exact ⟨((z.tmod m.locals.length + m.locals.length).tmod m.locals.length).toNat, by omega, by omega⟩
  simp only [VC0, VC1, VC2, VC3, VC4, VC5, VC6, reduceIte, reduceCtorEq, Nat.reduceEqDiff, Nat.reduceAdd, Nat.reduceMul, Nat.reduceBEq, Nat.reduceLT, Nat.reduceLeDiff, Int.reduceEq, Int.reduceLT, Int.reduceLE, Int.reduceNeg, Int.reduceToNat, Int.reduceAdd, Nat.reduceDiv, encL, MC0, MC1, MC2, hTl, hLne, hLne', hz3, hv, ne_eq]
  refine loop_vcg (ι := Nat × (Nat → Nat)) (fun (p, c) => stO [(2, .box m.cells), (5, .val (encL (cL cB) T)), (6, .val (.int .i64 v)), (7, .val (.int .i64 p))] c)
    (fun (p, _) => p ≤ m.code.length) (fun (p, _) => m.code.length - p) (0, _) (Nat.zero_le _) (ent_of _ [] rfl rfl (by simp only [VC0, VC1, VC2, VC3, VC4, VC5, VC6, reduceIte, reduceCtorEq, Nat.reduceEqDiff, Nat.reduceAdd, Nat.reduceMul, Nat.reduceBEq, Nat.reduceLT, Nat.reduceLeDiff, Int.reduceEq, Int.reduceLT, Int.reduceLE, Int.reduceNeg, Int.reduceToNat, Int.reduceAdd, Nat.reduceDiv, encL, MC0, MC1, MC2, hTl])) ?_
  rintro ⟨p, c⟩ hp
  simp only [VC0, VC1, VC2, VC3, VC4, VC5, VC6, reduceIte, reduceCtorEq, Nat.reduceEqDiff, Nat.reduceAdd, Nat.reduceMul, Nat.reduceBEq, Nat.reduceLT, Nat.reduceLeDiff, Int.reduceEq, Int.reduceLT, Int.reduceLE, Int.reduceNeg, Int.reduceToNat, Int.reduceAdd, Nat.reduceDiv, encL, MC0, MC1, MC2, hTl]
  refine condD_of (fun h => ?_) (fun h => ?_)
  · have hp' : p < m.code.length := by omega
    have hpin : 0 ≤ (p : Int) ∧ (p : Int) < m.code.length := by omega
    have hple : p + 1 ≤ m.code.length := hp'
    have hpT : p < T.length := by omega
    have hrow := hTr p hpT
    have hvT : v < T[p].length := by omega
    have hvin : 0 ≤ (v : Int) ∧ (v : Int) < m.locals.length := by omega
    have hpr : p < (List.replicate m.code.length false).length := by simpa using hp'
    simp only [VC0, VC1, VC2, VC3, VC4, VC5, VC6, reduceIte, reduceCtorEq, Nat.reduceEqDiff, Nat.reduceAdd, Nat.reduceMul, Nat.reduceBEq, Nat.reduceLT, Nat.reduceLeDiff, Int.reduceEq, Int.reduceLT, Int.reduceLE, Int.reduceNeg, Int.reduceToNat, Int.reduceAdd, Nat.reduceDiv, encL, MC0, MC1, MC2, hp', hpin, hTl, hpT, ld_cLB hpT, hrow, hple, lb_set hpr]
    refine And.intro (by omega) ?_
    refine join_vcg (ι := Bool × (Nat → Nat)) (fun (want, c) => stO [(2, .box m.cells), (5, .val (encL (cL cB) T)), (6, .val (.int .i64 v)), (7, .val (.int .i64 p)), (8, .val (.bool want))] c) (fun (want, _) => want = true ↔ Liv m p (v : Int)) ?_ ?_
    · simp only [VC0, VC1, VC2, VC3, VC4, VC5, VC6, reduceIte, reduceCtorEq, Nat.reduceEqDiff, Nat.reduceAdd, Nat.reduceMul, Nat.reduceBEq, Nat.reduceLT, Nat.reduceLeDiff, Int.reduceEq, Int.reduceLT, Int.reduceLE, Int.reduceNeg, Int.reduceToNat, Int.reduceAdd, Nat.reduceDiv, encL, MC0, MC1, MC2]
      refine loop_vcg (ι := Nat × List Nat × List Bool × Bool × (Nat → Nat)) (fun (i, W, S, want, c) => stO [(2, .box m.cells), (5, .val (encL (cL cB) T)), (6, .val (.int .i64 v)), (7, .val (.int .i64 p)), (8, .val (.bool want)), (9, .own 1 m.code.length (S.flatMap cB)), (10, .own 1 W.length ((ints W).flatMap cI)), (11, .val (.int .i64 i))] c)
        (fun (i, W, S, want, _) => i ≤ W.length ∧ S.length = m.code.length ∧ W.length + unB S ≤ m.code.length ∧ LW m v p i W (fun u => S.getD u false) want) (fun (i, W, S, _, _) => W.length + 2 * unB S - i)
        (0, [p], (List.replicate m.code.length false).set p true, false, _) ⟨Nat.zero_le _, by simp, ?_, ?_⟩ (ent_of _ [] rfl rfl (by simp only [VC0, VC1, VC2, VC3, VC4, VC5, VC6, reduceIte, reduceCtorEq, Nat.reduceEqDiff, Nat.reduceAdd, Nat.reduceMul, Nat.reduceBEq, Nat.reduceLT, Nat.reduceLeDiff, Int.reduceEq, Int.reduceLT, Int.reduceLE, Int.reduceNeg, Int.reduceToNat, Int.reduceAdd, Nat.reduceDiv, encL, MC0, MC1, MC2, hTl, ints, List.map_cons, List.map_nil]; try simp [cI, imV])) ?_
      · have h1 := unB_set (l := List.replicate m.code.length false) (k := p) hpr (by simp)
        have h2 := unB_le (List.replicate m.code.length false)
        rw [List.length_replicate] at h2
        simp only [List.length_singleton]
        omega
      · refine LW.start hp' (fun u hu => ?_)
        rw [getB_set hpr] at hu
        split at hu
        · assumption
        · rw [List.getD_eq_getElem?_getD, List.getElem?_replicate] at hu
          split at hu <;> cases hu
      · rintro ⟨i, W, S, want, c⟩ ⟨hi, hSl, hWb, B⟩
        have hWi := ints_len W
        cases want with
        | true =>
          simp only [VC0, VC1, VC2, VC3, VC4, VC5, VC6, reduceIte, reduceCtorEq, Nat.reduceEqDiff, Nat.reduceAdd, Nat.reduceMul, Nat.reduceBEq, Nat.reduceLT, Nat.reduceLeDiff, Int.reduceEq, Int.reduceLT, Int.reduceLE, Int.reduceNeg, Int.reduceToNat, Int.reduceAdd, Nat.reduceDiv, encL, MC0, MC1, MC2, hWi]
          repeat' (first | refine condDn_of (fun h => ?_) (fun h => ?_) <;> simp only [VC0, VC1, VC2, VC3, VC4, VC5, VC6, reduceIte, reduceCtorEq, Nat.reduceEqDiff, Nat.reduceAdd, Nat.reduceMul, Nat.reduceBEq, Nat.reduceLT, Nat.reduceLeDiff, Int.reduceEq, Int.reduceLT, Int.reduceLE, Int.reduceNeg, Int.reduceToNat, Int.reduceAdd, Nat.reduceDiv, encL, MC0, MC1, MC2, h] | refine condD_of (fun h => ?_) (fun h => ?_) <;> simp only [VC0, VC1, VC2, VC3, VC4, VC5, VC6, reduceIte, reduceCtorEq, Nat.reduceEqDiff, Nat.reduceAdd, Nat.reduceMul, Nat.reduceBEq, Nat.reduceLT, Nat.reduceLeDiff, Int.reduceEq, Int.reduceLT, Int.reduceLE, Int.reduceNeg, Int.reduceToNat, Int.reduceAdd, Nat.reduceDiv, encL, MC0, MC1, MC2, h] | refine condVn_of (fun h => ?_) (fun h => ?_) <;> simp only [VC0, VC1, VC2, VC3, VC4, VC5, VC6, reduceIte, reduceCtorEq, Nat.reduceEqDiff, Nat.reduceAdd, Nat.reduceMul, Nat.reduceBEq, Nat.reduceLT, Nat.reduceLeDiff, Int.reduceEq, Int.reduceLT, Int.reduceLE, Int.reduceNeg, Int.reduceToNat, Int.reduceAdd, Nat.reduceDiv, encL, MC0, MC1, MC2, h] | refine condV_of (fun h => ?_) (fun h => ?_) <;> simp only [VC0, VC1, VC2, VC3, VC4, VC5, VC6, reduceIte, reduceCtorEq, Nat.reduceEqDiff, Nat.reduceAdd, Nat.reduceMul, Nat.reduceBEq, Nat.reduceLT, Nat.reduceLeDiff, Int.reduceEq, Int.reduceLT, Int.reduceLE, Int.reduceNeg, Int.reduceToNat, Int.reduceAdd, Nat.reduceDiv, encL, MC0, MC1, MC2, h] | refine gdDn_of (fun h => ?_) (fun h => ?_) <;> simp only [VC0, VC1, VC2, VC3, VC4, VC5, VC6, reduceIte, reduceCtorEq, Nat.reduceEqDiff, Nat.reduceAdd, Nat.reduceMul, Nat.reduceBEq, Nat.reduceLT, Nat.reduceLeDiff, Int.reduceEq, Int.reduceLT, Int.reduceLE, Int.reduceNeg, Int.reduceToNat, Int.reduceAdd, Nat.reduceDiv, encL, MC0, MC1, MC2, h] | refine gdD_of (fun h => ?_) (fun h => ?_) <;> simp only [VC0, VC1, VC2, VC3, VC4, VC5, VC6, reduceIte, reduceCtorEq, Nat.reduceEqDiff, Nat.reduceAdd, Nat.reduceMul, Nat.reduceBEq, Nat.reduceLT, Nat.reduceLeDiff, Int.reduceEq, Int.reduceLT, Int.reduceLE, Int.reduceNeg, Int.reduceToNat, Int.reduceAdd, Nat.reduceDiv, encL, MC0, MC1, MC2, h] | refine gdVMn_of (fun h => ?_) (fun h => ?_) <;> simp only [VC0, VC1, VC2, VC3, VC4, VC5, VC6, reduceIte, reduceCtorEq, Nat.reduceEqDiff, Nat.reduceAdd, Nat.reduceMul, Nat.reduceBEq, Nat.reduceLT, Nat.reduceLeDiff, Int.reduceEq, Int.reduceLT, Int.reduceLE, Int.reduceNeg, Int.reduceToNat, Int.reduceAdd, Nat.reduceDiv, encL, MC0, MC1, MC2, h] | refine gdVM_of (fun h => ?_) (fun h => ?_) <;> simp only [VC0, VC1, VC2, VC3, VC4, VC5, VC6, reduceIte, reduceCtorEq, Nat.reduceEqDiff, Nat.reduceAdd, Nat.reduceMul, Nat.reduceBEq, Nat.reduceLT, Nat.reduceLeDiff, Int.reduceEq, Int.reduceLT, Int.reduceLE, Int.reduceNeg, Int.reduceToNat, Int.reduceAdd, Nat.reduceDiv, encL, MC0, MC1, MC2, h] | refine gpDn_of (fun h => ?_) (fun h => ?_) <;> simp only [VC0, VC1, VC2, VC3, VC4, VC5, VC6, reduceIte, reduceCtorEq, Nat.reduceEqDiff, Nat.reduceAdd, Nat.reduceMul, Nat.reduceBEq, Nat.reduceLT, Nat.reduceLeDiff, Int.reduceEq, Int.reduceLT, Int.reduceLE, Int.reduceNeg, Int.reduceToNat, Int.reduceAdd, Nat.reduceDiv, encL, MC0, MC1, MC2, h] | refine gpD_of (fun h => ?_) (fun h => ?_) <;> simp only [VC0, VC1, VC2, VC3, VC4, VC5, VC6, reduceIte, reduceCtorEq, Nat.reduceEqDiff, Nat.reduceAdd, Nat.reduceMul, Nat.reduceBEq, Nat.reduceLT, Nat.reduceLeDiff, Int.reduceEq, Int.reduceLT, Int.reduceLE, Int.reduceNeg, Int.reduceToNat, Int.reduceAdd, Nat.reduceDiv, encL, MC0, MC1, MC2, h] | refine gdVn_of (fun h => ?_) (fun h => ?_) <;> simp only [VC0, VC1, VC2, VC3, VC4, VC5, VC6, reduceIte, reduceCtorEq, Nat.reduceEqDiff, Nat.reduceAdd, Nat.reduceMul, Nat.reduceBEq, Nat.reduceLT, Nat.reduceLeDiff, Int.reduceEq, Int.reduceLT, Int.reduceLE, Int.reduceNeg, Int.reduceToNat, Int.reduceAdd, Nat.reduceDiv, encL, MC0, MC1, MC2, h] | refine gdV_of (fun h => ?_) (fun h => ?_) <;> simp only [VC0, VC1, VC2, VC3, VC4, VC5, VC6, reduceIte, reduceCtorEq, Nat.reduceEqDiff, Nat.reduceAdd, Nat.reduceMul, Nat.reduceBEq, Nat.reduceLT, Nat.reduceLeDiff, Int.reduceEq, Int.reduceLT, Int.reduceLE, Int.reduceNeg, Int.reduceToNat, Int.reduceAdd, Nat.reduceDiv, encL, MC0, MC1, MC2, h] | (unfold InI64; omega) | refine And.intro ?_ ?_)
          all_goals exact joinTo_of (true, _) (B.fin (.inl rfl)) (ent_of _ [] rfl rfl (by simp only [VC0, VC1, VC2, VC3, VC4, VC5, VC6, reduceIte, reduceCtorEq, Nat.reduceEqDiff, Nat.reduceAdd, Nat.reduceMul, Nat.reduceBEq, Nat.reduceLT, Nat.reduceLeDiff, Int.reduceEq, Int.reduceLT, Int.reduceLE, Int.reduceNeg, Int.reduceToNat, Int.reduceAdd, Nat.reduceDiv, encL, MC0, MC1, MC2, hTl]))
        | false =>
          by_cases hiW : i < W.length
          case neg =>
            have hiW' : ¬ ((i : Int) < (W.length : Int)) := by omega
            simp only [VC0, VC1, VC2, VC3, VC4, VC5, VC6, reduceIte, reduceCtorEq, Nat.reduceEqDiff, Nat.reduceAdd, Nat.reduceMul, Nat.reduceBEq, Nat.reduceLT, Nat.reduceLeDiff, Int.reduceEq, Int.reduceLT, Int.reduceLE, Int.reduceNeg, Int.reduceToNat, Int.reduceAdd, Nat.reduceDiv, encL, MC0, MC1, MC2, hWi, hiW']
            exact joinTo_of (false, _) (B.fin (.inr (by omega))) (ent_of _ [] rfl rfl (by simp only [VC0, VC1, VC2, VC3, VC4, VC5, VC6, reduceIte, reduceCtorEq, Nat.reduceEqDiff, Nat.reduceAdd, Nat.reduceMul, Nat.reduceBEq, Nat.reduceLT, Nat.reduceLeDiff, Int.reduceEq, Int.reduceLT, Int.reduceLE, Int.reduceNeg, Int.reduceToNat, Int.reduceAdd, Nat.reduceDiv, encL, MC0, MC1, MC2, hTl]))
          have hiW' : (i : Int) < (W.length : Int) := by omega
          have hiin : 0 ≤ (i : Int) ∧ (i : Int) < (W.length : Int) := by omega
          have huN := (B.w _ (List.getElem_mem hiW)).1
          generalize hu : W[i] = u at huN
          have hui : W[i]? = some u := by rw [List.getElem?_eq_getElem hiW, hu]
          have huin : 0 ≤ (u : Int) ∧ (u : Int) < m.code.length := by omega
          have hua := hsm.a _ (List.getElem_mem huN)
          have hul := usesL_len m.code[u]
          have hus := us_at huN
          have hscu := sc_at huN
          have hxu := hxi u huN
          simp only [VC0, VC1, VC2, VC3, VC4, VC5, VC6, reduceIte, reduceCtorEq, Nat.reduceEqDiff, Nat.reduceAdd, Nat.reduceMul, Nat.reduceBEq, Nat.reduceLT, Nat.reduceLeDiff, Int.reduceEq, Int.reduceLT, Int.reduceLE, Int.reduceNeg, Int.reduceToNat, Int.reduceAdd, Nat.reduceDiv, encL, MC0, MC1, MC2, hWi, hiW', hiW, hiin, ints_get, hu, huin, huN]
          generalize m.code[u] = x at hua hul hus hscu hxu
          refine callX_of (uses_own x (by omega)).ret (.inl rfl) ?_
          rw [← hus] at hul
          simp only [VC0, VC1, VC2, VC3, VC4, VC5, VC6, reduceIte, reduceCtorEq, Nat.reduceEqDiff, Nat.reduceAdd, Nat.reduceMul, Nat.reduceBEq, Nat.reduceLT, Nat.reduceLeDiff, Int.reduceEq, Int.reduceLT, Int.reduceLE, Int.reduceNeg, Int.reduceToNat, Int.reduceAdd, Nat.reduceDiv, encL, MC0, MC1, MC2, ← hus]
          generalize hU : us m u = U at hul
          refine loop_vcg (ι := Nat × (Nat → Nat)) (fun (k, c) => stO [(2, .box m.cells), (5, .val (encL (cL cB) T)), (6, .val (.int .i64 v)), (7, .val (.int .i64 p)), (8, .val (.bool (decide ((v : Int) ∈ U.take k)))), (9, .own 1 m.code.length (S.flatMap cB)), (10, .own 1 W.length ((ints W).flatMap cI)), (11, .val (.int .i64 i)), (12, .box x.cells), (13, .val (encL cI U)), (14, .val (.int .i64 k))] c)
            (fun (k, _) => k ≤ U.length) (fun (k, _) => U.length - k) (0, _) (Nat.zero_le _) (ent_of _ [] rfl rfl (by simp only [VC0, VC1, VC2, VC3, VC4, VC5, VC6, reduceIte, reduceCtorEq, Nat.reduceEqDiff, Nat.reduceAdd, Nat.reduceMul, Nat.reduceBEq, Nat.reduceLT, Nat.reduceLeDiff, Int.reduceEq, Int.reduceLT, Int.reduceLE, Int.reduceNeg, Int.reduceToNat, Int.reduceAdd, Nat.reduceDiv, encL, MC0, MC1, MC2, hTl, hWi, List.take_zero])) ?_
          rintro ⟨k, c⟩ hk
          simp only [VC0, VC1, VC2, VC3, VC4, VC5, VC6, reduceIte, reduceCtorEq, Nat.reduceEqDiff, Nat.reduceAdd, Nat.reduceMul, Nat.reduceBEq, Nat.reduceLT, Nat.reduceLeDiff, Int.reduceEq, Int.reduceLT, Int.reduceLE, Int.reduceNeg, Int.reduceToNat, Int.reduceAdd, Nat.reduceDiv, encL, MC0, MC1, MC2]
          refine condD_of (fun h => ?_) (fun h => ?_)
          · have hk' : k < U.length := by omega
            have hkin : 0 ≤ (k : Int) ∧ (k : Int) < U.length := by omega
            have hkI : InI64 ((k : Int) + 1) := by unfold InI64; omega
            have htk : decide ((v : Int) ∈ U.take (k + 1)) = (decide ((v : Int) ∈ U.take k) || decide (U[k] = (v : Int))) := by
              rw [List.take_succ_eq_append_getElem hk', Bool.eq_iff_iff]
              simp only [List.mem_append, List.mem_singleton, decide_eq_true_eq, Bool.or_eq_true]
              exact or_congr Iff.rfl eq_comm
            simp only [VC0, VC1, VC2, VC3, VC4, VC5, VC6, reduceIte, reduceCtorEq, Nat.reduceEqDiff, Nat.reduceAdd, Nat.reduceMul, Nat.reduceBEq, Nat.reduceLT, Nat.reduceLeDiff, Int.reduceEq, Int.reduceLT, Int.reduceLE, Int.reduceNeg, Int.reduceToNat, Int.reduceAdd, Nat.reduceDiv, encL, MC0, MC1, MC2, hk', hkin]
            repeat' (first | refine condDn_of (fun h => ?_) (fun h => ?_) <;> simp only [VC0, VC1, VC2, VC3, VC4, VC5, VC6, reduceIte, reduceCtorEq, Nat.reduceEqDiff, Nat.reduceAdd, Nat.reduceMul, Nat.reduceBEq, Nat.reduceLT, Nat.reduceLeDiff, Int.reduceEq, Int.reduceLT, Int.reduceLE, Int.reduceNeg, Int.reduceToNat, Int.reduceAdd, Nat.reduceDiv, encL, MC0, MC1, MC2, h, hk', hkin, hkI] | refine condD_of (fun h => ?_) (fun h => ?_) <;> simp only [VC0, VC1, VC2, VC3, VC4, VC5, VC6, reduceIte, reduceCtorEq, Nat.reduceEqDiff, Nat.reduceAdd, Nat.reduceMul, Nat.reduceBEq, Nat.reduceLT, Nat.reduceLeDiff, Int.reduceEq, Int.reduceLT, Int.reduceLE, Int.reduceNeg, Int.reduceToNat, Int.reduceAdd, Nat.reduceDiv, encL, MC0, MC1, MC2, h, hk', hkin, hkI] | refine condVn_of (fun h => ?_) (fun h => ?_) <;> simp only [VC0, VC1, VC2, VC3, VC4, VC5, VC6, reduceIte, reduceCtorEq, Nat.reduceEqDiff, Nat.reduceAdd, Nat.reduceMul, Nat.reduceBEq, Nat.reduceLT, Nat.reduceLeDiff, Int.reduceEq, Int.reduceLT, Int.reduceLE, Int.reduceNeg, Int.reduceToNat, Int.reduceAdd, Nat.reduceDiv, encL, MC0, MC1, MC2, h, hk', hkin, hkI] | refine condV_of (fun h => ?_) (fun h => ?_) <;> simp only [VC0, VC1, VC2, VC3, VC4, VC5, VC6, reduceIte, reduceCtorEq, Nat.reduceEqDiff, Nat.reduceAdd, Nat.reduceMul, Nat.reduceBEq, Nat.reduceLT, Nat.reduceLeDiff, Int.reduceEq, Int.reduceLT, Int.reduceLE, Int.reduceNeg, Int.reduceToNat, Int.reduceAdd, Nat.reduceDiv, encL, MC0, MC1, MC2, h, hk', hkin, hkI] | refine gdDn_of (fun h => ?_) (fun h => ?_) <;> simp only [VC0, VC1, VC2, VC3, VC4, VC5, VC6, reduceIte, reduceCtorEq, Nat.reduceEqDiff, Nat.reduceAdd, Nat.reduceMul, Nat.reduceBEq, Nat.reduceLT, Nat.reduceLeDiff, Int.reduceEq, Int.reduceLT, Int.reduceLE, Int.reduceNeg, Int.reduceToNat, Int.reduceAdd, Nat.reduceDiv, encL, MC0, MC1, MC2, h, hk', hkin, hkI] | refine gdD_of (fun h => ?_) (fun h => ?_) <;> simp only [VC0, VC1, VC2, VC3, VC4, VC5, VC6, reduceIte, reduceCtorEq, Nat.reduceEqDiff, Nat.reduceAdd, Nat.reduceMul, Nat.reduceBEq, Nat.reduceLT, Nat.reduceLeDiff, Int.reduceEq, Int.reduceLT, Int.reduceLE, Int.reduceNeg, Int.reduceToNat, Int.reduceAdd, Nat.reduceDiv, encL, MC0, MC1, MC2, h, hk', hkin, hkI] | refine gdVMn_of (fun h => ?_) (fun h => ?_) <;> simp only [VC0, VC1, VC2, VC3, VC4, VC5, VC6, reduceIte, reduceCtorEq, Nat.reduceEqDiff, Nat.reduceAdd, Nat.reduceMul, Nat.reduceBEq, Nat.reduceLT, Nat.reduceLeDiff, Int.reduceEq, Int.reduceLT, Int.reduceLE, Int.reduceNeg, Int.reduceToNat, Int.reduceAdd, Nat.reduceDiv, encL, MC0, MC1, MC2, h, hk', hkin, hkI] | refine gdVM_of (fun h => ?_) (fun h => ?_) <;> simp only [VC0, VC1, VC2, VC3, VC4, VC5, VC6, reduceIte, reduceCtorEq, Nat.reduceEqDiff, Nat.reduceAdd, Nat.reduceMul, Nat.reduceBEq, Nat.reduceLT, Nat.reduceLeDiff, Int.reduceEq, Int.reduceLT, Int.reduceLE, Int.reduceNeg, Int.reduceToNat, Int.reduceAdd, Nat.reduceDiv, encL, MC0, MC1, MC2, h, hk', hkin, hkI] | refine gpDn_of (fun h => ?_) (fun h => ?_) <;> simp only [VC0, VC1, VC2, VC3, VC4, VC5, VC6, reduceIte, reduceCtorEq, Nat.reduceEqDiff, Nat.reduceAdd, Nat.reduceMul, Nat.reduceBEq, Nat.reduceLT, Nat.reduceLeDiff, Int.reduceEq, Int.reduceLT, Int.reduceLE, Int.reduceNeg, Int.reduceToNat, Int.reduceAdd, Nat.reduceDiv, encL, MC0, MC1, MC2, h, hk', hkin, hkI] | refine gpD_of (fun h => ?_) (fun h => ?_) <;> simp only [VC0, VC1, VC2, VC3, VC4, VC5, VC6, reduceIte, reduceCtorEq, Nat.reduceEqDiff, Nat.reduceAdd, Nat.reduceMul, Nat.reduceBEq, Nat.reduceLT, Nat.reduceLeDiff, Int.reduceEq, Int.reduceLT, Int.reduceLE, Int.reduceNeg, Int.reduceToNat, Int.reduceAdd, Nat.reduceDiv, encL, MC0, MC1, MC2, h, hk', hkin, hkI] | refine gdVn_of (fun h => ?_) (fun h => ?_) <;> simp only [VC0, VC1, VC2, VC3, VC4, VC5, VC6, reduceIte, reduceCtorEq, Nat.reduceEqDiff, Nat.reduceAdd, Nat.reduceMul, Nat.reduceBEq, Nat.reduceLT, Nat.reduceLeDiff, Int.reduceEq, Int.reduceLT, Int.reduceLE, Int.reduceNeg, Int.reduceToNat, Int.reduceAdd, Nat.reduceDiv, encL, MC0, MC1, MC2, h, hk', hkin, hkI] | refine gdV_of (fun h => ?_) (fun h => ?_) <;> simp only [VC0, VC1, VC2, VC3, VC4, VC5, VC6, reduceIte, reduceCtorEq, Nat.reduceEqDiff, Nat.reduceAdd, Nat.reduceMul, Nat.reduceBEq, Nat.reduceLT, Nat.reduceLeDiff, Int.reduceEq, Int.reduceLT, Int.reduceLE, Int.reduceNeg, Int.reduceToNat, Int.reduceAdd, Nat.reduceDiv, encL, MC0, MC1, MC2, h, hk', hkin, hkI] | (unfold InI64; omega) | refine And.intro ?_ ?_)
            all_goals exact backTo_of (k + 1, _) hk' (by simp only []; omega) (ent_of _ [] rfl rfl (by simp only [VC0, VC1, VC2, VC3, VC4, VC5, VC6, reduceIte, reduceCtorEq, Nat.reduceEqDiff, Nat.reduceAdd, Nat.reduceMul, Nat.reduceBEq, Nat.reduceLT, Nat.reduceLeDiff, Int.reduceEq, Int.reduceLT, Int.reduceLE, Int.reduceNeg, Int.reduceToNat, Int.reduceAdd, Nat.reduceDiv, encL, MC0, MC1, MC2, hTl, hWi, htk, h]))
          · have hk' : k = U.length := by omega
            subst hk'
            simp only [VC0, VC1, VC2, VC3, VC4, VC5, VC6, reduceIte, reduceCtorEq, Nat.reduceEqDiff, Nat.reduceAdd, Nat.reduceMul, Nat.reduceBEq, Nat.reduceLT, Nat.reduceLeDiff, Int.reduceEq, Int.reduceLT, Int.reduceLE, Int.reduceNeg, Int.reduceToNat, Int.reduceAdd, Nat.reduceDiv, encL, MC0, MC1, MC2, List.take_length]
            refine callX_of (sets_ret x) (.inr rfl) ?_
            have B1 : LW m v p i W (fun u => S.getD u false) (decide ((v : Int) ∈ U)) := B.seeUse hiW (by rw [hu, hU])
            have hiI : InI64 ((i : Int) + 1) := by unfold InI64; omega
            simp only [VC0, VC1, VC2, VC3, VC4, VC5, VC6, reduceIte, reduceCtorEq, Nat.reduceEqDiff, Nat.reduceAdd, Nat.reduceMul, Nat.reduceBEq, Nat.reduceLT, Nat.reduceLeDiff, Int.reduceEq, Int.reduceLT, Int.reduceLE, Int.reduceNeg, Int.reduceToNat, Int.reduceAdd, Nat.reduceDiv, encL, MC0, MC1, MC2, List.getElem?_cons_zero, List.getElem?_cons_succ]
            by_cases hset : (setsL x).2 = true ∧ (setsL x).1 = (v : Int)
            · simp only [VC0, VC1, VC2, VC3, VC4, VC5, VC6, reduceIte, reduceCtorEq, Nat.reduceEqDiff, Nat.reduceAdd, Nat.reduceMul, Nat.reduceBEq, Nat.reduceLT, Nat.reduceLeDiff, Int.reduceEq, Int.reduceLT, Int.reduceLE, Int.reduceNeg, Int.reduceToNat, Int.reduceAdd, Nat.reduceDiv, encL, MC0, MC1, MC2, hset.1, hset.2, hiI]
              have B2 := B1.set hiW (by rw [hu, hU]) (by rw [hu, hscu]; exact Prod.ext hset.2 hset.1)
              exact backTo_of (i + 1, W, S, decide ((v : Int) ∈ U), _) ⟨hiW, hSl, hWb, B2⟩ (by simp only []; omega) (ent_of _ [] rfl rfl (by simp only [VC0, VC1, VC2, VC3, VC4, VC5, VC6, reduceIte, reduceCtorEq, Nat.reduceEqDiff, Nat.reduceAdd, Nat.reduceMul, Nat.reduceBEq, Nat.reduceLT, Nat.reduceLeDiff, Int.reduceEq, Int.reduceLT, Int.reduceLE, Int.reduceNeg, Int.reduceToNat, Int.reduceAdd, Nat.reduceDiv, encL, MC0, MC1, MC2, hTl, hWi]))
            · have hsc : sc m W[i] ≠ ((v : Int), true) := by
                rw [hu, hscu]; intro e
                exact hset ⟨congrArg Prod.snd e, congrArg Prod.fst e⟩
              have hset' : (setsL x).2 = true → ¬ (setsL x).1 = (v : Int) := fun a b => hset ⟨a, b⟩
              have hnl := ints_len (nx m u)
              have hn2u := hn2 u
              have hnu : ∀ y ∈ nx m u, y < m.code.length := hlt u
              refine gdVM_of (fun hs => ?_) (fun hs => ?_)
              all_goals first
                | simp only [VC0, VC1, VC2, VC3, VC4, VC5, VC6, reduceIte, reduceCtorEq, Nat.reduceEqDiff, Nat.reduceAdd, Nat.reduceMul, Nat.reduceBEq, Nat.reduceLT, Nat.reduceLeDiff, Int.reduceEq, Int.reduceLT, Int.reduceLE, Int.reduceNeg, Int.reduceToNat, Int.reduceAdd, Nat.reduceDiv, encL, MC0, MC1, MC2, hs, hset' hs, hxu, hnl]
                | simp only [VC0, VC1, VC2, VC3, VC4, VC5, VC6, reduceIte, reduceCtorEq, Nat.reduceEqDiff, Nat.reduceAdd, Nat.reduceMul, Nat.reduceBEq, Nat.reduceLT, Nat.reduceLeDiff, Int.reduceEq, Int.reduceLT, Int.reduceLE, Int.reduceNeg, Int.reduceToNat, Int.reduceAdd, Nat.reduceDiv, encL, MC0, MC1, MC2, hs, hxu, hnl]
              all_goals
                refine loop_vcg (ι := Nat × List Nat × List Bool × (Nat → Nat)) (fun (k, W, S, c) => stO [(2, .box m.cells), (5, .val (encL (cL cB) T)), (6, .val (.int .i64 v)), (7, .val (.int .i64 p)), (8, .val (.bool (decide ((v : Int) ∈ U)))), (9, .own 1 m.code.length (S.flatMap cB)), (10, .own 1 W.length ((ints W).flatMap cI)), (11, .val (.int .i64 i)), (12, .box x.cells), (17, .val (.int .i64 k))] c)
                  (fun (k, W', S', _) => k ≤ (nx m u).length ∧ S'.length = m.code.length ∧ W'.length + unB S' ≤ m.code.length ∧ W'[i]? = some u ∧ W'.length + 2 * unB S' ≤ W.length + 2 * unB S ∧ (∀ y ∈ (nx m u).take k, y ∈ W') ∧ LW m v p i W' (fun u => S'.getD u false) (decide ((v : Int) ∈ U))) (fun (k, _, _, _) => (nx m u).length - k)
                  (0, W, S, _) ⟨Nat.zero_le _, hSl, hWb, hui, Nat.le_refl _, fun y hy => (by simp at hy), B1⟩ (ent_of _ [] rfl rfl (by simp only [VC0, VC1, VC2, VC3, VC4, VC5, VC6, reduceIte, reduceCtorEq, Nat.reduceEqDiff, Nat.reduceAdd, Nat.reduceMul, Nat.reduceBEq, Nat.reduceLT, Nat.reduceLeDiff, Int.reduceEq, Int.reduceLT, Int.reduceLE, Int.reduceNeg, Int.reduceToNat, Int.reduceAdd, Nat.reduceDiv, encL, MC0, MC1, MC2, hTl, hWi])) ?_
                rintro ⟨k, W', S', c⟩ ⟨hk, hSl', hWb', hui', hms, hty, B'⟩
                have hWi' := ints_len W'
                obtain ⟨hiW2, huW⟩ := List.getElem?_eq_some_iff.1 hui'
                simp only [VC0, VC1, VC2, VC3, VC4, VC5, VC6, reduceIte, reduceCtorEq, Nat.reduceEqDiff, Nat.reduceAdd, Nat.reduceMul, Nat.reduceBEq, Nat.reduceLT, Nat.reduceLeDiff, Int.reduceEq, Int.reduceLT, Int.reduceLE, Int.reduceNeg, Int.reduceToNat, Int.reduceAdd, Nat.reduceDiv, encL, MC0, MC1, MC2, hxu, hnl, hWi']
                refine condD_of (fun h => ?_) (fun h => ?_)
                · have hk' : k < (nx m u).length := by omega
                  have hki : k < (ints (nx m u)).length := by omega
                  have hkin : 0 ≤ (k : Int) ∧ (k : Int) < (nx m u).length := by omega
                  have htN : (nx m u)[k] < m.code.length := hnu _ (List.getElem_mem hk')
                  have htm : (nx m u)[k] ∈ nx m W'[i] := by rw [huW]; exact List.getElem_mem hk'
                  have htk : (nx m u).take (k + 1) = (nx m u).take k ++ [(nx m u)[k]] := List.take_succ_eq_append_getElem hk'
                  generalize ht : (nx m u)[k] = t at htN htm htk
                  have htin : 0 ≤ (t : Int) ∧ (t : Int) < m.code.length := by omega
                  have htS : t < S'.length := by omega
                  have htle : t + 1 ≤ m.code.length := htN
                  have hSt : S'[t] = S'.getD t false := by simp [htS]
                  have hkI : InI64 ((k : Int) + 1) := by unfold InI64; omega
                  simp only [VC0, VC1, VC2, VC3, VC4, VC5, VC6, reduceIte, reduceCtorEq, Nat.reduceEqDiff, Nat.reduceAdd, Nat.reduceMul, Nat.reduceBEq, Nat.reduceLT, Nat.reduceLeDiff, Int.reduceEq, Int.reduceLT, Int.reduceLE, Int.reduceNeg, Int.reduceToNat, Int.reduceAdd, Nat.reduceDiv, encL, MC0, MC1, MC2, hxu, hnl, hk', hki, hkin, ints_get, ht, htin, htS, htN, hSl', hSt]
                  refine condVn_of (fun h => ?_) (fun h => ?_)
                  · simp only [VC0, VC1, VC2, VC3, VC4, VC5, VC6, reduceIte, reduceCtorEq, Nat.reduceEqDiff, Nat.reduceAdd, Nat.reduceMul, Nat.reduceBEq, Nat.reduceLT, Nat.reduceLeDiff, Int.reduceEq, Int.reduceLT, Int.reduceLE, Int.reduceNeg, Int.reduceToNat, Int.reduceAdd, Nat.reduceDiv, encL, MC0, MC1, MC2, hxu, hnl, hk', hki, hkin, ints_get, ht, htin, htS, htN, hSl', htle, lb_set htS, hWi', ints_app]
                    have h0 := unB_set htS (by rw [hSt]; exact h)
                    have B2 := B'.push hiW2 htm htN (by rw [huW, ← hu]; exact hsc) (S' := fun w => (S'.set t true).getD w false) (fun w => getB_set htS w)
                    refine And.intro (And.intro (by omega) (by omega)) (And.intro hkI (backTo_of (k + 1, W' ++ [t], S'.set t true, _) ⟨hk', by simp [hSl'], by simp only [List.length_append, List.length_singleton]; omega, by rw [List.getElem?_append_left hiW2]; exact hui', by simp only [List.length_append, List.length_singleton]; omega, fun y hy => ?_, B2⟩ (by simp only []; omega) (ent_of _ [] rfl rfl (by simp only [VC0, VC1, VC2, VC3, VC4, VC5, VC6, reduceIte, reduceCtorEq, Nat.reduceEqDiff, Nat.reduceAdd, Nat.reduceMul, Nat.reduceBEq, Nat.reduceLT, Nat.reduceLeDiff, Int.reduceEq, Int.reduceLT, Int.reduceLE, Int.reduceNeg, Int.reduceToNat, Int.reduceAdd, Nat.reduceDiv, encL, MC0, MC1, MC2, hTl, hWi']))))
                    simp only [htk, List.mem_append, List.mem_singleton] at hy ⊢
                    exact hy.imp (hty y) id
                  · simp only [VC0, VC1, VC2, VC3, VC4, VC5, VC6, reduceIte, reduceCtorEq, Nat.reduceEqDiff, Nat.reduceAdd, Nat.reduceMul, Nat.reduceBEq, Nat.reduceLT, Nat.reduceLeDiff, Int.reduceEq, Int.reduceLT, Int.reduceLE, Int.reduceNeg, Int.reduceToNat, Int.reduceAdd, Nat.reduceDiv, encL, MC0, MC1, MC2]
                    refine And.intro hkI (backTo_of (k + 1, W', S', _) ⟨hk', hSl', hWb', hui', hms, fun y hy => ?_, B'⟩ (by simp only []; omega) (ent_of _ [] rfl rfl (by simp only [VC0, VC1, VC2, VC3, VC4, VC5, VC6, reduceIte, reduceCtorEq, Nat.reduceEqDiff, Nat.reduceAdd, Nat.reduceMul, Nat.reduceBEq, Nat.reduceLT, Nat.reduceLeDiff, Int.reduceEq, Int.reduceLT, Int.reduceLE, Int.reduceNeg, Int.reduceToNat, Int.reduceAdd, Nat.reduceDiv, encL, MC0, MC1, MC2, hTl, hWi'])))
                    simp only [htk, List.mem_append, List.mem_singleton] at hy
                    rcases hy with hy | rfl
                    · exact hty y hy
                    · exact B'.s _ h
                · have hk' : k = (nx m u).length := by omega
                  subst hk'
                  simp only [VC0, VC1, VC2, VC3, VC4, VC5, VC6, reduceIte, reduceCtorEq, Nat.reduceEqDiff, Nat.reduceAdd, Nat.reduceMul, Nat.reduceBEq, Nat.reduceLT, Nat.reduceLeDiff, Int.reduceEq, Int.reduceLT, Int.reduceLE, Int.reduceNeg, Int.reduceToNat, Int.reduceAdd, Nat.reduceDiv, encL, MC0, MC1, MC2]
                  refine And.intro hiI (backTo_of (i + 1, W', S', decide ((v : Int) ∈ U), _) ⟨hiW2, hSl', hWb', B'.next hiW2 (by rw [huW, hU]) (fun y hy => hty y (by rw [List.take_length]; rw [huW] at hy; exact hy))⟩ (by simp only []; omega) (ent_of _ [] rfl rfl (by simp only [VC0, VC1, VC2, VC3, VC4, VC5, VC6, reduceIte, reduceCtorEq, Nat.reduceEqDiff, Nat.reduceAdd, Nat.reduceMul, Nat.reduceBEq, Nat.reduceLT, Nat.reduceLeDiff, Int.reduceEq, Int.reduceLT, Int.reduceLE, Int.reduceNeg, Int.reduceToNat, Int.reduceAdd, Nat.reduceDiv, encL, MC0, MC1, MC2, hTl, hWi'])))
    · rintro ⟨want, c⟩ hw
      have hw : want = true ↔ Liv m p (v : Int) := hw
      have hTv : T[p][v] = want := by rw [Bool.eq_iff_iff, hTa p v hpT hvT, hw]
      simp only [VC0, VC1, VC2, VC3, VC4, VC5, VC6, reduceIte, reduceCtorEq, Nat.reduceEqDiff, Nat.reduceAdd, Nat.reduceMul, Nat.reduceBEq, Nat.reduceLT, Nat.reduceLeDiff, Int.reduceEq, Int.reduceLT, Int.reduceLE, Int.reduceNeg, Int.reduceToNat, Int.reduceAdd, Nat.reduceDiv, encL, MC0, MC1, MC2, hTl, hpin, hpT, ld_cLB hpT, hrow, hvin, hvT, ld_cB hvT, hTv]
      have hww : (want != want) = false := by cases want <;> rfl
      simp only [VC0, VC1, VC2, VC3, VC4, VC5, VC6, reduceIte, reduceCtorEq, Nat.reduceEqDiff, Nat.reduceAdd, Nat.reduceMul, Nat.reduceBEq, Nat.reduceLT, Nat.reduceLeDiff, Int.reduceEq, Int.reduceLT, Int.reduceLE, Int.reduceNeg, Int.reduceToNat, Int.reduceAdd, Nat.reduceDiv, encL, MC0, MC1, MC2, hww]
      exact And.intro (by unfold InI64; omega) (backTo_of (p + 1, _) hp' (by simp only []; omega) (ent_of _ [] rfl rfl (by simp only [VC0, VC1, VC2, VC3, VC4, VC5, VC6, reduceIte, reduceCtorEq, Nat.reduceEqDiff, Nat.reduceAdd, Nat.reduceMul, Nat.reduceBEq, Nat.reduceLT, Nat.reduceLeDiff, Int.reduceEq, Int.reduceLT, Int.reduceLE, Int.reduceNeg, Int.reduceToNat, Int.reduceAdd, Nat.reduceDiv, encL, MC0, MC1, MC2, hTl])))
  · simp only [VC0, VC1, VC2, VC3, VC4, VC5, VC6, reduceIte, reduceCtorEq, Nat.reduceEqDiff, Nat.reduceAdd, Nat.reduceMul, Nat.reduceBEq, Nat.reduceLT, Nat.reduceLeDiff, Int.reduceEq, Int.reduceLT, Int.reduceLE, Int.reduceNeg, Int.reduceToNat, Int.reduceAdd, Nat.reduceDiv, encL, MC0, MC1, MC2]
    refine callX_of told19_ret (.inr rfl) ?_
    simp only [VC0, VC1, VC2, VC3, VC4, VC5, VC6, reduceIte, reduceCtorEq, Nat.reduceEqDiff, Nat.reduceAdd, Nat.reduceMul, Nat.reduceBEq, Nat.reduceLT, Nat.reduceLeDiff, Int.reduceEq, Int.reduceLT, Int.reduceLE, Int.reduceNeg, Int.reduceToNat, Int.reduceAdd, Nat.reduceDiv, encL, MC0, MC1, MC2]

end Go.Proofs.Ytobhpkagbmadlaa
