import Derived.Test.YtobhpkagbmadlaaCt7
import Derived.Test.YtobhpkagbmadlaaLgX
set_option linter.unusedSimpArgs false
set_option linter.unusedVariables false
namespace Go.Proofs.Ytobhpkagbmadlaa
open Go Go.Lg Go.RowKit
set_option maxRecDepth 20000

/-- The row of a point, ahead of instruction i's b-th next. -/
def prevRow (m : Mir) (i b t : Nat) : List Int := (((List.range i).filter fun j => (nx m j).contains t) ++ (if ((nx m i).take b).contains t then [i] else [])).map fun (j : Nat) => (j : Int)
def prevTab (m : Mir) (i b : Nat) : List (List Int) := (List.range m.code.length).map (prevRow m i b)

theorem prevTab_len (m : Mir) (i b : Nat) : (prevTab m i b).length = m.code.length := by simp [prevTab]
theorem prevTab_get (m : Mir) (i b t : Nat) (h : t < (prevTab m i b).length) : (prevTab m i b)[t] = prevRow m i b t := by simp [prevTab]
theorem prevTab_zero (m : Mir) : prevTab m 0 0 = List.replicate m.code.length [] := by
  apply List.ext_getElem
  · simp [prevTab]
  · intro t h1 h2
    simp [prevTab, prevRow]
theorem prevTab_next (m : Mir) (i : Nat) : prevTab m i (nx m i).length = prevTab m (i + 1) 0 := by
  simp only [prevTab]
  apply List.map_congr_left
  intro t _
  simp only [prevRow, List.take_length, List.take_zero, List.range_succ, List.filter_append]
  congr 1
  by_cases h : t ∈ nx m i
  · simp [h]
  · simp [h]
theorem prevTab_end (m : Mir) : prevTab m m.code.length 0 = (List.range m.code.length).map (prevs m) := by
  simp only [prevTab]
  apply List.map_congr_left
  intro t _
  simp [prevRow, prevs]
theorem prevRow_len (m : Mir) (i b t : Nat) : (prevRow m i b t).length ≤ i + 1 := by
  simp only [prevRow, List.length_map, List.length_append]
  have := List.length_filter_le (fun j => (nx m j).contains t) (List.range i)
  rw [List.length_range] at this
  split
  · rw [List.length_singleton]; omega
  · rw [List.length_nil]; omega
/-- A next that was there: nothing turns. -/
theorem prevTab_old (m : Mir) (i b t : Nat) (hb : b < (nx m i).length) (ht : (nx m i)[b] = t) (h : t ∈ (nx m i).take b) : prevTab m i (b + 1) = prevTab m i b := by
  simp only [prevTab]
  apply List.map_congr_left
  intro u _
  simp only [prevRow]
  congr 2
  rw [List.take_succ_eq_append_getElem hb, ht]
  by_cases e : u = t
  · subst e
    have : ((nx m i).take b).contains u = true := by simpa using h
    simp [h]
  · simp [e]
theorem prevTab_new (m : Mir) (i b t : Nat) (hb : b < (nx m i).length) (ht : (nx m i)[b] = t) (hN : t < m.code.length) (h : t ∉ (nx m i).take b) : prevTab m i (b + 1) = (prevTab m i b).set t (prevRow m i b t ++ [(i : Int)]) := by
  apply List.ext_getElem
  · simp [prevTab]
  · intro u h1 h2
    rw [prevTab_get, List.getElem_set]
    split
    · rename_i e; subst e
      have h3 : ((nx m i).take (b + 1)).contains t = true := by rw [List.take_succ_eq_append_getElem hb, ht]; simp
      have h4 : ((nx m i).take b).contains t = false := by simpa using h
      simp only [prevRow, h3, h4]
      simp
    · rename_i e
      rw [prevTab_get]
      simp only [prevRow]
      congr 2
      rw [List.take_succ_eq_append_getElem hb, ht]
      simp [e, Ne.symm e]

def encLL (R : List (List Int)) : V := encL (cL cI) R

theorem prev_ret (m : Mir) (hm : m.ok) : PRet Try.prog 14 [.agg m.cells] (encLL (if mayB m = true then (List.range m.code.length).map (prevs m) else [])) := by
  refine pret_intro_l fd14 (by simp) ?_
  simp only [lc14, VC0, VC1, VC2, VC3, VC4, VC5, VC6, reduceIte, reduceCtorEq, Nat.reduceEqDiff, Nat.reduceAdd, Nat.reduceMul, Nat.reduceBEq, Nat.reduceLT, Nat.reduceLeDiff, Int.reduceEq, Int.reduceLT, Int.reduceLE, Int.reduceNeg, Int.reduceToNat, Int.reduceAdd, Nat.reduceDiv, encL, MC0, MC1, MC2]
  refine callX_of (may_ret m hm) (.inr rfl) ?_
  simp only [VC0, VC1, VC2, VC3, VC4, VC5, VC6, reduceIte, reduceCtorEq, Nat.reduceEqDiff, Nat.reduceAdd, Nat.reduceMul, Nat.reduceBEq, Nat.reduceLT, Nat.reduceLeDiff, Int.reduceEq, Int.reduceLT, Int.reduceLE, Int.reduceNeg, Int.reduceToNat, Int.reduceAdd, Nat.reduceDiv, encL, MC0, MC1, MC2]
  refine condVn_of (fun h => ?_) (fun h => ?_)
  · simp only [VC0, VC1, VC2, VC3, VC4, VC5, VC6, reduceIte, reduceCtorEq, Nat.reduceEqDiff, Nat.reduceAdd, Nat.reduceMul, Nat.reduceBEq, Nat.reduceLT, Nat.reduceLeDiff, Int.reduceEq, Int.reduceLT, Int.reduceLE, Int.reduceNeg, Int.reduceToNat, Int.reduceAdd, Nat.reduceDiv, encL, MC0, MC1, MC2, h]; simp [encLL, encL]
  · have hg := okG_of h
    have hN := hg.le
    simp only [VC0, VC1, VC2, VC3, VC4, VC5, VC6, reduceIte, reduceCtorEq, Nat.reduceEqDiff, Nat.reduceAdd, Nat.reduceMul, Nat.reduceBEq, Nat.reduceLT, Nat.reduceLeDiff, Int.reduceEq, Int.reduceLT, Int.reduceLE, Int.reduceNeg, Int.reduceToNat, Int.reduceAdd, Nat.reduceDiv, encL, MC0, MC1, MC2, h]
    refine And.intro (by omega) ?_
    refine loop_vcg (ι := Nat × (Nat → Nat)) (fun (i, c) => stO [(3, .rows 1 (rsI cI (prevTab m i 0))), (16, .val (encL MInst.cells m.code)), (17, .val (.int .i64 m.code.length)), (18, .val (.int .i64 i))] c)
      (fun (i, _) => i ≤ m.code.length) (fun (i, _) => m.code.length - i) (0, _) (Nat.zero_le _) (ent_of _ [] rfl rfl (by
        simp only [VC0, VC1, VC2, VC3, VC4, VC5, VC6, reduceIte, reduceCtorEq, Nat.reduceEqDiff, Nat.reduceAdd, Nat.reduceMul, Nat.reduceBEq, Nat.reduceLT, Nat.reduceLeDiff, Int.reduceEq, Int.reduceLT, Int.reduceLE, Int.reduceNeg, Int.reduceToNat, Int.reduceAdd, Nat.reduceDiv, encL, MC0, MC1, MC2]
        rw [prevTab_zero]
        refine rowsAt_mk rfl (by simp) (by decide) ?_
        simp only [VC0, VC1, VC2, VC3, VC4, VC5, VC6, reduceIte, reduceCtorEq, Nat.reduceEqDiff, Nat.reduceAdd, Nat.reduceMul, Nat.reduceBEq, Nat.reduceLT, Nat.reduceLeDiff, Int.reduceEq, Int.reduceLT, Int.reduceLE, Int.reduceNeg, Int.reduceToNat, Int.reduceAdd, Nat.reduceDiv, encL, MC0, MC1, MC2])) ?_
    rintro ⟨i, c⟩ hi
    simp only [VC0, VC1, VC2, VC3, VC4, VC5, VC6, reduceIte, reduceCtorEq, Nat.reduceEqDiff, Nat.reduceAdd, Nat.reduceMul, Nat.reduceBEq, Nat.reduceLT, Nat.reduceLeDiff, Int.reduceEq, Int.reduceLT, Int.reduceLE, Int.reduceNeg, Int.reduceToNat, Int.reduceAdd, Nat.reduceDiv, encL, MC0, MC1, MC2]
    refine condD_of (fun h => ?_) (fun h => ?_)
    · have hi' : i < m.code.length := by omega
      have hin : 0 ≤ (i : Int) ∧ (i : Int) < m.code.length := by omega
      have hy := hg.nx _ (List.getElem_mem hi')
      have hnx : nx m i = (m.code[i].next).map Int.toNat := by simp [nx, hi']
      simp only [VC0, VC1, VC2, VC3, VC4, VC5, VC6, reduceIte, reduceCtorEq, Nat.reduceEqDiff, Nat.reduceAdd, Nat.reduceMul, Nat.reduceBEq, Nat.reduceLT, Nat.reduceLeDiff, Int.reduceEq, Int.reduceLT, Int.reduceLE, Int.reduceNeg, Int.reduceToNat, Int.reduceAdd, Nat.reduceDiv, encL, MC0, MC1, MC2, hi', hin]
      generalize m.code[i] = x at hy hnx
      refine loop_vcg (ι := Nat × (Nat → Nat)) (fun (b, c) => stO [(3, .rows 1 (rsI cI (prevTab m i b))), (4, .val (.int .i64 i)), (5, .box x.cells), (16, .val (encL MInst.cells m.code)), (17, .val (.int .i64 m.code.length)), (18, .val (.int .i64 i)), (24, .val (encL cI x.next)), (25, .val (.int .i64 x.next.length)), (26, .val (.int .i64 b))] c)
        (fun (b, _) => b ≤ x.next.length) (fun (b, _) => x.next.length - b) (0, _) (Nat.zero_le _) (ent_of _ [] rfl rfl (by
          simp only [VC0, VC1, VC2, VC3, VC4, VC5, VC6, reduceIte, reduceCtorEq, Nat.reduceEqDiff, Nat.reduceAdd, Nat.reduceMul, Nat.reduceBEq, Nat.reduceLT, Nat.reduceLeDiff, Int.reduceEq, Int.reduceLT, Int.reduceLE, Int.reduceNeg, Int.reduceToNat, Int.reduceAdd, Nat.reduceDiv, encL, MC0, MC1, MC2, rsI_len, prevTab_len]
          refine rowsAt_same (f := cI) (d := 3) (esz := 1) (R := prevTab m i 0) rfl (fun j h => ?_) (li_imv 8) (by decide) (prevTab_len _ _ _).symm (by simp) (fun j _ => by simp) ?_
          · simp only [VC0, VC1, VC2, VC3, VC4, VC5, VC6, reduceIte, reduceCtorEq, Nat.reduceEqDiff, Nat.reduceAdd, Nat.reduceMul, Nat.reduceBEq, Nat.reduceLT, Nat.reduceLeDiff, Int.reduceEq, Int.reduceLT, Int.reduceLE, Int.reduceNeg, Int.reduceToNat, Int.reduceAdd, Nat.reduceDiv, encL, MC0, MC1, MC2, rsI_get cI h]
          · simp only [VC0, VC1, VC2, VC3, VC4, VC5, VC6, reduceIte, reduceCtorEq, Nat.reduceEqDiff, Nat.reduceAdd, Nat.reduceMul, Nat.reduceBEq, Nat.reduceLT, Nat.reduceLeDiff, Int.reduceEq, Int.reduceLT, Int.reduceLE, Int.reduceNeg, Int.reduceToNat, Int.reduceAdd, Nat.reduceDiv, encL, MC0, MC1, MC2]
            simp)) ?_
      rintro ⟨b, c⟩ hb
      simp only [VC0, VC1, VC2, VC3, VC4, VC5, VC6, reduceIte, reduceCtorEq, Nat.reduceEqDiff, Nat.reduceAdd, Nat.reduceMul, Nat.reduceBEq, Nat.reduceLT, Nat.reduceLeDiff, Int.reduceEq, Int.reduceLT, Int.reduceLE, Int.reduceNeg, Int.reduceToNat, Int.reduceAdd, Nat.reduceDiv, encL, MC0, MC1, MC2]
      refine condD_of (fun h => ?_) (fun h => ?_)
      · have hb' : b < x.next.length := by omega
        have h0 : 0 < x.next.length := by omega
        have hbin : 0 ≤ (b : Int) ∧ (b : Int) < x.next.length := by omega
        have h0in : (0 : Int) < x.next.length := by omega
        obtain ⟨t, ht⟩ : ∃ t : Nat, x.next[b] = (t : Int) := ⟨x.next[b].toNat, by have := hy.2 _ (List.getElem_mem hb'); omega⟩
        have htN : t < m.code.length := by have := hy.2 _ (List.getElem_mem hb'); omega
        have htin : 0 ≤ (t : Int) ∧ (t : Int) < m.code.length := by omega
        have hnb : b < (nx m i).length := by rw [hnx]; simpa using hb'
        have hnt : (nx m i)[b] = t := by simp only [hnx, List.getElem_map, ht]; rfl
        have htl : t < (prevTab m i b).length := by rw [prevTab_len]; exact htN
        have hget := rsI_get cI htl
        rw [prevTab_get] at hget
        have htl2 : t < (rsI cI (prevTab m i b)).length := by rw [rsI_len]; exact htl
        have hrl := prevRow_len m i b t
        have hb1 : ((prevRow m i b t).length + 1) * 8 ≤ 140737488355328 := by omega
        have hb2 : (prevRow m i b t).length + 1 ≤ 4611686018427387904 := by omega
        have htle : t + 1 ≤ m.code.length := htN
        by_cases hb0 : b = 0
        · subst hb0
          have hnew : t ∉ (nx m i).take 0 := by simp
          simp only [VC0, VC1, VC2, VC3, VC4, VC5, VC6, reduceIte, reduceCtorEq, Nat.reduceEqDiff, Nat.reduceAdd, Nat.reduceMul, Nat.reduceBEq, Nat.reduceLT, Nat.reduceLeDiff, Int.reduceEq, Int.reduceLT, Int.reduceLE, Int.reduceNeg, Int.reduceToNat, Int.reduceAdd, Nat.reduceDiv, encL, MC0, MC1, MC2, hb', hbin, ht, h0, h0in, htin, rsI_len, prevTab_len, rowV_ld htl2, rowV_len, hget, rsI_at, prevTab_get, hb1, hb2, htle]
          refine And.intro (by unfold InI64; omega) ?_
          refine backTo_of (0 + 1, _) hb' ?_ (ent_of _ [] rfl rfl ?_)
          · show x.next.length - (0 + 1) < x.next.length - 0
            omega
          rw [prevTab_new m i 0 t hnb hnt htN hnew]
          simp only [VC0, VC1, VC2, VC3, VC4, VC5, VC6, reduceIte, reduceCtorEq, Nat.reduceEqDiff, Nat.reduceAdd, Nat.reduceMul, Nat.reduceBEq, Nat.reduceLT, Nat.reduceLeDiff, Int.reduceEq, Int.reduceLT, Int.reduceLE, Int.reduceNeg, Int.reduceToNat, Int.reduceAdd, Nat.reduceDiv, encL, MC0, MC1, MC2, rsI_len, prevTab_len]
          refine rowsAt_set (f := cI) (d := 3) (esz := 1) (R := prevTab m i 0) (r := prevRow m i 0 t ++ [(i : Int)]) htl (g := 1) ?_ ?_ (fun j h hne => ?_) (li_imv 8) (by decide) (prevTab_len _ _ _).symm (by simp) (fun j _ => by simp) ?_
          · simp only [VC0, VC1, VC2, VC3, VC4, VC5, VC6, reduceIte, reduceCtorEq, Nat.reduceEqDiff, Nat.reduceAdd, Nat.reduceMul, Nat.reduceBEq, Nat.reduceLT, Nat.reduceLeDiff, Int.reduceEq, Int.reduceLT, Int.reduceLE, Int.reduceNeg, Int.reduceToNat, Int.reduceAdd, Nat.reduceDiv, encL, MC0, MC1, MC2]
            try simp
          · simp only [VC0, VC1, VC2, VC3, VC4, VC5, VC6, reduceIte, reduceCtorEq, Nat.reduceEqDiff, Nat.reduceAdd, Nat.reduceMul, Nat.reduceBEq, Nat.reduceLT, Nat.reduceLeDiff, Int.reduceEq, Int.reduceLT, Int.reduceLE, Int.reduceNeg, Int.reduceToNat, Int.reduceAdd, Nat.reduceDiv, encL, MC0, MC1, MC2]
            try simp
          · simp only [VC0, VC1, VC2, VC3, VC4, VC5, VC6, reduceIte, reduceCtorEq, Nat.reduceEqDiff, Nat.reduceAdd, Nat.reduceMul, Nat.reduceBEq, Nat.reduceLT, Nat.reduceLeDiff, Int.reduceEq, Int.reduceLT, Int.reduceLE, Int.reduceNeg, Int.reduceToNat, Int.reduceAdd, Nat.reduceDiv, encL, MC0, MC1, MC2, hne, rsI_get cI h]
            try simp
          · simp only [VC0, VC1, VC2, VC3, VC4, VC5, VC6, reduceIte, reduceCtorEq, Nat.reduceEqDiff, Nat.reduceAdd, Nat.reduceMul, Nat.reduceBEq, Nat.reduceLT, Nat.reduceLeDiff, Int.reduceEq, Int.reduceLT, Int.reduceLE, Int.reduceNeg, Int.reduceToNat, Int.reduceAdd, Nat.reduceDiv, encL, MC0, MC1, MC2]
            try simp
        · have hb0' : ¬ (b : Int) = 0 := by omega
          simp only [VC0, VC1, VC2, VC3, VC4, VC5, VC6, reduceIte, reduceCtorEq, Nat.reduceEqDiff, Nat.reduceAdd, Nat.reduceMul, Nat.reduceBEq, Nat.reduceLT, Nat.reduceLeDiff, Int.reduceEq, Int.reduceLT, Int.reduceLE, Int.reduceNeg, Int.reduceToNat, Int.reduceAdd, Nat.reduceDiv, encL, MC0, MC1, MC2, hb', hbin, ht, hb0', h0, h0in, ld_cI (l := x.next) (i := 0) h0]
          repeat' (first | refine condDn_of (fun h => ?_) (fun h => ?_) <;> simp only [VC0, VC1, VC2, VC3, VC4, VC5, VC6, reduceIte, reduceCtorEq, Nat.reduceEqDiff, Nat.reduceAdd, Nat.reduceMul, Nat.reduceBEq, Nat.reduceLT, Nat.reduceLeDiff, Int.reduceEq, Int.reduceLT, Int.reduceLE, Int.reduceNeg, Int.reduceToNat, Int.reduceAdd, Nat.reduceDiv, encL, MC0, MC1, MC2, h, hb', hbin, ht, h0, h0in, hb0', htin, rsI_len, prevTab_len, rowV_ld htl2, rowV_len, hget, rsI_at, prevTab_get, hb1, hb2, htle] | refine condD_of (fun h => ?_) (fun h => ?_) <;> simp only [VC0, VC1, VC2, VC3, VC4, VC5, VC6, reduceIte, reduceCtorEq, Nat.reduceEqDiff, Nat.reduceAdd, Nat.reduceMul, Nat.reduceBEq, Nat.reduceLT, Nat.reduceLeDiff, Int.reduceEq, Int.reduceLT, Int.reduceLE, Int.reduceNeg, Int.reduceToNat, Int.reduceAdd, Nat.reduceDiv, encL, MC0, MC1, MC2, h, hb', hbin, ht, h0, h0in, hb0', htin, rsI_len, prevTab_len, rowV_ld htl2, rowV_len, hget, rsI_at, prevTab_get, hb1, hb2, htle] | refine condVn_of (fun h => ?_) (fun h => ?_) <;> simp only [VC0, VC1, VC2, VC3, VC4, VC5, VC6, reduceIte, reduceCtorEq, Nat.reduceEqDiff, Nat.reduceAdd, Nat.reduceMul, Nat.reduceBEq, Nat.reduceLT, Nat.reduceLeDiff, Int.reduceEq, Int.reduceLT, Int.reduceLE, Int.reduceNeg, Int.reduceToNat, Int.reduceAdd, Nat.reduceDiv, encL, MC0, MC1, MC2, h, hb', hbin, ht, h0, h0in, hb0', htin, rsI_len, prevTab_len, rowV_ld htl2, rowV_len, hget, rsI_at, prevTab_get, hb1, hb2, htle] | refine condV_of (fun h => ?_) (fun h => ?_) <;> simp only [VC0, VC1, VC2, VC3, VC4, VC5, VC6, reduceIte, reduceCtorEq, Nat.reduceEqDiff, Nat.reduceAdd, Nat.reduceMul, Nat.reduceBEq, Nat.reduceLT, Nat.reduceLeDiff, Int.reduceEq, Int.reduceLT, Int.reduceLE, Int.reduceNeg, Int.reduceToNat, Int.reduceAdd, Nat.reduceDiv, encL, MC0, MC1, MC2, h, hb', hbin, ht, h0, h0in, hb0', htin, rsI_len, prevTab_len, rowV_ld htl2, rowV_len, hget, rsI_at, prevTab_get, hb1, hb2, htle] | refine gdDn_of (fun h => ?_) (fun h => ?_) <;> simp only [VC0, VC1, VC2, VC3, VC4, VC5, VC6, reduceIte, reduceCtorEq, Nat.reduceEqDiff, Nat.reduceAdd, Nat.reduceMul, Nat.reduceBEq, Nat.reduceLT, Nat.reduceLeDiff, Int.reduceEq, Int.reduceLT, Int.reduceLE, Int.reduceNeg, Int.reduceToNat, Int.reduceAdd, Nat.reduceDiv, encL, MC0, MC1, MC2, h, hb', hbin, ht, h0, h0in, hb0', htin, rsI_len, prevTab_len, rowV_ld htl2, rowV_len, hget, rsI_at, prevTab_get, hb1, hb2, htle] | refine gdD_of (fun h => ?_) (fun h => ?_) <;> simp only [VC0, VC1, VC2, VC3, VC4, VC5, VC6, reduceIte, reduceCtorEq, Nat.reduceEqDiff, Nat.reduceAdd, Nat.reduceMul, Nat.reduceBEq, Nat.reduceLT, Nat.reduceLeDiff, Int.reduceEq, Int.reduceLT, Int.reduceLE, Int.reduceNeg, Int.reduceToNat, Int.reduceAdd, Nat.reduceDiv, encL, MC0, MC1, MC2, h, hb', hbin, ht, h0, h0in, hb0', htin, rsI_len, prevTab_len, rowV_ld htl2, rowV_len, hget, rsI_at, prevTab_get, hb1, hb2, htle] | refine gdVMn_of (fun h => ?_) (fun h => ?_) <;> simp only [VC0, VC1, VC2, VC3, VC4, VC5, VC6, reduceIte, reduceCtorEq, Nat.reduceEqDiff, Nat.reduceAdd, Nat.reduceMul, Nat.reduceBEq, Nat.reduceLT, Nat.reduceLeDiff, Int.reduceEq, Int.reduceLT, Int.reduceLE, Int.reduceNeg, Int.reduceToNat, Int.reduceAdd, Nat.reduceDiv, encL, MC0, MC1, MC2, h, hb', hbin, ht, h0, h0in, hb0', htin, rsI_len, prevTab_len, rowV_ld htl2, rowV_len, hget, rsI_at, prevTab_get, hb1, hb2, htle] | refine gdVM_of (fun h => ?_) (fun h => ?_) <;> simp only [VC0, VC1, VC2, VC3, VC4, VC5, VC6, reduceIte, reduceCtorEq, Nat.reduceEqDiff, Nat.reduceAdd, Nat.reduceMul, Nat.reduceBEq, Nat.reduceLT, Nat.reduceLeDiff, Int.reduceEq, Int.reduceLT, Int.reduceLE, Int.reduceNeg, Int.reduceToNat, Int.reduceAdd, Nat.reduceDiv, encL, MC0, MC1, MC2, h, hb', hbin, ht, h0, h0in, hb0', htin, rsI_len, prevTab_len, rowV_ld htl2, rowV_len, hget, rsI_at, prevTab_get, hb1, hb2, htle] | refine gpDn_of (fun h => ?_) (fun h => ?_) <;> simp only [VC0, VC1, VC2, VC3, VC4, VC5, VC6, reduceIte, reduceCtorEq, Nat.reduceEqDiff, Nat.reduceAdd, Nat.reduceMul, Nat.reduceBEq, Nat.reduceLT, Nat.reduceLeDiff, Int.reduceEq, Int.reduceLT, Int.reduceLE, Int.reduceNeg, Int.reduceToNat, Int.reduceAdd, Nat.reduceDiv, encL, MC0, MC1, MC2, h, hb', hbin, ht, h0, h0in, hb0', htin, rsI_len, prevTab_len, rowV_ld htl2, rowV_len, hget, rsI_at, prevTab_get, hb1, hb2, htle] | refine gpD_of (fun h => ?_) (fun h => ?_) <;> simp only [VC0, VC1, VC2, VC3, VC4, VC5, VC6, reduceIte, reduceCtorEq, Nat.reduceEqDiff, Nat.reduceAdd, Nat.reduceMul, Nat.reduceBEq, Nat.reduceLT, Nat.reduceLeDiff, Int.reduceEq, Int.reduceLT, Int.reduceLE, Int.reduceNeg, Int.reduceToNat, Int.reduceAdd, Nat.reduceDiv, encL, MC0, MC1, MC2, h, hb', hbin, ht, h0, h0in, hb0', htin, rsI_len, prevTab_len, rowV_ld htl2, rowV_len, hget, rsI_at, prevTab_get, hb1, hb2, htle] | refine gdVn_of (fun h => ?_) (fun h => ?_) <;> simp only [VC0, VC1, VC2, VC3, VC4, VC5, VC6, reduceIte, reduceCtorEq, Nat.reduceEqDiff, Nat.reduceAdd, Nat.reduceMul, Nat.reduceBEq, Nat.reduceLT, Nat.reduceLeDiff, Int.reduceEq, Int.reduceLT, Int.reduceLE, Int.reduceNeg, Int.reduceToNat, Int.reduceAdd, Nat.reduceDiv, encL, MC0, MC1, MC2, h, hb', hbin, ht, h0, h0in, hb0', htin, rsI_len, prevTab_len, rowV_ld htl2, rowV_len, hget, rsI_at, prevTab_get, hb1, hb2, htle] | refine gdV_of (fun h => ?_) (fun h => ?_) <;> simp only [VC0, VC1, VC2, VC3, VC4, VC5, VC6, reduceIte, reduceCtorEq, Nat.reduceEqDiff, Nat.reduceAdd, Nat.reduceMul, Nat.reduceBEq, Nat.reduceLT, Nat.reduceLeDiff, Int.reduceEq, Int.reduceLT, Int.reduceLE, Int.reduceNeg, Int.reduceToNat, Int.reduceAdd, Nat.reduceDiv, encL, MC0, MC1, MC2, h, hb', hbin, ht, h0, h0in, hb0', htin, rsI_len, prevTab_len, rowV_ld htl2, rowV_len, hget, rsI_at, prevTab_get, hb1, hb2, htle] | (unfold InI64; omega) | refine And.intro ?_ ?_)
          · have hnew : t ∉ (nx m i).take b := by
              intro hm'
              obtain ⟨j, hj, e⟩ := List.mem_take_iff_getElem.1 hm'
              have hj0 : j = 0 := by omega
              subst hj0
              have h0n := hy.2 _ (List.getElem_mem h0)
              simp only [hnx, List.getElem_map] at e
              omega
            refine backTo_of (b + 1, _) hb' (by simp only []; omega) (ent_of _ [] rfl rfl ?_)
            rw [prevTab_new m i b t hnb hnt htN hnew]
            simp only [VC0, VC1, VC2, VC3, VC4, VC5, VC6, reduceIte, reduceCtorEq, Nat.reduceEqDiff, Nat.reduceAdd, Nat.reduceMul, Nat.reduceBEq, Nat.reduceLT, Nat.reduceLeDiff, Int.reduceEq, Int.reduceLT, Int.reduceLE, Int.reduceNeg, Int.reduceToNat, Int.reduceAdd, Nat.reduceDiv, encL, MC0, MC1, MC2, rsI_len, prevTab_len]
            refine rowsAt_set (f := cI) (d := 3) (esz := 1) (R := prevTab m i b) (r := prevRow m i b t ++ [(i : Int)]) htl (g := 1) ?_ ?_ (fun j h hne => ?_) (li_imv 8) (by decide) (prevTab_len _ _ _).symm (by simp) (fun j _ => by simp) ?_
            · simp only [VC0, VC1, VC2, VC3, VC4, VC5, VC6, reduceIte, reduceCtorEq, Nat.reduceEqDiff, Nat.reduceAdd, Nat.reduceMul, Nat.reduceBEq, Nat.reduceLT, Nat.reduceLeDiff, Int.reduceEq, Int.reduceLT, Int.reduceLE, Int.reduceNeg, Int.reduceToNat, Int.reduceAdd, Nat.reduceDiv, encL, MC0, MC1, MC2]
              try simp
            · simp only [VC0, VC1, VC2, VC3, VC4, VC5, VC6, reduceIte, reduceCtorEq, Nat.reduceEqDiff, Nat.reduceAdd, Nat.reduceMul, Nat.reduceBEq, Nat.reduceLT, Nat.reduceLeDiff, Int.reduceEq, Int.reduceLT, Int.reduceLE, Int.reduceNeg, Int.reduceToNat, Int.reduceAdd, Nat.reduceDiv, encL, MC0, MC1, MC2]
              try simp
            · simp only [VC0, VC1, VC2, VC3, VC4, VC5, VC6, reduceIte, reduceCtorEq, Nat.reduceEqDiff, Nat.reduceAdd, Nat.reduceMul, Nat.reduceBEq, Nat.reduceLT, Nat.reduceLeDiff, Int.reduceEq, Int.reduceLT, Int.reduceLE, Int.reduceNeg, Int.reduceToNat, Int.reduceAdd, Nat.reduceDiv, encL, MC0, MC1, MC2, hne, rsI_get cI h]
              try simp
            · simp only [VC0, VC1, VC2, VC3, VC4, VC5, VC6, reduceIte, reduceCtorEq, Nat.reduceEqDiff, Nat.reduceAdd, Nat.reduceMul, Nat.reduceBEq, Nat.reduceLT, Nat.reduceLeDiff, Int.reduceEq, Int.reduceLT, Int.reduceLE, Int.reduceNeg, Int.reduceToNat, Int.reduceAdd, Nat.reduceDiv, encL, MC0, MC1, MC2]
              try simp
          · have hold : t ∈ (nx m i).take b := by
              have hb1 : b = 1 := by omega
              subst hb1
              have : (nx m i)[0]'(by omega) = t := by simp only [hnx, List.getElem_map]; omega
              rw [← this]
              exact List.mem_take_iff_getElem.2 ⟨0, by omega, rfl⟩
            refine backTo_of (b + 1, _) hb' (by simp only []; omega) (ent_of _ [] rfl rfl ?_)
            rw [prevTab_old m i b t hnb hnt hold]
            simp only [VC0, VC1, VC2, VC3, VC4, VC5, VC6, reduceIte, reduceCtorEq, Nat.reduceEqDiff, Nat.reduceAdd, Nat.reduceMul, Nat.reduceBEq, Nat.reduceLT, Nat.reduceLeDiff, Int.reduceEq, Int.reduceLT, Int.reduceLE, Int.reduceNeg, Int.reduceToNat, Int.reduceAdd, Nat.reduceDiv, encL, MC0, MC1, MC2, rsI_len, prevTab_len]
            refine rowsAt_same (f := cI) (d := 3) (esz := 1) (R := prevTab m i b) rfl (fun j h => ?_) (li_imv 8) (by decide) (prevTab_len _ _ _).symm (by simp) (fun j _ => by simp) ?_
            · simp only [VC0, VC1, VC2, VC3, VC4, VC5, VC6, reduceIte, reduceCtorEq, Nat.reduceEqDiff, Nat.reduceAdd, Nat.reduceMul, Nat.reduceBEq, Nat.reduceLT, Nat.reduceLeDiff, Int.reduceEq, Int.reduceLT, Int.reduceLE, Int.reduceNeg, Int.reduceToNat, Int.reduceAdd, Nat.reduceDiv, encL, MC0, MC1, MC2, rsI_get cI h]
            · simp only [VC0, VC1, VC2, VC3, VC4, VC5, VC6, reduceIte, reduceCtorEq, Nat.reduceEqDiff, Nat.reduceAdd, Nat.reduceMul, Nat.reduceBEq, Nat.reduceLT, Nat.reduceLeDiff, Int.reduceEq, Int.reduceLT, Int.reduceLE, Int.reduceNeg, Int.reduceToNat, Int.reduceAdd, Nat.reduceDiv, encL, MC0, MC1, MC2]
              try simp
      · have hb' : b = x.next.length := by omega
        subst hb'
        simp only [VC0, VC1, VC2, VC3, VC4, VC5, VC6, reduceIte, reduceCtorEq, Nat.reduceEqDiff, Nat.reduceAdd, Nat.reduceMul, Nat.reduceBEq, Nat.reduceLT, Nat.reduceLeDiff, Int.reduceEq, Int.reduceLT, Int.reduceLE, Int.reduceNeg, Int.reduceToNat, Int.reduceAdd, Nat.reduceDiv, encL, MC0, MC1, MC2]
        refine And.intro (by unfold InI64; omega) (backTo_of (i + 1, _) hi' (by simp only []; omega) (ent_of _ [] rfl rfl ?_))
        have hnl : (nx m i).length = x.next.length := by rw [hnx]; simp
        rw [← prevTab_next, hnl]
        simp only [VC0, VC1, VC2, VC3, VC4, VC5, VC6, reduceIte, reduceCtorEq, Nat.reduceEqDiff, Nat.reduceAdd, Nat.reduceMul, Nat.reduceBEq, Nat.reduceLT, Nat.reduceLeDiff, Int.reduceEq, Int.reduceLT, Int.reduceLE, Int.reduceNeg, Int.reduceToNat, Int.reduceAdd, Nat.reduceDiv, encL, MC0, MC1, MC2, rsI_len, prevTab_len]
        refine rowsAt_same (f := cI) (d := 3) (esz := 1) (R := prevTab m i x.next.length) rfl (fun j h => ?_) (li_imv 8) (by decide) (prevTab_len _ _ _).symm (by simp) (fun j _ => by simp) ?_
        · simp only [VC0, VC1, VC2, VC3, VC4, VC5, VC6, reduceIte, reduceCtorEq, Nat.reduceEqDiff, Nat.reduceAdd, Nat.reduceMul, Nat.reduceBEq, Nat.reduceLT, Nat.reduceLeDiff, Int.reduceEq, Int.reduceLT, Int.reduceLE, Int.reduceNeg, Int.reduceToNat, Int.reduceAdd, Nat.reduceDiv, encL, MC0, MC1, MC2, rsI_get cI h]
        · simp only [VC0, VC1, VC2, VC3, VC4, VC5, VC6, reduceIte, reduceCtorEq, Nat.reduceEqDiff, Nat.reduceAdd, Nat.reduceMul, Nat.reduceBEq, Nat.reduceLT, Nat.reduceLeDiff, Int.reduceEq, Int.reduceLT, Int.reduceLE, Int.reduceNeg, Int.reduceToNat, Int.reduceAdd, Nat.reduceDiv, encL, MC0, MC1, MC2]
    · have hk' : i = m.code.length := by omega
      subst hk'
      have hR := prevTab_end m
      have hs : ∀ (H : Heap) (r : List Int), (r.flatMap cI).map (snap H 6) = r.flatMap cI := fun H r => li_snap H 5 r
      simp only [VC0, VC1, VC2, VC3, VC4, VC5, VC6, reduceIte, reduceCtorEq, Nat.reduceEqDiff, Nat.reduceAdd, Nat.reduceMul, Nat.reduceBEq, Nat.reduceLT, Nat.reduceLeDiff, Int.reduceEq, Int.reduceLT, Int.reduceLE, Int.reduceNeg, Int.reduceToNat, Int.reduceAdd, Nat.reduceDiv, encL, MC0, MC1, MC2, rsI_len, prevTab_len, rowV_len]
      rw [List.take_of_length_le (by rw [rowV_len, rsI_len, prevTab_len]; exact Nat.le_refl _), rowV_snap (f := cI) (fun j h => ?_) cI_len (fun r => hs _ r), hR]
      · simp [encLL, encL]
      · simp only [VC0, VC1, VC2, VC3, VC4, VC5, VC6, reduceIte, reduceCtorEq, Nat.reduceEqDiff, Nat.reduceAdd, Nat.reduceMul, Nat.reduceBEq, Nat.reduceLT, Nat.reduceLeDiff, Int.reduceEq, Int.reduceLT, Int.reduceLE, Int.reduceNeg, Int.reduceToNat, Int.reduceAdd, Nat.reduceDiv, encL, MC0, MC1, MC2, rsI_get cI h]

end Go.Proofs.Ytobhpkagbmadlaa
