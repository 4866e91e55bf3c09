/-
  Texts Ctc, Ctd, Cte of this claim, put together.
-/
import Derived.Test.YtobhpkagbmadlaaGI
import Derived.Test.YtobhpkagbmadlaaGG
import Derived.Test.YtobhpkagbmadlaaGJ
set_option linter.unusedSimpArgs false
set_option linter.unusedVariables false
namespace Go.Proofs.Ytobhpkagbmadlaa
open Go Go.Lg Go.RowKit
set_option maxRecDepth 20000

theorem rreach_ret (m : Mir) (hg : okG m) (hs : PRet Try.prog 23 [.agg m.cells] (encL cI ((List.range m.code.length).map (dist0 (nx m) 0)))) : PRet Try.prog 22 [.agg m.cells] (encL cB ((List.range m.code.length).map fun t => decide (0 ≤ dist0 (nx m) 0 t))) := by
  have hN := hg.le
  have hSl : ((List.range m.code.length).map (dist0 (nx m) 0)).length = m.code.length := by simp
  have hSg : ∀ (i : Nat) (hi : i < ((List.range m.code.length).map (dist0 (nx m) 0)).length), ((List.range m.code.length).map (dist0 (nx m) 0))[i] = dist0 (nx m) 0 i := by intro i hi; simp
  generalize (List.range m.code.length).map (dist0 (nx m) 0) = S at hs hSl hSg
  refine pret_intro_l fd22 (by simp) ?_
  simp only [lc22, VC0, VC1, VC2, VC3, VC4, VC5, VC6, VC7, VC8, reduceIte, reduceCtorEq, Nat.reduceEqDiff, Nat.reduceAdd, Nat.reduceMul, Nat.reduceBEq, Nat.reduceLT, Nat.reduceLeDiff, Int.reduceEq, Int.reduceLT, Int.reduceLE, Int.reduceNeg, Int.reduceToNat, Int.reduceAdd, Nat.reduceDiv, Nat.reduceSub, Nat.reduceMod, encL, MC0, MC1, MC2]
  refine callX_of hs (.inl rfl) ?_
  simp only [VC0, VC1, VC2, VC3, VC4, VC5, VC6, VC7, VC8, reduceIte, reduceCtorEq, Nat.reduceEqDiff, Nat.reduceAdd, Nat.reduceMul, Nat.reduceBEq, Nat.reduceLT, Nat.reduceLeDiff, Int.reduceEq, Int.reduceLT, Int.reduceLE, Int.reduceNeg, Int.reduceToNat, Int.reduceAdd, Nat.reduceDiv, Nat.reduceSub, Nat.reduceMod, encL, MC0, MC1, MC2, hSl]
  refine And.intro (by omega) ?_
  refine loop_vcg (ι := Nat × List Bool × (Nat → Nat)) (fun (k, o, c) => stO [(3, .val (encL cI S)), (4, .own 1 m.code.length (o.flatMap cB)), (5, .val (.int .i64 k))] c)
    (fun (k, o, _) => k ≤ m.code.length ∧ o.length = m.code.length ∧ (∀ t, t < m.code.length → o[t]? = some (if t < k then decide (0 ≤ dist0 (nx m) 0 t) else false))) (fun (k, _, _) => m.code.length - k) (0, List.replicate m.code.length false, _)
    ⟨Nat.zero_le _, by simp, fun t ht => by simp [ht]⟩ (ent_of _ [] rfl rfl (by simp only [VC0, VC1, VC2, VC3, VC4, VC5, VC6, VC7, VC8, reduceIte, reduceCtorEq, Nat.reduceEqDiff, Nat.reduceAdd, Nat.reduceMul, Nat.reduceBEq, Nat.reduceLT, Nat.reduceLeDiff, Int.reduceEq, Int.reduceLT, Int.reduceLE, Int.reduceNeg, Int.reduceToNat, Int.reduceAdd, Nat.reduceDiv, Nat.reduceSub, Nat.reduceMod, encL, MC0, MC1, MC2, hSl])) ?_
  rintro ⟨k, o, c⟩ ⟨hk, hol, hov⟩
  simp only [VC0, VC1, VC2, VC3, VC4, VC5, VC6, VC7, VC8, reduceIte, reduceCtorEq, Nat.reduceEqDiff, Nat.reduceAdd, Nat.reduceMul, Nat.reduceBEq, Nat.reduceLT, Nat.reduceLeDiff, Int.reduceEq, Int.reduceLT, Int.reduceLE, Int.reduceNeg, Int.reduceToNat, Int.reduceAdd, Nat.reduceDiv, Nat.reduceSub, Nat.reduceMod, encL, MC0, MC1, MC2, hSl]
  refine condD_of (fun h => ?_) (fun h => ?_)
  · have hk' : k < m.code.length := by omega
    have hin : 0 ≤ (k : Int) ∧ (k : Int) < m.code.length := by omega
    have hko : k < o.length := by omega
    have hkS : k < S.length := by omega
    have hle : k + 1 ≤ m.code.length := hk'
    have hSk := hSg k hkS
    have step : ∀ t, t < m.code.length → (o.set k (decide (0 ≤ dist0 (nx m) 0 k)))[t]? = some (if t < k + 1 then decide (0 ≤ dist0 (nx m) 0 t) else false) := by
      intro t ht
      rw [List.getElem?_set]
      split
      · rename_i e; subst e; simp [hko]
      · rename_i e
        rw [hov t ht]
        by_cases h : t < k
        · rw [if_pos h, if_pos (by omega)]
        · rw [if_neg h, if_neg (by omega)]
    simp only [VC0, VC1, VC2, VC3, VC4, VC5, VC6, VC7, VC8, reduceIte, reduceCtorEq, Nat.reduceEqDiff, Nat.reduceAdd, Nat.reduceMul, Nat.reduceBEq, Nat.reduceLT, Nat.reduceLeDiff, Int.reduceEq, Int.reduceLT, Int.reduceLE, Int.reduceNeg, Int.reduceToNat, Int.reduceAdd, Nat.reduceDiv, Nat.reduceSub, Nat.reduceMod, encL, MC0, MC1, MC2, hSl, hk', hin, hle, hol, ld_cI hkS, hSk, lb_set hko]
    refine And.intro (by unfold InI64; omega) (backTo_of (k + 1, o.set k (decide (0 ≤ dist0 (nx m) 0 k)), _) ⟨hk', by simp [hol], step⟩ (by simp only []; omega) (ent_of _ [] rfl rfl (by simp only [VC0, VC1, VC2, VC3, VC4, VC5, VC6, VC7, VC8, reduceIte, reduceCtorEq, Nat.reduceEqDiff, Nat.reduceAdd, Nat.reduceMul, Nat.reduceBEq, Nat.reduceLT, Nat.reduceLeDiff, Int.reduceEq, Int.reduceLT, Int.reduceLE, Int.reduceNeg, Int.reduceToNat, Int.reduceAdd, Nat.reduceDiv, Nat.reduceSub, Nat.reduceMod, encL, MC0, MC1, MC2, hSl])))
  · have hk' : k = m.code.length := by omega
    subst hk'
    have : o = (List.range m.code.length).map fun t => decide (0 ≤ dist0 (nx m) 0 t) := by
      apply List.ext_getElem?
      intro t
      rcases Nat.lt_or_ge t m.code.length with h | h
      · rw [hov t h, List.getElem?_map, List.getElem?_range h, if_pos h]; rfl
      · rw [List.getElem?_eq_none (by omega), List.getElem?_eq_none (by simpa using h)]
    subst this
    simp only [VC0, VC1, VC2, VC3, VC4, VC5, VC6, VC7, VC8, reduceIte, reduceCtorEq, Nat.reduceEqDiff, Nat.reduceAdd, Nat.reduceMul, Nat.reduceBEq, Nat.reduceLT, Nat.reduceLeDiff, Int.reduceEq, Int.reduceLT, Int.reduceLE, Int.reduceNeg, Int.reduceToNat, Int.reduceAdd, Nat.reduceDiv, Nat.reduceSub, Nat.reduceMod, encL, MC0, MC1, MC2, hol]

end Go.Proofs.Ytobhpkagbmadlaa

set_option linter.unusedSimpArgs false
set_option linter.unusedVariables false
namespace Go.Proofs.Ytobhpkagbmadlaa
open Go Go.Lg Go.RowKit
set_option maxRecDepth 20000

end Go.Proofs.Ytobhpkagbmadlaa

set_option linter.unusedSimpArgs false
set_option linter.unusedVariables false
namespace Go.Proofs.Ytobhpkagbmadlaa
open Go Go.Lg Go.RowKit
set_option maxRecDepth 20000

set_option maxHeartbeats 2000000 in
theorem rsteps_ret (m : Mir) (hg : okG m) : PRet Try.prog 23 [.agg m.cells] (encL cI ((List.range m.code.length).map (dist0 (nx m) 0))) := by
  have hN := hg.le
  have hpos := hg.pos
  refine pret_intro_l fd23 (by simp) ?_
  simp only [lc23, VC0, VC1, VC2, VC3, VC4, VC5, VC6, VC7, VC8, reduceIte, reduceCtorEq, Nat.reduceEqDiff, Nat.reduceAdd, Nat.reduceMul, Nat.reduceBEq, Nat.reduceLT, Nat.reduceLeDiff, Int.reduceEq, Int.reduceLT, Int.reduceLE, Int.reduceNeg, Int.reduceToNat, Int.reduceAdd, Nat.reduceDiv, Nat.reduceSub, Nat.reduceMod, encL, MC0, MC1, MC2]
  refine And.intro (by omega) ?_
  refine loop_vcg (ι := Nat × List Int × (Nat → Nat)) (fun (i, o, c) => stO [(1, .box m.cells), (3, .own 1 m.code.length (o.flatMap cI)), (4, .val (.int .i64 i))] c)
    (fun (i, o, _) => 1 ≤ i ∧ i ≤ m.code.length ∧ o.length = m.code.length ∧ ∀ t, t < m.code.length → o[t]? = some (if 0 < t ∧ t < i then -1 else 0)) (fun (i, _, _) => m.code.length - i) (1, List.replicate m.code.length 0, _)
    ⟨Nat.le_refl _, hpos, by simp, fun t h => by rw [if_neg (by omega)]; simp [h]⟩ (ent_of _ [] rfl rfl (by simp only [VC0, VC1, VC2, VC3, VC4, VC5, VC6, VC7, VC8, reduceIte, reduceCtorEq, Nat.reduceEqDiff, Nat.reduceAdd, Nat.reduceMul, Nat.reduceBEq, Nat.reduceLT, Nat.reduceLeDiff, Int.reduceEq, Int.reduceLT, Int.reduceLE, Int.reduceNeg, Int.reduceToNat, Int.reduceAdd, Nat.reduceDiv, Nat.reduceSub, Nat.reduceMod, encL, MC0, MC1, MC2])) ?_
  rintro ⟨i, o, c⟩ ⟨h1, hi, hlen, hout⟩
  simp only [VC0, VC1, VC2, VC3, VC4, VC5, VC6, VC7, VC8, reduceIte, reduceCtorEq, Nat.reduceEqDiff, Nat.reduceAdd, Nat.reduceMul, Nat.reduceBEq, Nat.reduceLT, Nat.reduceLeDiff, Int.reduceEq, Int.reduceLT, Int.reduceLE, Int.reduceNeg, Int.reduceToNat, Int.reduceAdd, Nat.reduceDiv, Nat.reduceSub, Nat.reduceMod, encL, MC0, MC1, MC2]
  refine condD_of (fun h => ?_) (fun h => ?_)
  · have hi' : i < o.length := by omega
    have hin : 0 ≤ (i : Int) ∧ (i : Int) < m.code.length := by omega
    have hle : i + 1 ≤ m.code.length := by omega
    simp only [VC0, VC1, VC2, VC3, VC4, VC5, VC6, VC7, VC8, reduceIte, reduceCtorEq, Nat.reduceEqDiff, Nat.reduceAdd, Nat.reduceMul, Nat.reduceBEq, Nat.reduceLT, Nat.reduceLeDiff, Int.reduceEq, Int.reduceLT, Int.reduceLE, Int.reduceNeg, Int.reduceToNat, Int.reduceAdd, Nat.reduceDiv, Nat.reduceSub, Nat.reduceMod, encL, MC0, MC1, MC2, hin, hlen, hle, li_set hi']
    refine And.intro (by unfold InI64; omega) (backTo_of (i + 1, o.set i (-1), _) ⟨by omega, by omega, by simp [hlen], fun t ht => ?_⟩ (by simp only []; omega) (ent_of _ [] rfl rfl (by simp only [VC0, VC1, VC2, VC3, VC4, VC5, VC6, VC7, VC8, reduceIte, reduceCtorEq, Nat.reduceEqDiff, Nat.reduceAdd, Nat.reduceMul, Nat.reduceBEq, Nat.reduceLT, Nat.reduceLeDiff, Int.reduceEq, Int.reduceLT, Int.reduceLE, Int.reduceNeg, Int.reduceToNat, Int.reduceAdd, Nat.reduceDiv, Nat.reduceSub, Nat.reduceMod, encL, MC0, MC1, MC2])))
    rw [List.getElem?_set]
    split
    · rename_i e; subst e; simp [hi', h1]; omega
    · rw [hout t ht]
      by_cases e : 0 < t ∧ t < i
      · rw [if_pos e, if_pos (by simp only []; omega)]
      · rw [if_neg e, if_neg (by simp only []; omega)]
  · have hi' : i = m.code.length := by omega
    subst hi'
    clear h hi
    have hF0 : ∀ u, o.getD u (-1) = if u = 0 then 0 else -1 := by
      intro u
      rw [List.getD_eq_getElem?_getD]
      rcases Nat.lt_or_ge u m.code.length with hu | hu
      · rw [hout u hu]
        by_cases e : u = 0
        · subst e; simp
        · rw [if_pos (by omega), if_neg e]; rfl
      · rw [List.getElem?_eq_none (by omega), if_neg (by omega)]; rfl
    have hu0 : uns o + 1 ≤ m.code.length := by
      have h0 := hout 0 hpos
      have h0' : 0 < o.length := by omega
      rw [if_neg (by omega), List.getElem?_eq_getElem h0'] at h0
      have h0 := Option.some.inj h0
      cases o with
      | nil => cases h0'
      | cons x r =>
        have hx : x = 0 := h0
        subst hx
        have := uns_le r
        simp only [uns, List.countP_cons] at this ⊢
        simp only [List.length_cons] at hlen
        simp
        omega
    simp only [VC0, VC1, VC2, VC3, VC4, VC5, VC6, VC7, VC8, reduceIte, reduceCtorEq, Nat.reduceEqDiff, Nat.reduceAdd, Nat.reduceMul, Nat.reduceBEq, Nat.reduceLT, Nat.reduceLeDiff, Int.reduceEq, Int.reduceLT, Int.reduceLE, Int.reduceNeg, Int.reduceToNat, Int.reduceAdd, Nat.reduceDiv, Nat.reduceSub, Nat.reduceMod, encL, MC0, MC1, MC2]
    refine loop_vcg (ι := Nat × List Nat × List Int × (Nat → Nat)) (fun (i, W, o, c) => stO [(1, .box m.cells), (3, .own 1 m.code.length (o.flatMap cI)), (5, .own 1 W.length ((ints W).flatMap cI)), (6, .val (.int .i64 i))] c)
      (fun (i, W, o, _) => i ≤ W.length ∧ o.length = m.code.length ∧ W.length + uns o ≤ m.code.length ∧ Bfs (nx m) m.code.length i 0 W (fun t => o.getD t (-1)) ∧ ∀ t, o.getD t (-1) < W.length)
      (fun (i, W, o, _) => W.length + 2 * uns o - i) (0, [0], o, _) ⟨by simp, hlen, by simp only [List.length_singleton]; omega, Bfs.start hpos hF0, fun t => by rw [hF0 t]; simp only [List.length_singleton]; split <;> omega⟩ (ent_of _ [] rfl rfl (by simp only [VC0, VC1, VC2, VC3, VC4, VC5, VC6, VC7, VC8, reduceIte, reduceCtorEq, Nat.reduceEqDiff, Nat.reduceAdd, Nat.reduceMul, Nat.reduceBEq, Nat.reduceLT, Nat.reduceLeDiff, Int.reduceEq, Int.reduceLT, Int.reduceLE, Int.reduceNeg, Int.reduceToNat, Int.reduceAdd, Nat.reduceDiv, Nat.reduceSub, Nat.reduceMod, encL, MC0, MC1, MC2, ints]; rfl)) ?_
    rintro ⟨i, W, o, c⟩ ⟨hi, hol, hnb, B, hub⟩
    have hWi := ints_len W
    simp only [VC0, VC1, VC2, VC3, VC4, VC5, VC6, VC7, VC8, reduceIte, reduceCtorEq, Nat.reduceEqDiff, Nat.reduceAdd, Nat.reduceMul, Nat.reduceBEq, Nat.reduceLT, Nat.reduceLeDiff, Int.reduceEq, Int.reduceLT, Int.reduceLE, Int.reduceNeg, Int.reduceToNat, Int.reduceAdd, Nat.reduceDiv, Nat.reduceSub, Nat.reduceMod, encL, MC0, MC1, MC2, hWi]
    refine condD_of (fun h => ?_) (fun h => ?_)
    · have hi' : i < W.length := by omega
      have hii : i < (ints W).length := by omega
      have hin : 0 ≤ (i : Int) ∧ (i : Int) < W.length := by omega
      have hu := (B.w W[i] (List.getElem_mem hi')).1
      have huin : 0 ≤ (W[i] : Int) ∧ (W[i] : Int) < m.code.length := by omega
      have hy := hg.nx _ (List.getElem_mem hu)
      have hnx : nx m W[i] = (m.code[W[i]].next).map Int.toNat := by simp [nx, hu]
      simp only [VC0, VC1, VC2, VC3, VC4, VC5, VC6, VC7, VC8, reduceIte, reduceCtorEq, Nat.reduceEqDiff, Nat.reduceAdd, Nat.reduceMul, Nat.reduceBEq, Nat.reduceLT, Nat.reduceLeDiff, Int.reduceEq, Int.reduceLT, Int.reduceLE, Int.reduceNeg, Int.reduceToNat, Int.reduceAdd, Nat.reduceDiv, Nat.reduceSub, Nat.reduceMod, encL, MC0, MC1, MC2, hWi, hin, hi', hii, ints_get, huin, hu]
      have hui : W[i]? = some W[i] := List.getElem?_eq_getElem hi'
      generalize W[i] = u at hui hu huin hy hnx
      generalize m.code[u] = x at hy hnx
      refine loop_vcg (ι := Nat × List Nat × List Int × (Nat → Nat)) (fun (b, W, o, c) => stO [(1, .box m.cells), (3, .own 1 m.code.length (o.flatMap cI)), (5, .own 1 W.length ((ints W).flatMap cI)), (6, .val (.int .i64 i)), (7, .box x.cells), (8, .val (.int .i64 b))] c)
        (fun (b, W', o', _) => b ≤ x.next.length ∧ W'[i]? = some u ∧ o'.length = m.code.length ∧ W'.length + uns o' ≤ m.code.length ∧ Bfs (nx m) m.code.length i b W' (fun t => o'.getD t (-1)) ∧ (∀ t, o'.getD t (-1) < W'.length) ∧ W'.length + 2 * uns o' ≤ W.length + 2 * uns o)
        (fun (b, _, _, _) => x.next.length - b) (0, W, o, _) ⟨Nat.zero_le _, hui, hol, hnb, B, hub, Nat.le_refl _⟩ (ent_of _ [] rfl rfl (by simp only [VC0, VC1, VC2, VC3, VC4, VC5, VC6, VC7, VC8, reduceIte, reduceCtorEq, Nat.reduceEqDiff, Nat.reduceAdd, Nat.reduceMul, Nat.reduceBEq, Nat.reduceLT, Nat.reduceLeDiff, Int.reduceEq, Int.reduceLT, Int.reduceLE, Int.reduceNeg, Int.reduceToNat, Int.reduceAdd, Nat.reduceDiv, Nat.reduceSub, Nat.reduceMod, encL, MC0, MC1, MC2, hWi])) ?_
      rintro ⟨b, W', o', c⟩ ⟨hb, hui', hol', hnb', B', hub', hms⟩
      have hWi' := ints_len W'
      obtain ⟨hiW, huW⟩ := List.getElem?_eq_some_iff.1 hui'
      simp only [VC0, VC1, VC2, VC3, VC4, VC5, VC6, VC7, VC8, reduceIte, reduceCtorEq, Nat.reduceEqDiff, Nat.reduceAdd, Nat.reduceMul, Nat.reduceBEq, Nat.reduceLT, Nat.reduceLeDiff, Int.reduceEq, Int.reduceLT, Int.reduceLE, Int.reduceNeg, Int.reduceToNat, Int.reduceAdd, Nat.reduceDiv, Nat.reduceSub, Nat.reduceMod, encL, MC0, MC1, MC2, hWi']
      refine condD_of (fun h => ?_) (fun h => ?_)
      · have hb' : b < x.next.length := by omega
        have hbin : 0 ≤ (b : Int) ∧ (b : Int) < x.next.length := by omega
        obtain ⟨t, ht⟩ : ∃ t : Nat, x.next[b] = (t : Int) := ⟨x.next[b].toNat, by have := hy.2 _ (List.getElem_mem hb'); omega⟩
        have htN : t < m.code.length := by have := hy.2 _ (List.getElem_mem hb'); omega
        have htin : 0 ≤ (t : Int) ∧ (t : Int) < m.code.length := by omega
        have hto : t < o'.length := by omega
        have hot : o'[t] = o'.getD t (-1) := by simp [hto]
        have hbn : b < (nx m W'[i]).length := by rw [huW, hnx]; simpa using hb'
        have hnt : (nx m W'[i])[b] = t := by simp only [huW, hnx, List.getElem_map, ht]; rfl
        have huo : u < o'.length := by omega
        have hou : o'[u] = o'.getD u (-1) := by simp [huo]
        have hbI : InI64 ((b : Int) + 1) := by unfold InI64; omega
        simp only [VC0, VC1, VC2, VC3, VC4, VC5, VC6, VC7, VC8, reduceIte, reduceCtorEq, Nat.reduceEqDiff, Nat.reduceAdd, Nat.reduceMul, Nat.reduceBEq, Nat.reduceLT, Nat.reduceLeDiff, Int.reduceEq, Int.reduceLT, Int.reduceLE, Int.reduceNeg, Int.reduceToNat, Int.reduceAdd, Nat.reduceDiv, Nat.reduceSub, Nat.reduceMod, encL, MC0, MC1, MC2, hb', hbin, ht, htin, hto, hot]
        refine condD_of (fun h => ?_) (fun h => ?_)
        · have hii' : i < (ints W').length := by omega
          have hiin : 0 ≤ (i : Int) ∧ (i : Int) < W'.length := by omega
          have htle : t + 1 ≤ m.code.length := by omega
          have huU := hub' u
          have hu0 : 0 ≤ o'.getD u (-1) := by have := (B'.w _ (List.getElem_mem hiW)).2; rw [huW] at this; exact this
          have huI : InI64 (o'.getD u (-1) + 1) := by unfold InI64; omega
          have hcap : (W'.length + 1) * 8 ≤ 140737488355328 ∧ W'.length + 1 ≤ 4611686018427387904 := by omega
          simp only [VC0, VC1, VC2, VC3, VC4, VC5, VC6, VC7, VC8, reduceIte, reduceCtorEq, Nat.reduceEqDiff, Nat.reduceAdd, Nat.reduceMul, Nat.reduceBEq, Nat.reduceLT, Nat.reduceLeDiff, Int.reduceEq, Int.reduceLT, Int.reduceLE, Int.reduceNeg, Int.reduceToNat, Int.reduceAdd, Nat.reduceDiv, Nat.reduceSub, Nat.reduceMod, encL, MC0, MC1, MC2, hb', hbin, ht, htin, hto, hot, hWi', hii', hiW, hu, htN, hiin, ints_get, huW, huin, huo, hou, htle, hol', li_set hto, ints_app]
          have hset := uns_set (l := o') (k := t) (v := o'.getD u (-1) + 1) hto (by rw [hot]; exact h) (by omega)
          have B2 := B'.take hiW hbn hnt htN h (F' := fun w => (o'.set t (o'.getD u (-1) + 1)).getD w (-1)) (fun w => by rw [getD_set hto]; simp only [huW])
          refine And.intro huI (And.intro (And.intro (by omega) (by omega)) (And.intro hbI (backTo_of (b + 1, W' ++ [t], o'.set t (o'.getD u (-1) + 1), _) ⟨hb', ?_, by simp [hol'], ?_, B2, fun w => ?_, ?_⟩ (by simp only []; omega) (ent_of _ [] rfl rfl (by simp only [VC0, VC1, VC2, VC3, VC4, VC5, VC6, VC7, VC8, reduceIte, reduceCtorEq, Nat.reduceEqDiff, Nat.reduceAdd, Nat.reduceMul, Nat.reduceBEq, Nat.reduceLT, Nat.reduceLeDiff, Int.reduceEq, Int.reduceLT, Int.reduceLE, Int.reduceNeg, Int.reduceToNat, Int.reduceAdd, Nat.reduceDiv, Nat.reduceSub, Nat.reduceMod, encL, MC0, MC1, MC2, hWi'])))))
          · rw [List.getElem?_append_left hiW]; exact hui'
          · simp only [List.length_append, List.length_singleton]; omega
          · simp only [getD_set hto, List.length_append, List.length_singleton]
            have := hub' w
            split <;> omega
          · simp only [List.length_append, List.length_singleton]; omega
        · simp only [VC0, VC1, VC2, VC3, VC4, VC5, VC6, VC7, VC8, reduceIte, reduceCtorEq, Nat.reduceEqDiff, Nat.reduceAdd, Nat.reduceMul, Nat.reduceBEq, Nat.reduceLT, Nat.reduceLeDiff, Int.reduceEq, Int.reduceLT, Int.reduceLE, Int.reduceNeg, Int.reduceToNat, Int.reduceAdd, Nat.reduceDiv, Nat.reduceSub, Nat.reduceMod, encL, MC0, MC1, MC2]
          refine And.intro hbI (backTo_of (b + 1, W', o', _) ⟨hb', hui', hol', hnb', B'.skip hiW hbn (by simp only [hnt]; omega), hub', hms⟩ (by simp only []; omega) (ent_of _ [] rfl rfl (by simp only [VC0, VC1, VC2, VC3, VC4, VC5, VC6, VC7, VC8, reduceIte, reduceCtorEq, Nat.reduceEqDiff, Nat.reduceAdd, Nat.reduceMul, Nat.reduceBEq, Nat.reduceLT, Nat.reduceLeDiff, Int.reduceEq, Int.reduceLT, Int.reduceLE, Int.reduceNeg, Int.reduceToNat, Int.reduceAdd, Nat.reduceDiv, Nat.reduceSub, Nat.reduceMod, encL, MC0, MC1, MC2, hWi'])))
      · simp only [VC0, VC1, VC2, VC3, VC4, VC5, VC6, VC7, VC8, reduceIte, reduceCtorEq, Nat.reduceEqDiff, Nat.reduceAdd, Nat.reduceMul, Nat.reduceBEq, Nat.reduceLT, Nat.reduceLeDiff, Int.reduceEq, Int.reduceLT, Int.reduceLE, Int.reduceNeg, Int.reduceToNat, Int.reduceAdd, Nat.reduceDiv, Nat.reduceSub, Nat.reduceMod, encL, MC0, MC1, MC2]
        have hbn : (nx m W'[i]).length ≤ b := by rw [huW, hnx]; simp; omega
        refine And.intro (by unfold InI64; omega) (backTo_of (i + 1, W', o', _) ⟨hiW, hol', hnb', B'.next hiW hbn, hub'⟩ (by simp only []; omega) (ent_of _ [] rfl rfl (by simp only [VC0, VC1, VC2, VC3, VC4, VC5, VC6, VC7, VC8, reduceIte, reduceCtorEq, Nat.reduceEqDiff, Nat.reduceAdd, Nat.reduceMul, Nat.reduceBEq, Nat.reduceLT, Nat.reduceLeDiff, Int.reduceEq, Int.reduceLT, Int.reduceLE, Int.reduceNeg, Int.reduceToNat, Int.reduceAdd, Nat.reduceDiv, Nat.reduceSub, Nat.reduceMod, encL, MC0, MC1, MC2, hWi'])))
    · have hi' : i = W.length := by omega
      subst hi'
      have : o = (List.range m.code.length).map (dist0 (nx m) 0) := by
        apply List.ext_getElem?
        intro t
        rcases Nat.lt_or_ge t m.code.length with h | h
        · have := B.fin (Nat.le_refl _) t
          rw [List.getD_eq_getElem?_getD, List.getElem?_eq_getElem (by omega), Option.getD_some] at this
          rw [List.getElem?_map, List.getElem?_range h, List.getElem?_eq_getElem (by omega), this]; rfl
        · rw [List.getElem?_eq_none (by omega), List.getElem?_eq_none (by simpa using h)]
      subst this
      simp only [VC0, VC1, VC2, VC3, VC4, VC5, VC6, VC7, VC8, reduceIte, reduceCtorEq, Nat.reduceEqDiff, Nat.reduceAdd, Nat.reduceMul, Nat.reduceBEq, Nat.reduceLT, Nat.reduceLeDiff, Int.reduceEq, Int.reduceLT, Int.reduceLE, Int.reduceNeg, Int.reduceToNat, Int.reduceAdd, Nat.reduceDiv, Nat.reduceSub, Nat.reduceMod, encL, MC0, MC1, MC2, hol]

end Go.Proofs.Ytobhpkagbmadlaa
