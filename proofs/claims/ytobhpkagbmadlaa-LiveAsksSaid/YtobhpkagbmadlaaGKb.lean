/-
  Texts Ctj, Ctk, Ctl of this claim, put together.
-/
import Derived.Test.YtobhpkagbmadlaaGKa
import Derived.Test.YtobhpkagbmadlaaGG
import Derived.Test.YtobhpkagbmadlaaGI
set_option linter.unusedSimpArgs false
set_option linter.unusedVariables false
namespace Go.Proofs.Ytobhpkagbmadlaa
open Go Go.Lg Go.RowKit
set_option maxRecDepth 20000

def ints2 (l : List (Nat × Nat)) : List (Int × Int) := l.map fun p => ((p.1 : Int), (p.2 : Int))
theorem ints2_len (l : List (Nat × Nat)) : (ints2 l).length = l.length := by simp [ints2]
theorem ints2_app (l : List (Nat × Nat)) (a b : Nat) : ints2 l ++ [((a : Int), (b : Int))] = ints2 (l ++ [(a, b)]) := by simp [ints2]

theorem sc2a (a b x y : V) : setCells (setCells [a, b] 0 [x]) 1 [y] = [x, y] := rfl
theorem sc2b (a b x y : V) : setCells [a, b] 0 [x, y] = [x, y] := rfl

structure smallM (m : Mir) : Prop where
  n : m.code.length ≤ 60
  l : m.locals.length ≤ 30
  a : ∀ x ∈ m.code, x.val.args.length ≤ 20
theorem small_of {m : Mir} (h : greatB m = false) : smallM m := by
  simp only [greatB, Bool.or_eq_false_iff, decide_eq_false_iff_not, List.any_eq_false] at h
  refine ⟨by omega, by omega, fun x hx => ?_⟩
  have := h.2 x hx
  simp only [greatI, Bool.or_eq_true, decide_eq_true_eq, not_or] at this
  omega

/-- What a point that may be uses is a local. -/
theorem uses_lt {m : Mir} (hm : mayB m = true) {x : MInst} (hx : x ∈ m.code) {v : Int} (hv : v ∈ usesL x) : 0 ≤ v ∧ v < m.locals.length := by
  simp only [mayB, Bool.and_eq_true, List.all_eq_true] at hm
  have h := hm.2 x hx
  simp only [instB_eq, Bool.and_eq_true] at h
  have h := h.1
  rw [mem_usesL] at hv
  have ho : ∀ (o : MOper), operB o m.locals.length = true → ∀ v ∈ operL o, 0 ≤ v ∧ v < m.locals.length := by
    intro o ho v hv
    unfold operL at hv
    split at hv
    · rename_i hk
      rw [List.mem_singleton] at hv
      subst hv
      unfold operB at ho
      rw [if_neg (by omega), if_pos hk] at ho
      simpa [inB] using ho
    · cases hv
  have hval : ∀ (u : MVal), valB u m.locals.length m.regions = true → ∀ v ∈ valL u, 0 ≤ v ∧ v < m.locals.length := by
    intro u hu v hv
    unfold valL at hv
    unfold valB at hu
    split at hv
    · rename_i hk
      rw [if_pos hk] at hu
      simp only [Bool.and_eq_true] at hu
      rw [List.mem_singleton] at hv
      subst hv
      simpa [inB] using hu.1
    · rename_i hk
      rw [if_neg hk] at hu
      split at hv
      · rename_i hk2
        rw [if_pos hk2] at hu
        simp only [Bool.and_eq_true] at hu
        rw [List.mem_append] at hv
        rcases hv with hv | hv
        · exact ho _ hu.1 v hv
        · exact ho _ hu.2 v hv
      · rename_i hk2
        rw [if_neg hk2] at hu
        split at hv
        · rename_i hk3
          rw [if_pos hk3] at hu
          exact ho _ hu v hv
        · rename_i hk3
          rw [if_neg hk3] at hu
          split at hv
          · rename_i hk4
            rw [if_pos hk4] at hu
            simp only [Bool.and_eq_true, List.all_eq_true] at hu
            rw [List.mem_flatMap] at hv
            obtain ⟨o, ho1, ho2⟩ := hv
            exact ho _ (hu.2 o ho1) v ho2
          · cases hv
  unfold instA at h
  unfold rawL at hv
  split at hv
  · rename_i hk
    rw [if_pos hk] at h
    simp only [Bool.and_eq_true, Bool.or_eq_true, Bool.not_eq_true'] at h
    rw [List.mem_append] at hv
    rcases hv with hv | hv
    · exact hval _ h.1 v hv
    · split at hv
      · rename_i hh
        rw [List.mem_singleton] at hv
        subst hv
        rcases h.2 with h2 | h2
        · rw [hh.1] at h2; cases h2
        · simpa [inB] using h2
      · cases hv
  · rename_i hk
    rw [if_neg hk] at h
    split at hv
    · rename_i hk2
      rw [if_pos (.inr hk2)] at h
      rw [List.mem_singleton] at hv
      subst hv
      simpa [inB] using h
    · rename_i hk2
      split at hv
      · rename_i hk3
        rw [if_neg (by omega), if_pos hk3] at h
        exact ho _ h v hv
      · cases hv

end Go.Proofs.Ytobhpkagbmadlaa

set_option linter.unusedSimpArgs false
set_option linter.unusedVariables false
namespace Go.Proofs.Ytobhpkagbmadlaa
open Go Go.Lg Go.RowKit
set_option maxRecDepth 20000

set_option maxHeartbeats 4000000 in
theorem livein_ret (m : Mir) (hm : m.ok) (hgr : greatB m = false) : PRet Try.prog 34 [.agg m.cells] (encL (cL cB) (if mayB m = true then livTab m else [])) := by
  have hsm := small_of hgr
  have hsn := hsm.n
  have hsl := hsm.l
  have hprev := prev_ret m hm
  refine pret_intro_l fd34 (by simp) ?_
  simp only [lc34, VC0, VC1, VC2, VC3, VC4, VC5, VC6, VC7, reduceIte, reduceCtorEq, Nat.reduceEqDiff, Nat.reduceAdd, Nat.reduceMul, Nat.reduceBEq, Nat.reduceLT, Nat.reduceLeDiff, Int.reduceEq, Int.reduceLT, Int.reduceLE, Int.reduceNeg, Int.reduceToNat, Int.reduceAdd, Nat.reduceDiv, Nat.reduceSub, Nat.reduceMod, encL, MC0, MC1, MC2]
  by_cases hmay : mayB m = true
  case neg =>
    rw [if_neg hmay] at hprev
    refine callX_of hprev (.inl rfl) ?_
    simp only [VC0, VC1, VC2, VC3, VC4, VC5, VC6, VC7, reduceIte, reduceCtorEq, Nat.reduceEqDiff, Nat.reduceAdd, Nat.reduceMul, Nat.reduceBEq, Nat.reduceLT, Nat.reduceLeDiff, Int.reduceEq, Int.reduceLT, Int.reduceLE, Int.reduceNeg, Int.reduceToNat, Int.reduceAdd, Nat.reduceDiv, Nat.reduceSub, Nat.reduceMod, encL, MC0, MC1, MC2, encLL, if_neg hmay]
    simp [encL]
  have hg := okG_of hmay
  have hpos := hg.pos
  rw [if_pos hmay] at hprev
  have hPl : ((List.range m.code.length).map (prevs m)).length = m.code.length := by simp
  have hPg : ∀ (i : Nat) (hi : i < ((List.range m.code.length).map (prevs m)).length), ((List.range m.code.length).map (prevs m))[i] = prevs m i := by intro i hi; simp
  simp only [if_pos hmay]
  generalize (List.range m.code.length).map (prevs m) = P at hprev hPl hPg
  refine callX_of hprev (.inl rfl) ?_
  simp only [VC0, VC1, VC2, VC3, VC4, VC5, VC6, VC7, reduceIte, reduceCtorEq, Nat.reduceEqDiff, Nat.reduceAdd, Nat.reduceMul, Nat.reduceBEq, Nat.reduceLT, Nat.reduceLeDiff, Int.reduceEq, Int.reduceLT, Int.reduceLE, Int.reduceNeg, Int.reduceToNat, Int.reduceAdd, Nat.reduceDiv, Nat.reduceSub, Nat.reduceMod, encL, MC0, MC1, MC2, encLL, hPl]
  refine condD_of (fun h => by omega) (fun h => ?_)
  simp only [VC0, VC1, VC2, VC3, VC4, VC5, VC6, VC7, reduceIte, reduceCtorEq, Nat.reduceEqDiff, Nat.reduceAdd, Nat.reduceMul, Nat.reduceBEq, Nat.reduceLT, Nat.reduceLeDiff, Int.reduceEq, Int.reduceLT, Int.reduceLE, Int.reduceNeg, Int.reduceToNat, Int.reduceAdd, Nat.reduceDiv, Nat.reduceSub, Nat.reduceMod, encL, MC0, MC1, MC2, hPl]
  refine And.intro (by omega) ?_
  refine loop_vcg (ι := Nat × List (Nat × Nat) × List (List Bool) × (Nat → Nat)) (fun (i, W, R, c) => stO [(1, .box m.cells), (3, .val (encL (cL cI) P)), (26, .val (encL MInst.cells m.code)), (27, .val (.int .i64 m.code.length)), (28, .val (.int .i64 i)), (5, .own 2 W.length ((ints2 W).flatMap cP)), (4, .rows 1 (rsI cB R))] c)
    (fun (i, W, R, _) => i ≤ m.code.length ∧ R.length = m.code.length ∧ (∀ (j : Nat) (h : j < R.length), R[j].length = if j < i then m.locals.length else 0) ∧ W.length ≤ i * 23 ∧ L0 m i 0 W (tget R)) (fun (i, _, _, _) => m.code.length - i)
    (0, [], List.replicate m.code.length [], _) ⟨Nat.zero_le _, by simp, fun j h => by simp, by simp, L0.start m (fun j u => tget_nil j u)⟩ (ent_of _ [] rfl rfl (by
      simp only [VC0, VC1, VC2, VC3, VC4, VC5, VC6, VC7, reduceIte, reduceCtorEq, Nat.reduceEqDiff, Nat.reduceAdd, Nat.reduceMul, Nat.reduceBEq, Nat.reduceLT, Nat.reduceLeDiff, Int.reduceEq, Int.reduceLT, Int.reduceLE, Int.reduceNeg, Int.reduceToNat, Int.reduceAdd, Nat.reduceDiv, Nat.reduceSub, Nat.reduceMod, encL, MC0, MC1, MC2, hPl, ints2, List.map_nil, List.flatMap_nil]
      refine rowsAt_mk rfl (by simp) (by decide) ?_
      simp only [VC0, VC1, VC2, VC3, VC4, VC5, VC6, VC7, reduceIte, reduceCtorEq, Nat.reduceEqDiff, Nat.reduceAdd, Nat.reduceMul, Nat.reduceBEq, Nat.reduceLT, Nat.reduceLeDiff, Int.reduceEq, Int.reduceLT, Int.reduceLE, Int.reduceNeg, Int.reduceToNat, Int.reduceAdd, Nat.reduceDiv, Nat.reduceSub, Nat.reduceMod, encL, MC0, MC1, MC2])) ?_
  · rintro ⟨i, W, R, c⟩ ⟨hi, hRl, hRr, hWl, B⟩
    simp only [VC0, VC1, VC2, VC3, VC4, VC5, VC6, VC7, reduceIte, reduceCtorEq, Nat.reduceEqDiff, Nat.reduceAdd, Nat.reduceMul, Nat.reduceBEq, Nat.reduceLT, Nat.reduceLeDiff, Int.reduceEq, Int.reduceLT, Int.reduceLE, Int.reduceNeg, Int.reduceToNat, Int.reduceAdd, Nat.reduceDiv, Nat.reduceSub, Nat.reduceMod, encL, MC0, MC1, MC2]
    refine condD_of (fun h => ?_) (fun h => ?_)
    · have hi' : i < m.code.length := by omega
      have hin : 0 ≤ (i : Int) ∧ (i : Int) < m.code.length := by omega
      have hile : i + 1 ≤ m.code.length := hi'
      have hiR : i < R.length := by omega
      have hR0 : R[i] = [] := List.eq_nil_of_length_eq_zero (by rw [hRr i hiR, if_neg (by omega)])
      have hul := usesL_len m.code[i]
      have hua := hsm.a _ (List.getElem_mem hi')
      have hult : ∀ v ∈ usesL m.code[i], 0 ≤ v ∧ v < m.locals.length := fun v hv => uses_lt hmay (List.getElem_mem hi') hv
      have hrsl := rsI_len cB R
      simp only [VC0, VC1, VC2, VC3, VC4, VC5, VC6, VC7, reduceIte, reduceCtorEq, Nat.reduceEqDiff, Nat.reduceAdd, Nat.reduceMul, Nat.reduceBEq, Nat.reduceLT, Nat.reduceLeDiff, Int.reduceEq, Int.reduceLT, Int.reduceLE, Int.reduceNeg, Int.reduceToNat, Int.reduceAdd, Nat.reduceDiv, Nat.reduceSub, Nat.reduceMod, encL, MC0, MC1, MC2, hi', hin, rowV_len, hrsl, hRl, hile]
      refine And.intro (by omega) ?_
      refine callX_of (uses_own m.code[i] (by omega)).ret (.inl rfl) ?_
      generalize hU : usesL m.code[i] = U at hul hult
      simp only [VC0, VC1, VC2, VC3, VC4, VC5, VC6, VC7, reduceIte, reduceCtorEq, Nat.reduceEqDiff, Nat.reduceAdd, Nat.reduceMul, Nat.reduceBEq, Nat.reduceLT, Nat.reduceLeDiff, Int.reduceEq, Int.reduceLT, Int.reduceLE, Int.reduceNeg, Int.reduceToNat, Int.reduceAdd, Nat.reduceDiv, Nat.reduceSub, Nat.reduceMod, encL, MC0, MC1, MC2]
      refine loop_vcg (ι := Nat × List (Nat × Nat) × List (List Bool) × (Nat → Nat)) (fun (k, W, R, c) => stO [(1, .box m.cells), (3, .val (encL (cL cI) P)), (6, .val (.int .i64 i)), (26, .val (encL MInst.cells m.code)), (27, .val (.int .i64 m.code.length)), (28, .val (.int .i64 i)),
          (41, .val (encL cI U)), (42, .val (.int .i64 U.length)), (43, .val (.int .i64 k)), (5, .own 2 W.length ((ints2 W).flatMap cP)), (4, .rows 1 (rsI cB R))] c)
        (fun (k, W', R', _) => k ≤ U.length ∧ R'.length = m.code.length ∧ (∀ (j : Nat) (h : j < R'.length), R'[j].length = if j < i + 1 then m.locals.length else 0) ∧ W'.length = W.length + k ∧ L0 m i k W' (tget R')) (fun (k, _, _, _) => U.length - k)
        (0, W, R.set i (List.replicate m.locals.length false), _) ⟨Nat.zero_le _, by simp [hRl], fun j h => ?_, rfl, B.congr fun j u => tget_new hiR hR0 j u⟩ (ent_of _ [] rfl rfl (by
          simp only [VC0, VC1, VC2, VC3, VC4, VC5, VC6, VC7, reduceIte, reduceCtorEq, Nat.reduceEqDiff, Nat.reduceAdd, Nat.reduceMul, Nat.reduceBEq, Nat.reduceLT, Nat.reduceLeDiff, Int.reduceEq, Int.reduceLT, Int.reduceLE, Int.reduceNeg, Int.reduceToNat, Int.reduceAdd, Nat.reduceDiv, Nat.reduceSub, Nat.reduceMod, encL, MC0, MC1, MC2, hPl, hrsl, hRl, lp_imv]
          refine rowsAt_new (f := cB) (d := 4) (esz := 1) (t := i) (g := 0) (k' := (36869, 0)) (R := R) (r := List.replicate m.locals.length false) hiR ?_ ?_ (fun j h hne => ?_) (by decide) (lb_imv 8) (by decide) hRl.symm (by simp) (fun j _ => by simp) (by simp) ?_
          · simp only [VC0, VC1, VC2, VC3, VC4, VC5, VC6, VC7, reduceIte, reduceCtorEq, Nat.reduceEqDiff, Nat.reduceAdd, Nat.reduceMul, Nat.reduceBEq, Nat.reduceLT, Nat.reduceLeDiff, Int.reduceEq, Int.reduceLT, Int.reduceLE, Int.reduceNeg, Int.reduceToNat, Int.reduceAdd, Nat.reduceDiv, Nat.reduceSub, Nat.reduceMod, encL, MC0, MC1, MC2]
            try simp
          · simp only [VC0, VC1, VC2, VC3, VC4, VC5, VC6, VC7, reduceIte, reduceCtorEq, Nat.reduceEqDiff, Nat.reduceAdd, Nat.reduceMul, Nat.reduceBEq, Nat.reduceLT, Nat.reduceLeDiff, Int.reduceEq, Int.reduceLT, Int.reduceLE, Int.reduceNeg, Int.reduceToNat, Int.reduceAdd, Nat.reduceDiv, Nat.reduceSub, Nat.reduceMod, encL, MC0, MC1, MC2]
            try simp
          · simp only [VC0, VC1, VC2, VC3, VC4, VC5, VC6, VC7, reduceIte, reduceCtorEq, Nat.reduceEqDiff, Nat.reduceAdd, Nat.reduceMul, Nat.reduceBEq, Nat.reduceLT, Nat.reduceLeDiff, Int.reduceEq, Int.reduceLT, Int.reduceLE, Int.reduceNeg, Int.reduceToNat, Int.reduceAdd, Nat.reduceDiv, Nat.reduceSub, Nat.reduceMod, encL, MC0, MC1, MC2, hne, rsI_get cB h]
            try simp
          · simp only [VC0, VC1, VC2, VC3, VC4, VC5, VC6, VC7, reduceIte, reduceCtorEq, Nat.reduceEqDiff, Nat.reduceAdd, Nat.reduceMul, Nat.reduceBEq, Nat.reduceLT, Nat.reduceLeDiff, Int.reduceEq, Int.reduceLT, Int.reduceLE, Int.reduceNeg, Int.reduceToNat, Int.reduceAdd, Nat.reduceDiv, Nat.reduceSub, Nat.reduceMod, encL, MC0, MC1, MC2])) ?_
      · simp only [List.getElem_set]
        split
        · rename_i e; subst e; rw [if_pos (by omega)]; simp
        · rw [hRr j (by simpa using h)]
          by_cases e : j < i
          · rw [if_pos e, if_pos (by omega)]
          · rw [if_neg e, if_neg (by omega)]
      · rintro ⟨k, W', R', c⟩ ⟨hk, hRl', hRr', hWl', B'⟩
        simp only [VC0, VC1, VC2, VC3, VC4, VC5, VC6, VC7, reduceIte, reduceCtorEq, Nat.reduceEqDiff, Nat.reduceAdd, Nat.reduceMul, Nat.reduceBEq, Nat.reduceLT, Nat.reduceLeDiff, Int.reduceEq, Int.reduceLT, Int.reduceLE, Int.reduceNeg, Int.reduceToNat, Int.reduceAdd, Nat.reduceDiv, Nat.reduceSub, Nat.reduceMod, encL, MC0, MC1, MC2]
        refine condD_of (fun h => ?_) (fun h => ?_)
        · have hk' : k < U.length := by omega
          have hkin : 0 ≤ (k : Int) ∧ (k : Int) < U.length := by omega
          obtain ⟨v, hv⟩ : ∃ v : Nat, U[k] = (v : Int) := ⟨U[k].toNat, by have := hult _ (List.getElem_mem hk'); omega⟩
          have hvL : v < m.locals.length := by have := hult _ (List.getElem_mem hk'); omega
          have hvin : 0 ≤ (v : Int) ∧ (v : Int) < m.locals.length := by omega
          have hiR' : i < R'.length := by omega
          have hget := rsI_get cB hiR'
          have hiR2 : i < (rsI cB R').length := by rw [rsI_len]; exact hiR'
          have hrsl' := rsI_len cB R'
          have hrow : R'[i].length = m.locals.length := by rw [hRr' i hiR', if_pos (by omega)]
          have hvR : v < R'[i].length := by omega
          have hvle : v + 1 ≤ m.locals.length := hvL
          have hWi := ints2_len W'
          have hcap : (W'.length + 1) * 16 ≤ 140737488355328 ∧ W'.length + 1 ≤ 4611686018427387904 := by omega
          have hUl : (usesL m.code[i]).length = U.length := by rw [hU]
          simp only [VC0, VC1, VC2, VC3, VC4, VC5, VC6, VC7, reduceIte, reduceCtorEq, Nat.reduceEqDiff, Nat.reduceAdd, Nat.reduceMul, Nat.reduceBEq, Nat.reduceLT, Nat.reduceLeDiff, Int.reduceEq, Int.reduceLT, Int.reduceLE, Int.reduceNeg, Int.reduceToNat, Int.reduceAdd, Nat.reduceDiv, Nat.reduceSub, Nat.reduceMod, encL, MC0, MC1, MC2, hk', hkin, hv, hin, hrsl', hRl', rowV_ld hiR2, rowV_len, hget, rsI_at, hrow, hvin, hvle, lb_set hvR, hWi, lp_len, lp_app, sc2a, sc2b, ints2_app, hcap]
          have e2 : W'.length + 1 = (W' ++ [(i, v)]).length := by simp
          refine And.intro (by unfold InI64; omega) (backTo_of (k + 1, W' ++ [(i, v)], R'.set i (R'[i].set v true), _) ⟨hk', by simp [hRl'], fun j h => ?_, by simp only [List.length_append, List.length_singleton]; omega, B'.put hi' (by omega) (by simp only [hU]; exact hv) hvL (fun j u => tget_set hiR' hvR j u)⟩ (by simp only []; omega) (ent_of _ [] rfl rfl (by
            simp only [VC0, VC1, VC2, VC3, VC4, VC5, VC6, VC7, reduceIte, reduceCtorEq, Nat.reduceEqDiff, Nat.reduceAdd, Nat.reduceMul, Nat.reduceBEq, Nat.reduceLT, Nat.reduceLeDiff, Int.reduceEq, Int.reduceLT, Int.reduceLE, Int.reduceNeg, Int.reduceToNat, Int.reduceAdd, Nat.reduceDiv, Nat.reduceSub, Nat.reduceMod, encL, MC0, MC1, MC2, hPl, hrsl', hRl', lp_imv]
            refine rowsAt_upd (f := cB) (d := 4) (esz := 1) (t := i) (R := R') (r := R'[i].set v true) hiR' (by simp) rfl ?_ (fun j h hne => ?_) (lb_imv 8) (by decide) hRl'.symm (by simp) (fun j _ => by simp) ?_
            · simp only [VC0, VC1, VC2, VC3, VC4, VC5, VC6, VC7, reduceIte, reduceCtorEq, Nat.reduceEqDiff, Nat.reduceAdd, Nat.reduceMul, Nat.reduceBEq, Nat.reduceLT, Nat.reduceLeDiff, Int.reduceEq, Int.reduceLT, Int.reduceLE, Int.reduceNeg, Int.reduceToNat, Int.reduceAdd, Nat.reduceDiv, Nat.reduceSub, Nat.reduceMod, encL, MC0, MC1, MC2]
              try simp
            · simp only [VC0, VC1, VC2, VC3, VC4, VC5, VC6, VC7, reduceIte, reduceCtorEq, Nat.reduceEqDiff, Nat.reduceAdd, Nat.reduceMul, Nat.reduceBEq, Nat.reduceLT, Nat.reduceLeDiff, Int.reduceEq, Int.reduceLT, Int.reduceLE, Int.reduceNeg, Int.reduceToNat, Int.reduceAdd, Nat.reduceDiv, Nat.reduceSub, Nat.reduceMod, encL, MC0, MC1, MC2, hne, rsI_get cB h]
              try simp [hne]
            · simp only [VC0, VC1, VC2, VC3, VC4, VC5, VC6, VC7, reduceIte, reduceCtorEq, Nat.reduceEqDiff, Nat.reduceAdd, Nat.reduceMul, Nat.reduceBEq, Nat.reduceLT, Nat.reduceLeDiff, Int.reduceEq, Int.reduceLT, Int.reduceLE, Int.reduceNeg, Int.reduceToNat, Int.reduceAdd, Nat.reduceDiv, Nat.reduceSub, Nat.reduceMod, encL, MC0, MC1, MC2])))
          simp only [List.getElem_set]
          split
          · rename_i e; subst e; rw [List.length_set, hrow, if_pos (by omega)]
          · exact hRr' j (by simpa using h)
        · have hk' : k = U.length := by omega
          subst hk'
          simp only [VC0, VC1, VC2, VC3, VC4, VC5, VC6, VC7, reduceIte, reduceCtorEq, Nat.reduceEqDiff, Nat.reduceAdd, Nat.reduceMul, Nat.reduceBEq, Nat.reduceLT, Nat.reduceLeDiff, Int.reduceEq, Int.reduceLT, Int.reduceLE, Int.reduceNeg, Int.reduceToNat, Int.reduceAdd, Nat.reduceDiv, Nat.reduceSub, Nat.reduceMod, encL, MC0, MC1, MC2]
          refine And.intro (by unfold InI64; omega) (backTo_of (i + 1, W', R', _) ⟨hi', hRl', hRr', by simp only []; omega, B'.next hi' (by rw [hU]; exact Nat.le_refl _)⟩ (by simp only []; omega) (ent_of _ [] rfl rfl (by
            simp only [VC0, VC1, VC2, VC3, VC4, VC5, VC6, VC7, reduceIte, reduceCtorEq, Nat.reduceEqDiff, Nat.reduceAdd, Nat.reduceMul, Nat.reduceBEq, Nat.reduceLT, Nat.reduceLeDiff, Int.reduceEq, Int.reduceLT, Int.reduceLE, Int.reduceNeg, Int.reduceToNat, Int.reduceAdd, Nat.reduceDiv, Nat.reduceSub, Nat.reduceMod, encL, MC0, MC1, MC2, hPl, rsI_len, hRl', lp_imv]
            refine rowsAt_same (f := cB) (d := 4) (esz := 1) (R := R') rfl (fun j h => ?_) (lb_imv 8) (by decide) hRl'.symm (by simp) (fun j _ => by simp) ?_
            · simp only [VC0, VC1, VC2, VC3, VC4, VC5, VC6, VC7, reduceIte, reduceCtorEq, Nat.reduceEqDiff, Nat.reduceAdd, Nat.reduceMul, Nat.reduceBEq, Nat.reduceLT, Nat.reduceLeDiff, Int.reduceEq, Int.reduceLT, Int.reduceLE, Int.reduceNeg, Int.reduceToNat, Int.reduceAdd, Nat.reduceDiv, Nat.reduceSub, Nat.reduceMod, encL, MC0, MC1, MC2, rsI_get cB h]
            · simp only [VC0, VC1, VC2, VC3, VC4, VC5, VC6, VC7, reduceIte, reduceCtorEq, Nat.reduceEqDiff, Nat.reduceAdd, Nat.reduceMul, Nat.reduceBEq, Nat.reduceLT, Nat.reduceLeDiff, Int.reduceEq, Int.reduceLT, Int.reduceLE, Int.reduceNeg, Int.reduceToNat, Int.reduceAdd, Nat.reduceDiv, Nat.reduceSub, Nat.reduceMod, encL, MC0, MC1, MC2])))
    · have hi' : i = m.code.length := by omega
      subst hi'
      simp only [VC0, VC1, VC2, VC3, VC4, VC5, VC6, VC7, reduceIte, reduceCtorEq, Nat.reduceEqDiff, Nat.reduceAdd, Nat.reduceMul, Nat.reduceBEq, Nat.reduceLT, Nat.reduceLeDiff, Int.reduceEq, Int.reduceLT, Int.reduceLE, Int.reduceNeg, Int.reduceToNat, Int.reduceAdd, Nat.reduceDiv, Nat.reduceSub, Nat.reduceMod, encL, MC0, MC1, MC2]
      have hflb : fl R ≤ 60 * 30 := by
        have h1 := fl_le (R := R) (L := m.locals.length) fun r hr => by
          obtain ⟨j, hj, rfl⟩ := List.mem_iff_getElem.1 hr
          rw [hRr j hj, if_pos (by omega)]; exact Nat.le_refl _
        rw [hRl] at h1
        exact Nat.le_trans h1 (Nat.mul_le_mul hsn hsl)
      refine loop_vcg (ι := List (Nat × Nat) × List (List Bool) × (Nat → Nat)) (fun (W, R, c) => stO [(1, .box m.cells), (3, .val (encL (cL cI) P)), (5, .own 2 W.length ((ints2 W).flatMap cP)), (4, .rows 1 (rsI cB R))] c)
        (fun (W, R, _) => R.length = m.code.length ∧ (∀ (j : Nat) (h : j < R.length), R[j].length = m.locals.length) ∧ W.length + fl R ≤ 10000 ∧ LI m none W (tget R)) (fun (W, R, _) => W.length + 2 * fl R)
        (W, R, _) ⟨hRl, fun j h => by rw [hRr j h, if_pos (by omega)], by omega, LI.start B (Nat.le_refl _)⟩ (ent_of _ [] rfl rfl (by
          simp only [VC0, VC1, VC2, VC3, VC4, VC5, VC6, VC7, reduceIte, reduceCtorEq, Nat.reduceEqDiff, Nat.reduceAdd, Nat.reduceMul, Nat.reduceBEq, Nat.reduceLT, Nat.reduceLeDiff, Int.reduceEq, Int.reduceLT, Int.reduceLE, Int.reduceNeg, Int.reduceToNat, Int.reduceAdd, Nat.reduceDiv, Nat.reduceSub, Nat.reduceMod, encL, MC0, MC1, MC2, hPl, rsI_len, hRl, lp_imv]
          refine rowsAt_same (f := cB) (d := 4) (esz := 1) (R := R) rfl (fun j h => ?_) (lb_imv 8) (by decide) hRl.symm (by simp) (fun j _ => by simp) ?_
          · simp only [VC0, VC1, VC2, VC3, VC4, VC5, VC6, VC7, reduceIte, reduceCtorEq, Nat.reduceEqDiff, Nat.reduceAdd, Nat.reduceMul, Nat.reduceBEq, Nat.reduceLT, Nat.reduceLeDiff, Int.reduceEq, Int.reduceLT, Int.reduceLE, Int.reduceNeg, Int.reduceToNat, Int.reduceAdd, Nat.reduceDiv, Nat.reduceSub, Nat.reduceMod, encL, MC0, MC1, MC2, rsI_get cB h]
          · simp only [VC0, VC1, VC2, VC3, VC4, VC5, VC6, VC7, reduceIte, reduceCtorEq, Nat.reduceEqDiff, Nat.reduceAdd, Nat.reduceMul, Nat.reduceBEq, Nat.reduceLT, Nat.reduceLeDiff, Int.reduceEq, Int.reduceLT, Int.reduceLE, Int.reduceNeg, Int.reduceToNat, Int.reduceAdd, Nat.reduceDiv, Nat.reduceSub, Nat.reduceMod, encL, MC0, MC1, MC2])) ?_
      rintro ⟨W, R, c⟩ ⟨hRl, hRr, hWf, B⟩
      simp only [VC0, VC1, VC2, VC3, VC4, VC5, VC6, VC7, reduceIte, reduceCtorEq, Nat.reduceEqDiff, Nat.reduceAdd, Nat.reduceMul, Nat.reduceBEq, Nat.reduceLT, Nat.reduceLeDiff, Int.reduceEq, Int.reduceLT, Int.reduceLE, Int.reduceNeg, Int.reduceToNat, Int.reduceAdd, Nat.reduceDiv, Nat.reduceSub, Nat.reduceMod, encL, MC0, MC1, MC2]
      refine condD_of (fun h => ?_) (fun h => ?_)
      · rcases List.eq_nil_or_concat W with e | ⟨W', ⟨i, v⟩, e⟩
        · subst e; simp at h
        rw [List.concat_eq_append] at e
        subst e
        obtain ⟨hiN, hvL, hT⟩ := B.w (i, v) (by simp)
        simp only [] at hiN hvL hT
        have hWl : (W' ++ [(i, v)]).length = W'.length + 1 := by simp
        have hi2 : ints2 (W' ++ [(i, v)]) = ints2 W' ++ [((i : Int), (v : Int))] := by simp [ints2]
        have hl2 := ints2_len W'
        have hiP : i < P.length := by omega
        have hiin : 0 ≤ (i : Int) ∧ (i : Int) < m.code.length := by omega
        have hld0 : ldV false 1 ((ints2 W' ++ [((i : Int), (v : Int))]).flatMap cP) (W'.length * 2) = some (.int .i64 i) := by
          have := lp_last0 (ints2 W') ((i : Int), (v : Int)); rwa [hl2] at this
        have hld1 : ldV false 1 ((ints2 W' ++ [((i : Int), (v : Int))]).flatMap cP) (W'.length * 2 + 1) = some (.int .i64 v) := by
          have := lp_last1 (ints2 W') ((i : Int), (v : Int)); rwa [hl2] at this
        have hcut : ((ints2 W' ++ [((i : Int), (v : Int))]).flatMap cP).take (W'.length * 2) = (ints2 W').flatMap cP := by
          have := lp_cut (ints2 W') ((i : Int), (v : Int)); rwa [hl2] at this
        have hWI : InI64 (W'.length : Int) := by unfold InI64; omega
        have hWn : 0 ≤ (W'.length : Int) ∧ (W'.length : Int) < (W'.length : Int) + 1 := by omega
        have hWn2 : 0 ≤ (W'.length : Int) := by omega
        have hWn3 : (W'.length : Int) ≤ (W'.length : Int) + 1 := by omega
        have hQ := hPg i hiP
        simp only [VC0, VC1, VC2, VC3, VC4, VC5, VC6, VC7, reduceIte, reduceCtorEq, Nat.reduceEqDiff, Nat.reduceAdd, Nat.reduceMul, Nat.reduceBEq, Nat.reduceLT, Nat.reduceLeDiff, Int.reduceEq, Int.reduceLT, Int.reduceLE, Int.reduceNeg, Int.reduceToNat, Int.reduceAdd, Nat.reduceDiv, Nat.reduceSub, Nat.reduceMod, encL, MC0, MC1, MC2, hWl, hi2, hl2, hWI, hWn, hWn2, hWn3, hld0, hld1, hPl, hiin, ld_cL hiP]
        generalize P[i] = Q at hQ
        have hQl : Q.length ≤ 6000 := by rw [hQ]; have := prevs_len m i; omega
        refine loop_vcg (ι := Nat × List (Nat × Nat) × List (List Bool) × (Nat → Nat)) (fun (b, W, R, c) => stO [(1, .box m.cells), (3, .val (encL (cL cI) P)), (11, .val (.int .i64 v)), (86, .val (encL cI Q)), (87, .val (.int .i64 Q.length)), (88, .val (.int .i64 b)), (5, .own 2 W.length ((ints2 W).flatMap cP)), (4, .rows 1 (rsI cB R))] c)
          (fun (b, W2, R2, _) => b ≤ Q.length ∧ R2.length = m.code.length ∧ (∀ (j : Nat) (h : j < R2.length), R2[j].length = m.locals.length) ∧ W2.length + fl R2 ≤ 10000 ∧ W2.length + 2 * fl R2 ≤ W'.length + 2 * fl R ∧ tget R2 i v = true ∧ LI m (some (i, v, b)) W2 (tget R2)) (fun (b, _, _, _) => Q.length - b)
          (0, W', R, _) ⟨Nat.zero_le _, hRl, hRr, by omega, Nat.le_refl _, hT, B.pop⟩ (Ent.trans (Ent.cut (key := (2199023255557, 0)) (g := 0) (esz := 2) (cs := (ints2 W' ++ [((i : Int), (v : Int))]).flatMap cP) (W'.length * 2) (by simp only [VC0, VC1, VC2, VC3, VC4, VC5, VC6, VC7, reduceIte, reduceCtorEq, Nat.reduceEqDiff, Nat.reduceAdd, Nat.reduceMul, Nat.reduceBEq, Nat.reduceLT, Nat.reduceLeDiff, Int.reduceEq, Int.reduceLT, Int.reduceLE, Int.reduceNeg, Int.reduceToNat, Int.reduceAdd, Nat.reduceDiv, Nat.reduceSub, Nat.reduceMod, encL, MC0, MC1, MC2])) (ent_of _ [] rfl rfl (by
            simp only [VC0, VC1, VC2, VC3, VC4, VC5, VC6, VC7, reduceIte, reduceCtorEq, Nat.reduceEqDiff, Nat.reduceAdd, Nat.reduceMul, Nat.reduceBEq, Nat.reduceLT, Nat.reduceLeDiff, Int.reduceEq, Int.reduceLT, Int.reduceLE, Int.reduceNeg, Int.reduceToNat, Int.reduceAdd, Nat.reduceDiv, Nat.reduceSub, Nat.reduceMod, encL, MC0, MC1, MC2, hcut, hPl, hl2, rsI_len, hRl, lp_imv]
            refine rowsAt_same (f := cB) (d := 4) (esz := 1) (R := R) rfl (fun j h => ?_) (lb_imv 8) (by decide) hRl.symm (by simp) (fun j _ => by simp) ?_
            · simp only [VC0, VC1, VC2, VC3, VC4, VC5, VC6, VC7, reduceIte, reduceCtorEq, Nat.reduceEqDiff, Nat.reduceAdd, Nat.reduceMul, Nat.reduceBEq, Nat.reduceLT, Nat.reduceLeDiff, Int.reduceEq, Int.reduceLT, Int.reduceLE, Int.reduceNeg, Int.reduceToNat, Int.reduceAdd, Nat.reduceDiv, Nat.reduceSub, Nat.reduceMod, encL, MC0, MC1, MC2, rsI_get cB h]
            · simp only [VC0, VC1, VC2, VC3, VC4, VC5, VC6, VC7, reduceIte, reduceCtorEq, Nat.reduceEqDiff, Nat.reduceAdd, Nat.reduceMul, Nat.reduceBEq, Nat.reduceLT, Nat.reduceLeDiff, Int.reduceEq, Int.reduceLT, Int.reduceLE, Int.reduceNeg, Int.reduceToNat, Int.reduceAdd, Nat.reduceDiv, Nat.reduceSub, Nat.reduceMod, encL, MC0, MC1, MC2]))) ?_
        rintro ⟨b, W2, R2, c⟩ ⟨hb, hRl2, hRr2, hWf2, hms, hT2, B2⟩
        simp only [VC0, VC1, VC2, VC3, VC4, VC5, VC6, VC7, reduceIte, reduceCtorEq, Nat.reduceEqDiff, Nat.reduceAdd, Nat.reduceMul, Nat.reduceBEq, Nat.reduceLT, Nat.reduceLeDiff, Int.reduceEq, Int.reduceLT, Int.reduceLE, Int.reduceNeg, Int.reduceToNat, Int.reduceAdd, Nat.reduceDiv, Nat.reduceSub, Nat.reduceMod, encL, MC0, MC1, MC2]
        refine condD_of (fun h => ?_) (fun h => ?_)
        · have hb' : b < Q.length := by omega
          have hbin : 0 ≤ (b : Int) ∧ (b : Int) < Q.length := by omega
          have hbp : b < (prevs m i).length := by rw [← hQ]; exact hb'
          obtain ⟨k, hkN, hyk, hik⟩ := prevs_mem.1 (List.getElem_mem hbp)
          have hyk' : Q[b] = (k : Int) := by simp only [hQ]; exact hyk
          have hkin : 0 ≤ (k : Int) ∧ (k : Int) < m.code.length := by omega
          have hkR : k < R2.length := by omega
          have hget := rsI_get cB hkR
          have hkR2 : k < (rsI cB R2).length := by rw [rsI_len]; exact hkR
          have hrsl2 := rsI_len cB R2
          have hrow := hRr2 k hkR
          have hvR : v < R2[k].length := by omega
          have hvin : 0 ≤ (v : Int) ∧ (v : Int) < m.locals.length := by omega
          have hvle : v + 1 ≤ m.locals.length := hvL
          have hW2i := ints2_len W2
          have hcap : (W2.length + 1) * 16 ≤ 140737488355328 ∧ W2.length + 1 ≤ 4611686018427387904 := by omega
          have hbI : InI64 ((b : Int) + 1) := by unfold InI64; omega
          simp only [VC0, VC1, VC2, VC3, VC4, VC5, VC6, VC7, reduceIte, reduceCtorEq, Nat.reduceEqDiff, Nat.reduceAdd, Nat.reduceMul, Nat.reduceBEq, Nat.reduceLT, Nat.reduceLeDiff, Int.reduceEq, Int.reduceLT, Int.reduceLE, Int.reduceNeg, Int.reduceToNat, Int.reduceAdd, Nat.reduceDiv, Nat.reduceSub, Nat.reduceMod, encL, MC0, MC1, MC2, hb', hbin, hyk', hkin, hkN]
          refine callX_of (sets_ret m.code[k]) (.inr rfl) ?_
          simp only [VC0, VC1, VC2, VC3, VC4, VC5, VC6, VC7, reduceIte, reduceCtorEq, Nat.reduceEqDiff, Nat.reduceAdd, Nat.reduceMul, Nat.reduceBEq, Nat.reduceLT, Nat.reduceLeDiff, Int.reduceEq, Int.reduceLT, Int.reduceLE, Int.reduceNeg, Int.reduceToNat, Int.reduceAdd, Nat.reduceDiv, Nat.reduceSub, Nat.reduceMod, encL, MC0, MC1, MC2, hb', hbin, hyk', hkin, hkN, List.getElem?_cons_zero, List.getElem?_cons_succ, rowV_ld hkR2, rowV_len, hrsl2, hRl2, hget, rsI_at, hrow, hvin, hvR, ld_cB hvR]
          repeat' (first | refine condDn_of (fun h => ?_) (fun h => ?_) <;> simp only [VC0, VC1, VC2, VC3, VC4, VC5, VC6, VC7, reduceIte, reduceCtorEq, Nat.reduceEqDiff, Nat.reduceAdd, Nat.reduceMul, Nat.reduceBEq, Nat.reduceLT, Nat.reduceLeDiff, Int.reduceEq, Int.reduceLT, Int.reduceLE, Int.reduceNeg, Int.reduceToNat, Int.reduceAdd, Nat.reduceDiv, Nat.reduceSub, Nat.reduceMod, encL, MC0, MC1, MC2, h, hb', hbin, hyk', hkin, hkN, rowV_ld hkR2, rowV_len, hrsl2, hRl2, hget, rsI_at, hrow, hvin, hvle, hvR, ld_cB hvR, lb_set hvR, hW2i, lp_len, lp_app, sc2a, sc2b, ints2_app, hcap, hbI] | refine condD_of (fun h => ?_) (fun h => ?_) <;> simp only [VC0, VC1, VC2, VC3, VC4, VC5, VC6, VC7, reduceIte, reduceCtorEq, Nat.reduceEqDiff, Nat.reduceAdd, Nat.reduceMul, Nat.reduceBEq, Nat.reduceLT, Nat.reduceLeDiff, Int.reduceEq, Int.reduceLT, Int.reduceLE, Int.reduceNeg, Int.reduceToNat, Int.reduceAdd, Nat.reduceDiv, Nat.reduceSub, Nat.reduceMod, encL, MC0, MC1, MC2, h, hb', hbin, hyk', hkin, hkN, rowV_ld hkR2, rowV_len, hrsl2, hRl2, hget, rsI_at, hrow, hvin, hvle, hvR, ld_cB hvR, lb_set hvR, hW2i, lp_len, lp_app, sc2a, sc2b, ints2_app, hcap, hbI] | refine condVn_of (fun h => ?_) (fun h => ?_) <;> simp only [VC0, VC1, VC2, VC3, VC4, VC5, VC6, VC7, reduceIte, reduceCtorEq, Nat.reduceEqDiff, Nat.reduceAdd, Nat.reduceMul, Nat.reduceBEq, Nat.reduceLT, Nat.reduceLeDiff, Int.reduceEq, Int.reduceLT, Int.reduceLE, Int.reduceNeg, Int.reduceToNat, Int.reduceAdd, Nat.reduceDiv, Nat.reduceSub, Nat.reduceMod, encL, MC0, MC1, MC2, h, hb', hbin, hyk', hkin, hkN, rowV_ld hkR2, rowV_len, hrsl2, hRl2, hget, rsI_at, hrow, hvin, hvle, hvR, ld_cB hvR, lb_set hvR, hW2i, lp_len, lp_app, sc2a, sc2b, ints2_app, hcap, hbI] | refine condV_of (fun h => ?_) (fun h => ?_) <;> simp only [VC0, VC1, VC2, VC3, VC4, VC5, VC6, VC7, reduceIte, reduceCtorEq, Nat.reduceEqDiff, Nat.reduceAdd, Nat.reduceMul, Nat.reduceBEq, Nat.reduceLT, Nat.reduceLeDiff, Int.reduceEq, Int.reduceLT, Int.reduceLE, Int.reduceNeg, Int.reduceToNat, Int.reduceAdd, Nat.reduceDiv, Nat.reduceSub, Nat.reduceMod, encL, MC0, MC1, MC2, h, hb', hbin, hyk', hkin, hkN, rowV_ld hkR2, rowV_len, hrsl2, hRl2, hget, rsI_at, hrow, hvin, hvle, hvR, ld_cB hvR, lb_set hvR, hW2i, lp_len, lp_app, sc2a, sc2b, ints2_app, hcap, hbI] | refine gdDn_of (fun h => ?_) (fun h => ?_) <;> simp only [VC0, VC1, VC2, VC3, VC4, VC5, VC6, VC7, reduceIte, reduceCtorEq, Nat.reduceEqDiff, Nat.reduceAdd, Nat.reduceMul, Nat.reduceBEq, Nat.reduceLT, Nat.reduceLeDiff, Int.reduceEq, Int.reduceLT, Int.reduceLE, Int.reduceNeg, Int.reduceToNat, Int.reduceAdd, Nat.reduceDiv, Nat.reduceSub, Nat.reduceMod, encL, MC0, MC1, MC2, h, hb', hbin, hyk', hkin, hkN, rowV_ld hkR2, rowV_len, hrsl2, hRl2, hget, rsI_at, hrow, hvin, hvle, hvR, ld_cB hvR, lb_set hvR, hW2i, lp_len, lp_app, sc2a, sc2b, ints2_app, hcap, hbI] | refine gdD_of (fun h => ?_) (fun h => ?_) <;> simp only [VC0, VC1, VC2, VC3, VC4, VC5, VC6, VC7, reduceIte, reduceCtorEq, Nat.reduceEqDiff, Nat.reduceAdd, Nat.reduceMul, Nat.reduceBEq, Nat.reduceLT, Nat.reduceLeDiff, Int.reduceEq, Int.reduceLT, Int.reduceLE, Int.reduceNeg, Int.reduceToNat, Int.reduceAdd, Nat.reduceDiv, Nat.reduceSub, Nat.reduceMod, encL, MC0, MC1, MC2, h, hb', hbin, hyk', hkin, hkN, rowV_ld hkR2, rowV_len, hrsl2, hRl2, hget, rsI_at, hrow, hvin, hvle, hvR, ld_cB hvR, lb_set hvR, hW2i, lp_len, lp_app, sc2a, sc2b, ints2_app, hcap, hbI] | refine gdVMn_of (fun h => ?_) (fun h => ?_) <;> simp only [VC0, VC1, VC2, VC3, VC4, VC5, VC6, VC7, reduceIte, reduceCtorEq, Nat.reduceEqDiff, Nat.reduceAdd, Nat.reduceMul, Nat.reduceBEq, Nat.reduceLT, Nat.reduceLeDiff, Int.reduceEq, Int.reduceLT, Int.reduceLE, Int.reduceNeg, Int.reduceToNat, Int.reduceAdd, Nat.reduceDiv, Nat.reduceSub, Nat.reduceMod, encL, MC0, MC1, MC2, h, hb', hbin, hyk', hkin, hkN, rowV_ld hkR2, rowV_len, hrsl2, hRl2, hget, rsI_at, hrow, hvin, hvle, hvR, ld_cB hvR, lb_set hvR, hW2i, lp_len, lp_app, sc2a, sc2b, ints2_app, hcap, hbI] | refine gdVM_of (fun h => ?_) (fun h => ?_) <;> simp only [VC0, VC1, VC2, VC3, VC4, VC5, VC6, VC7, reduceIte, reduceCtorEq, Nat.reduceEqDiff, Nat.reduceAdd, Nat.reduceMul, Nat.reduceBEq, Nat.reduceLT, Nat.reduceLeDiff, Int.reduceEq, Int.reduceLT, Int.reduceLE, Int.reduceNeg, Int.reduceToNat, Int.reduceAdd, Nat.reduceDiv, Nat.reduceSub, Nat.reduceMod, encL, MC0, MC1, MC2, h, hb', hbin, hyk', hkin, hkN, rowV_ld hkR2, rowV_len, hrsl2, hRl2, hget, rsI_at, hrow, hvin, hvle, hvR, ld_cB hvR, lb_set hvR, hW2i, lp_len, lp_app, sc2a, sc2b, ints2_app, hcap, hbI] | refine gpDn_of (fun h => ?_) (fun h => ?_) <;> simp only [VC0, VC1, VC2, VC3, VC4, VC5, VC6, VC7, reduceIte, reduceCtorEq, Nat.reduceEqDiff, Nat.reduceAdd, Nat.reduceMul, Nat.reduceBEq, Nat.reduceLT, Nat.reduceLeDiff, Int.reduceEq, Int.reduceLT, Int.reduceLE, Int.reduceNeg, Int.reduceToNat, Int.reduceAdd, Nat.reduceDiv, Nat.reduceSub, Nat.reduceMod, encL, MC0, MC1, MC2, h, hb', hbin, hyk', hkin, hkN, rowV_ld hkR2, rowV_len, hrsl2, hRl2, hget, rsI_at, hrow, hvin, hvle, hvR, ld_cB hvR, lb_set hvR, hW2i, lp_len, lp_app, sc2a, sc2b, ints2_app, hcap, hbI] | refine gpD_of (fun h => ?_) (fun h => ?_) <;> simp only [VC0, VC1, VC2, VC3, VC4, VC5, VC6, VC7, reduceIte, reduceCtorEq, Nat.reduceEqDiff, Nat.reduceAdd, Nat.reduceMul, Nat.reduceBEq, Nat.reduceLT, Nat.reduceLeDiff, Int.reduceEq, Int.reduceLT, Int.reduceLE, Int.reduceNeg, Int.reduceToNat, Int.reduceAdd, Nat.reduceDiv, Nat.reduceSub, Nat.reduceMod, encL, MC0, MC1, MC2, h, hb', hbin, hyk', hkin, hkN, rowV_ld hkR2, rowV_len, hrsl2, hRl2, hget, rsI_at, hrow, hvin, hvle, hvR, ld_cB hvR, lb_set hvR, hW2i, lp_len, lp_app, sc2a, sc2b, ints2_app, hcap, hbI] | refine gdVn_of (fun h => ?_) (fun h => ?_) <;> simp only [VC0, VC1, VC2, VC3, VC4, VC5, VC6, VC7, reduceIte, reduceCtorEq, Nat.reduceEqDiff, Nat.reduceAdd, Nat.reduceMul, Nat.reduceBEq, Nat.reduceLT, Nat.reduceLeDiff, Int.reduceEq, Int.reduceLT, Int.reduceLE, Int.reduceNeg, Int.reduceToNat, Int.reduceAdd, Nat.reduceDiv, Nat.reduceSub, Nat.reduceMod, encL, MC0, MC1, MC2, h, hb', hbin, hyk', hkin, hkN, rowV_ld hkR2, rowV_len, hrsl2, hRl2, hget, rsI_at, hrow, hvin, hvle, hvR, ld_cB hvR, lb_set hvR, hW2i, lp_len, lp_app, sc2a, sc2b, ints2_app, hcap, hbI] | refine gdV_of (fun h => ?_) (fun h => ?_) <;> simp only [VC0, VC1, VC2, VC3, VC4, VC5, VC6, VC7, reduceIte, reduceCtorEq, Nat.reduceEqDiff, Nat.reduceAdd, Nat.reduceMul, Nat.reduceBEq, Nat.reduceLT, Nat.reduceLeDiff, Int.reduceEq, Int.reduceLT, Int.reduceLE, Int.reduceNeg, Int.reduceToNat, Int.reduceAdd, Nat.reduceDiv, Nat.reduceSub, Nat.reduceMod, encL, MC0, MC1, MC2, h, hb', hbin, hyk', hkin, hkN, rowV_ld hkR2, rowV_len, hrsl2, hRl2, hget, rsI_at, hrow, hvin, hvle, hvR, ld_cB hvR, lb_set hvR, hW2i, lp_len, lp_app, sc2a, sc2b, ints2_app, hcap, hbI] | (unfold InI64; omega) | refine And.intro ?_ ?_)
          all_goals first
            | (have hd : dnW m (tget R2) v (prevs m i)[b] := .inl (by rw [hyk, Int.toNat_natCast, ← tget_at hkR hvR]; assumption)
               exact backTo_of (b + 1, W2, R2, _) ⟨hb', hRl2, hRr2, hWf2, hms, hT2, B2.skip hbp hd⟩ (by simp only []; omega) (ent_of _ [] rfl rfl (by
                 simp only [VC0, VC1, VC2, VC3, VC4, VC5, VC6, VC7, reduceIte, reduceCtorEq, Nat.reduceEqDiff, Nat.reduceAdd, Nat.reduceMul, Nat.reduceBEq, Nat.reduceLT, Nat.reduceLeDiff, Int.reduceEq, Int.reduceLT, Int.reduceLE, Int.reduceNeg, Int.reduceToNat, Int.reduceAdd, Nat.reduceDiv, Nat.reduceSub, Nat.reduceMod, encL, MC0, MC1, MC2, hPl, rsI_len, hRl2, lp_imv]
                 refine rowsAt_same (f := cB) (d := 4) (esz := 1) (R := R2) rfl (fun j h => ?_) (lb_imv 8) (by decide) hRl2.symm (by simp) (fun j _ => by simp) ?_
                 · simp only [VC0, VC1, VC2, VC3, VC4, VC5, VC6, VC7, reduceIte, reduceCtorEq, Nat.reduceEqDiff, Nat.reduceAdd, Nat.reduceMul, Nat.reduceBEq, Nat.reduceLT, Nat.reduceLeDiff, Int.reduceEq, Int.reduceLT, Int.reduceLE, Int.reduceNeg, Int.reduceToNat, Int.reduceAdd, Nat.reduceDiv, Nat.reduceSub, Nat.reduceMod, encL, MC0, MC1, MC2, rsI_get cB h]
                 · simp only [VC0, VC1, VC2, VC3, VC4, VC5, VC6, VC7, reduceIte, reduceCtorEq, Nat.reduceEqDiff, Nat.reduceAdd, Nat.reduceMul, Nat.reduceBEq, Nat.reduceLT, Nat.reduceLeDiff, Int.reduceEq, Int.reduceLT, Int.reduceLE, Int.reduceNeg, Int.reduceToNat, Int.reduceAdd, Nat.reduceDiv, Nat.reduceSub, Nat.reduceMod, encL, MC0, MC1, MC2])))
            | (have hd : dnW m (tget R2) v (prevs m i)[b] := .inr (by rw [hyk, Int.toNat_natCast, sc_at hkN]; exact Prod.ext (by assumption) (by assumption))
               exact backTo_of (b + 1, W2, R2, _) ⟨hb', hRl2, hRr2, hWf2, hms, hT2, B2.skip hbp hd⟩ (by simp only []; omega) (ent_of _ [] rfl rfl (by
                 simp only [VC0, VC1, VC2, VC3, VC4, VC5, VC6, VC7, reduceIte, reduceCtorEq, Nat.reduceEqDiff, Nat.reduceAdd, Nat.reduceMul, Nat.reduceBEq, Nat.reduceLT, Nat.reduceLeDiff, Int.reduceEq, Int.reduceLT, Int.reduceLE, Int.reduceNeg, Int.reduceToNat, Int.reduceAdd, Nat.reduceDiv, Nat.reduceSub, Nat.reduceMod, encL, MC0, MC1, MC2, hPl, rsI_len, hRl2, lp_imv]
                 refine rowsAt_same (f := cB) (d := 4) (esz := 1) (R := R2) rfl (fun j h => ?_) (lb_imv 8) (by decide) hRl2.symm (by simp) (fun j _ => by simp) ?_
                 · simp only [VC0, VC1, VC2, VC3, VC4, VC5, VC6, VC7, reduceIte, reduceCtorEq, Nat.reduceEqDiff, Nat.reduceAdd, Nat.reduceMul, Nat.reduceBEq, Nat.reduceLT, Nat.reduceLeDiff, Int.reduceEq, Int.reduceLT, Int.reduceLE, Int.reduceNeg, Int.reduceToNat, Int.reduceAdd, Nat.reduceDiv, Nat.reduceSub, Nat.reduceMod, encL, MC0, MC1, MC2, rsI_get cB h]
                 · simp only [VC0, VC1, VC2, VC3, VC4, VC5, VC6, VC7, reduceIte, reduceCtorEq, Nat.reduceEqDiff, Nat.reduceAdd, Nat.reduceMul, Nat.reduceBEq, Nat.reduceLT, Nat.reduceLeDiff, Int.reduceEq, Int.reduceLT, Int.reduceLE, Int.reduceNeg, Int.reduceToNat, Int.reduceAdd, Nat.reduceDiv, Nat.reduceSub, Nat.reduceMod, encL, MC0, MC1, MC2])))
            | (have hf : R2[k][v] = false := by assumption
               have hne : sc m k ≠ ((v : Int), true) := by
                 rw [sc_at hkN]; intro e
                 have e1 := congrArg Prod.fst e
                 have e2 := congrArg Prod.snd e
                 simp_all
               have hfl := fl_set hkR hvR hf
               have B3 := B2.put hbp hyk hkN hik hvL hT2 hne (fun j u => tget_set hkR hvR j u)
               refine backTo_of (b + 1, W2 ++ [(k, v)], R2.set k (R2[k].set v true), _) ⟨hb', by simp [hRl2], fun j h => ?_, ?_, ?_, ?_, B3⟩ (by simp only []; omega) (ent_of _ [] rfl rfl (by
                 simp only [VC0, VC1, VC2, VC3, VC4, VC5, VC6, VC7, reduceIte, reduceCtorEq, Nat.reduceEqDiff, Nat.reduceAdd, Nat.reduceMul, Nat.reduceBEq, Nat.reduceLT, Nat.reduceLeDiff, Int.reduceEq, Int.reduceLT, Int.reduceLE, Int.reduceNeg, Int.reduceToNat, Int.reduceAdd, Nat.reduceDiv, Nat.reduceSub, Nat.reduceMod, encL, MC0, MC1, MC2, hPl, hrsl2, hRl2, lp_imv]
                 refine rowsAt_upd (f := cB) (d := 4) (esz := 1) (t := k) (R := R2) (r := R2[k].set v true) hkR (by simp) rfl ?_ (fun j h hne => ?_) (lb_imv 8) (by decide) hRl2.symm (by simp) (fun j _ => by simp) ?_
                 · simp only [VC0, VC1, VC2, VC3, VC4, VC5, VC6, VC7, reduceIte, reduceCtorEq, Nat.reduceEqDiff, Nat.reduceAdd, Nat.reduceMul, Nat.reduceBEq, Nat.reduceLT, Nat.reduceLeDiff, Int.reduceEq, Int.reduceLT, Int.reduceLE, Int.reduceNeg, Int.reduceToNat, Int.reduceAdd, Nat.reduceDiv, Nat.reduceSub, Nat.reduceMod, encL, MC0, MC1, MC2]
                   try simp
                 · simp only [VC0, VC1, VC2, VC3, VC4, VC5, VC6, VC7, reduceIte, reduceCtorEq, Nat.reduceEqDiff, Nat.reduceAdd, Nat.reduceMul, Nat.reduceBEq, Nat.reduceLT, Nat.reduceLeDiff, Int.reduceEq, Int.reduceLT, Int.reduceLE, Int.reduceNeg, Int.reduceToNat, Int.reduceAdd, Nat.reduceDiv, Nat.reduceSub, Nat.reduceMod, encL, MC0, MC1, MC2, hne, rsI_get cB h]
                   try simp [hne]
                 · simp only [VC0, VC1, VC2, VC3, VC4, VC5, VC6, VC7, reduceIte, reduceCtorEq, Nat.reduceEqDiff, Nat.reduceAdd, Nat.reduceMul, Nat.reduceBEq, Nat.reduceLT, Nat.reduceLeDiff, Int.reduceEq, Int.reduceLT, Int.reduceLE, Int.reduceNeg, Int.reduceToNat, Int.reduceAdd, Nat.reduceDiv, Nat.reduceSub, Nat.reduceMod, encL, MC0, MC1, MC2]))
               · simp only [List.getElem_set]
                 split
                 · rename_i e; subst e; rw [List.length_set, hrow]
                 · exact hRr2 j (by simpa using h)
               · simp only [List.length_append, List.length_singleton]; omega
               · simp only [List.length_append, List.length_singleton]; omega
               · simp only [tget_set hkR hvR]
                 split
                 · rfl
                 · exact hT2)
        · have hb' : b = Q.length := by omega
          subst hb'
          simp only [VC0, VC1, VC2, VC3, VC4, VC5, VC6, VC7, reduceIte, reduceCtorEq, Nat.reduceEqDiff, Nat.reduceAdd, Nat.reduceMul, Nat.reduceBEq, Nat.reduceLT, Nat.reduceLeDiff, Int.reduceEq, Int.reduceLT, Int.reduceLE, Int.reduceNeg, Int.reduceToNat, Int.reduceAdd, Nat.reduceDiv, Nat.reduceSub, Nat.reduceMod, encL, MC0, MC1, MC2]
          refine backTo_of (W2, R2, _) ⟨hRl2, hRr2, hWf2, B2.next (by rw [hQ]; exact Nat.le_refl _)⟩ ?_ (ent_of _ [] rfl rfl (by
            simp only [VC0, VC1, VC2, VC3, VC4, VC5, VC6, VC7, reduceIte, reduceCtorEq, Nat.reduceEqDiff, Nat.reduceAdd, Nat.reduceMul, Nat.reduceBEq, Nat.reduceLT, Nat.reduceLeDiff, Int.reduceEq, Int.reduceLT, Int.reduceLE, Int.reduceNeg, Int.reduceToNat, Int.reduceAdd, Nat.reduceDiv, Nat.reduceSub, Nat.reduceMod, encL, MC0, MC1, MC2, hPl, rsI_len, hRl2, lp_imv]
            refine rowsAt_same (f := cB) (d := 4) (esz := 1) (R := R2) rfl (fun j h => ?_) (lb_imv 8) (by decide) hRl2.symm (by simp) (fun j _ => by simp) ?_
            · simp only [VC0, VC1, VC2, VC3, VC4, VC5, VC6, VC7, reduceIte, reduceCtorEq, Nat.reduceEqDiff, Nat.reduceAdd, Nat.reduceMul, Nat.reduceBEq, Nat.reduceLT, Nat.reduceLeDiff, Int.reduceEq, Int.reduceLT, Int.reduceLE, Int.reduceNeg, Int.reduceToNat, Int.reduceAdd, Nat.reduceDiv, Nat.reduceSub, Nat.reduceMod, encL, MC0, MC1, MC2, rsI_get cB h]
            · simp only [VC0, VC1, VC2, VC3, VC4, VC5, VC6, VC7, reduceIte, reduceCtorEq, Nat.reduceEqDiff, Nat.reduceAdd, Nat.reduceMul, Nat.reduceBEq, Nat.reduceLT, Nat.reduceLeDiff, Int.reduceEq, Int.reduceLT, Int.reduceLE, Int.reduceNeg, Int.reduceToNat, Int.reduceAdd, Nat.reduceDiv, Nat.reduceSub, Nat.reduceMod, encL, MC0, MC1, MC2]))
          simp only [hWl]
          omega
      · have hW0 : W = [] := List.eq_nil_of_length_eq_zero (by omega)
        subst hW0
        have hs : ∀ (H : Heap) (r : List Bool), (r.flatMap cB).map (snap H 6) = r.flatMap cB := fun H r => lb_snap H 5 r
        have hfin : R = livTab m := by
          have hf := B.fin (fun {t y} => prevs_mem)
          apply List.ext_getElem
          · simp [livTab, hRl]
          intro j h1 h2
          apply List.ext_getElem
          · rw [hRr j h1]; simp [livTab]
          intro u h3 h4
          rw [tget_at h1 h3]
          rw [Bool.eq_iff_iff, hf j u, livTab_at]
        simp only [VC0, VC1, VC2, VC3, VC4, VC5, VC6, VC7, reduceIte, reduceCtorEq, Nat.reduceEqDiff, Nat.reduceAdd, Nat.reduceMul, Nat.reduceBEq, Nat.reduceLT, Nat.reduceLeDiff, Int.reduceEq, Int.reduceLT, Int.reduceLE, Int.reduceNeg, Int.reduceToNat, Int.reduceAdd, Nat.reduceDiv, Nat.reduceSub, Nat.reduceMod, encL, MC0, MC1, MC2, rowV_len, rsI_len, hRl]
        rw [List.take_of_length_le (by rw [rowV_len, rsI_len, hRl]; exact Nat.le_refl _), rowV_snap (f := cB) (fun j h => ?_) cB_len (fun r => hs _ r)]
        · rw [← hfin, hRl]
          try simp [slOf]
        · simp only [VC0, VC1, VC2, VC3, VC4, VC5, VC6, VC7, reduceIte, reduceCtorEq, Nat.reduceEqDiff, Nat.reduceAdd, Nat.reduceMul, Nat.reduceBEq, Nat.reduceLT, Nat.reduceLeDiff, Int.reduceEq, Int.reduceLT, Int.reduceLE, Int.reduceNeg, Int.reduceToNat, Int.reduceAdd, Nat.reduceDiv, Nat.reduceSub, Nat.reduceMod, encL, MC0, MC1, MC2, rsI_get cB h]

end Go.Proofs.Ytobhpkagbmadlaa

set_option linter.unusedSimpArgs false
set_option linter.unusedVariables false
namespace Go.Proofs.Ytobhpkagbmadlaa
open Go Go.Lg Go.RowKit
set_option maxRecDepth 20000

def liveX : MInst := ⟨1, 0, true, ⟨2, [ByteArray.mk #[102]]⟩, { v0 with kind := 5, op := 1, a := ⟨3, 0, ⟨3, []⟩⟩, b := ⟨1, 0, p0⟩ }, []⟩
def liveY : MInst := ⟨2, 0, false, ⟨4, []⟩, v0, []⟩
theorem liveX_uses : usesL liveX = [2, 3] := by
  have h : rawL liveX = [3, 2] := by decide
  have h2 : sortI [3, 2] = [2, 3] := by simp [sortI, List.mergeSort, List.MergeSort.Internal.splitInTwo, List.merge]
  rw [usesL, h, h2]
  decide
theorem liveX_sets : setsL liveX = (0, false) := by decide
theorem liveY_sets : setsL liveY = (4, true) := by decide
theorem noM_great : greatB noM = false := by decide

theorem told19_ret : PRet Try.prog 33 [] (.bool true) := by
  have hu := (uses_own liveX (by decide)).ret
  have hx := sets_ret liveX
  have hy := sets_ret liveY
  have hin := livein_ret noM noM_ok noM_great
  rw [liveX_uses] at hu
  rw [liveX_sets] at hx
  rw [liveY_sets] at hy
  rw [noM_may, if_neg (by decide)] at hin
  refine pret_intro fd33 (by simp) ?_
  simp only [lc33, VC0, VC1, VC2, VC3, VC4, VC5, VC6, VC7, reduceIte, reduceCtorEq, Nat.reduceEqDiff, Nat.reduceAdd, Nat.reduceMul, Nat.reduceBEq, Nat.reduceLT, Nat.reduceLeDiff, Int.reduceEq, Int.reduceLT, Int.reduceLE, Int.reduceNeg, Int.reduceToNat, Int.reduceAdd, Nat.reduceDiv, Nat.reduceSub, Nat.reduceMod, encL, MC0, MC1, MC2, setCells, List.take_succ_cons, List.take_zero, List.take_nil, List.drop_succ_cons, List.drop_zero, List.drop_nil, ldV]
  refine callX_of (hy.nz 5 ?_) (.inr rfl) ?_
  · simp [nz, MInst.cells, liveY, encL, cI, cS, v0, o0, p0, noS]
  simp only [VC0, VC1, VC2, VC3, VC4, VC5, VC6, VC7, reduceIte, reduceCtorEq, Nat.reduceEqDiff, Nat.reduceAdd, Nat.reduceMul, Nat.reduceBEq, Nat.reduceLT, Nat.reduceLeDiff, Int.reduceEq, Int.reduceLT, Int.reduceLE, Int.reduceNeg, Int.reduceToNat, Int.reduceAdd, Nat.reduceDiv, Nat.reduceSub, Nat.reduceMod, encL, MC0, MC1, MC2, setCells, List.take_succ_cons, List.take_zero, List.take_nil, List.drop_succ_cons, List.drop_zero, List.drop_nil, ldV, List.getElem?_cons_zero, List.getElem?_cons_succ]
  refine callX_of (hx.nz 5 ?_) (.inr rfl) ?_
  · simp [nz, MInst.cells, liveX, encL, cI, cS, v0, o0, p0, noS]
  simp only [VC0, VC1, VC2, VC3, VC4, VC5, VC6, VC7, reduceIte, reduceCtorEq, Nat.reduceEqDiff, Nat.reduceAdd, Nat.reduceMul, Nat.reduceBEq, Nat.reduceLT, Nat.reduceLeDiff, Int.reduceEq, Int.reduceLT, Int.reduceLE, Int.reduceNeg, Int.reduceToNat, Int.reduceAdd, Nat.reduceDiv, Nat.reduceSub, Nat.reduceMod, encL, MC0, MC1, MC2, setCells, List.take_succ_cons, List.take_zero, List.take_nil, List.drop_succ_cons, List.drop_zero, List.drop_nil, ldV, List.getElem?_cons_zero, List.getElem?_cons_succ]
  refine callX_of (hu.nz 5 ?_) (.inl rfl) ?_
  · simp [nz, MInst.cells, liveX, encL, cI, cS, v0, o0, p0, noS]
  simp only [VC0, VC1, VC2, VC3, VC4, VC5, VC6, VC7, reduceIte, reduceCtorEq, Nat.reduceEqDiff, Nat.reduceAdd, Nat.reduceMul, Nat.reduceBEq, Nat.reduceLT, Nat.reduceLeDiff, Int.reduceEq, Int.reduceLT, Int.reduceLE, Int.reduceNeg, Int.reduceToNat, Int.reduceAdd, Nat.reduceDiv, Nat.reduceSub, Nat.reduceMod, encL, MC0, MC1, MC2, setCells, List.take_succ_cons, List.take_zero, List.take_nil, List.drop_succ_cons, List.drop_zero, List.drop_nil, ldV, List.getElem?_cons_zero, List.getElem?_cons_succ, List.flatMap_cons, List.flatMap_nil, cI]
  refine callX_of (ints_ret [2, 3] [2, 3] (by decide)) (.inr rfl) ?_
  simp only [VC0, VC1, VC2, VC3, VC4, VC5, VC6, VC7, reduceIte, reduceCtorEq, Nat.reduceEqDiff, Nat.reduceAdd, Nat.reduceMul, Nat.reduceBEq, Nat.reduceLT, Nat.reduceLeDiff, Int.reduceEq, Int.reduceLT, Int.reduceLE, Int.reduceNeg, Int.reduceToNat, Int.reduceAdd, Nat.reduceDiv, Nat.reduceSub, Nat.reduceMod, encL, MC0, MC1, MC2, setCells, List.take_succ_cons, List.take_zero, List.take_nil, List.drop_succ_cons, List.drop_zero, List.drop_nil, ldV, List.getElem?_cons_zero, List.getElem?_cons_succ, List.flatMap_cons, List.flatMap_nil, cI]
  refine callX_of (hin.nz 5 ?_) (.inl rfl) ?_
  · simp [nz, Mir.cells, noM, encL]
  simp only [VC0, VC1, VC2, VC3, VC4, VC5, VC6, VC7, reduceIte, reduceCtorEq, Nat.reduceEqDiff, Nat.reduceAdd, Nat.reduceMul, Nat.reduceBEq, Nat.reduceLT, Nat.reduceLeDiff, Int.reduceEq, Int.reduceLT, Int.reduceLE, Int.reduceNeg, Int.reduceToNat, Int.reduceAdd, Nat.reduceDiv, Nat.reduceSub, Nat.reduceMod, encL, MC0, MC1, MC2, List.flatMap_nil]

end Go.Proofs.Ytobhpkagbmadlaa
