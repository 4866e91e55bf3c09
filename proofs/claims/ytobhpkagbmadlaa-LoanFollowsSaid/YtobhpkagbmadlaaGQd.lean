/-
  Texts Cu7 of this claim, put together.
-/
import Derived.Test.YtobhpkagbmadlaaGQc
import Derived.Test.YtobhpkagbmadlaaGP
import Derived.Test.YtobhpkagbmadlaaGJ2
/-
  LoanFollows: the law's function returns true.
-/
set_option linter.unusedSimpArgs false
set_option linter.unusedVariables false
namespace Go.Proofs.Ytobhpkagbmadlaa
open Go Go.Lg Go.RowKit
set_option linter.unusedVariables false
set_option linter.unusedSimpArgs false

theorem okP_wide {N : Nat} {more bits : List Bool} {R : Nat} {Ls : List MLoan} {k p : Nat} (h : okP (fitRows N bits R) Ls k p = true) : okP (orRows N more bits R R 0) Ls k p = true := by
  simp only [okP, Bool.and_eq_true, decide_eq_true_eq, fitRows_len, orRows_len] at h ⊢
  generalize (Ls.getD k ⟨0, 0, false, ⟨0, []⟩⟩).reg = x at h ⊢
  obtain ⟨h1, h2, h3⟩ := h
  generalize x.toNat = g at h2 h3 ⊢
  have hgR : g < R := by
    rcases Nat.lt_or_ge g R with h | h
    · exact h
    · have : (fitRows N bits R).getD g [] = [] := by rw [List.getD_eq_getElem?_getD, List.getElem?_eq_none (by rw [fitRows_len]; exact h)]; rfl
      rw [this] at h2; simp at h2
  have hr : (fitRows N bits R).getD g [] = fitRow N bits g := by simp [fitRows, hgR]
  rw [hr, fitRow_len] at h2
  rw [fit_at hgR h2] at h3
  refine ⟨h1, ?_, ?_⟩
  · simp [orRows, hgR, h2]
  · rw [orRows_all hgR h2, h3, Bool.or_true]
theorem goes_wide {m : Mir} {N : Nat} {more bits : List Bool} {R n i : Nat} (h : GoesL m (fitRows N bits R) n i) : GoesL m (orRows N more bits R R 0) n i := ⟨h.1.mono fun k p hk => okP_wide hk, h.2⟩
theorem goes_reach {nxf : Nat → List Nat} {pt : Nat → Nat} {ok ends : Nat → Nat → Bool} {L k p : Nat} (h : Goes nxf pt ok ends L k p) (hr : 0 ≤ dist0 nxf 0 (pt k)) : 0 ≤ dist0 nxf 0 p := by
  induction h with
  | seed p hk hp _ => exact reach_step hr hp
  | step p q _ _ hq _ ih => exact reach_step ih hq
theorem nx_any {m : Mir} (hg : okG m) {j i : Nat} (hj : j < m.code.length) : ((m.code[j].next).any fun y => decide (y = (i : Int))) = true ↔ i ∈ nx m j := by
  have hn : nx m j = (m.code[j].next).map Int.toNat := by simp [nx, hj]
  rw [hn, List.any_eq_true, List.mem_map]
  have hy := (hg.nx _ (List.getElem_mem hj)).2
  constructor
  · rintro ⟨y, hm, e⟩
    have := of_decide_eq_true e
    exact ⟨y, hm, by omega⟩
  · rintro ⟨y, hm, e⟩
    have := hy y hm
    exact ⟨y, hm, decide_eq_true (by omega)⟩
/-- Does it come from there? -/
noncomputable def fromC (m : Mir) (pts : List (List Bool)) (n i j : Nat) : Bool := match m.code[j]?, (loansOf m)[n]? with
  | some x, some l => (x.next.any fun y => decide (y = (i : Int))) && (decide (l.pt = (j : Int)) || (((inL m pts).getD j []).any fun y => decide (y = (n : Int))) && !endsS l x)
  | _, _ => false
/-- It comes from somewhere, or from points that are not come to. -/
theorem from_or {m : Mir} (hmay : mayB m = true) {pts : List (List Bool)} {n i : Nat} (h : GoesL m pts n i) (hn : n < (loansOf m).length) (hf : (List.range m.code.length).any (fromC m pts n i) = false) : ¬ 0 ≤ dist0 (nx m) 0 (ptP (loansOf m) n) := by
  intro hr
  have hg := okG_of hmay
  obtain ⟨u, hu, g, hl, hpt, hgg, hgR, hptP⟩ := loan_reg hmay hn
  rw [List.any_eq_false] at hf
  obtain ⟨h1, h2⟩ := h
  cases h1 with
  | seed _ hk hp hok =>
    rw [hptP] at hp
    refine hf u (List.mem_range.2 hu) ?_
    simp only [fromC, List.getElem?_eq_getElem hu, List.getElem?_eq_getElem hn, hpt, decide_true, Bool.true_or, Bool.and_true]
    exact (nx_any hg hu).2 hp
  | step p _ hG he hq hok =>
    have hrp := goes_reach hG hr
    have hpN : p < m.code.length := by
      rcases Nat.lt_or_ge p m.code.length with h | h
      · exact h
      · have : nx m p = [] := by unfold nx; rw [List.getElem?_eq_none h]
        rw [this] at hq; cases hq
    refine hf p (List.mem_range.2 hpN) ?_
    have hlen : (inL m pts).length = m.code.length := inR_len _ _ _
    have hin : (inL m pts).getD p [] = inS (GoesL m pts) (loansOf m).length p := by
      rw [List.getD_eq_getElem?_getD, List.getElem?_eq_getElem (by omega)]
      exact inR_at _
    have he' : endsS (loansOf m)[n] m.code[p] = false := by
      simpa only [endsP, List.getElem?_eq_getElem hpN, List.getD_eq_getElem?_getD, List.getElem?_eq_getElem hn, Option.getD_some] using he
    have hany : ((inS (GoesL m pts) (loansOf m).length p).any fun y => decide (y = (n : Int))) = true := any_inS.2 ⟨hn, hG, hrp⟩
    simp only [fromC, List.getElem?_eq_getElem hpN, List.getElem?_eq_getElem hn, he', hin, Bool.not_false, Bool.and_true, (nx_any hg hpN).2 hq, Bool.true_and, hany, Bool.or_true]

theorem lost_ret (m : Mir) (hm : m.ok) (hmay : mayB m = true) (l : MLoan) {u : Nat} (hu : u < m.code.length) (hl : l.pt = (u : Int)) : PRet Try.prog 32 [.agg m.cells, .agg l.cells] (.bool (!decide (0 ≤ dist0 (nx m) 0 u))) := by
  have hg := okG_of hmay
  have hrr := rreach_ret m hg (rsteps_ret m hg)
  refine pret_intro fdw32 (by simp) ?_
  simp only [lcw32, VC0, VC1, VC2, VC3, VC4, VC5, VC6, VC7, VC8, reduceIte, reduceCtorEq, Nat.reduceEqDiff, Nat.reduceAdd, Nat.reduceMul, Nat.reduceBEq, Nat.reduceLT, Nat.reduceLeDiff, Int.reduceEq, Int.reduceLT, Int.reduceLE, Int.reduceNeg, Int.reduceToNat, Int.reduceAdd, Nat.reduceDiv, Nat.reduceSub, Nat.reduceMod, encL, MC0, MC1, MC2]
  have hlen : ((List.range m.code.length).map fun t => decide (0 ≤ dist0 (nx m) 0 t)).length = m.code.length := by simp
  have hat : ∀ (h : u < ((List.range m.code.length).map fun t => decide (0 ≤ dist0 (nx m) 0 t)).length), ((List.range m.code.length).map fun t => decide (0 ≤ dist0 (nx m) 0 t))[u] = decide (0 ≤ dist0 (nx m) 0 u) := fun h => by simp
  generalize ((List.range m.code.length).map fun t => decide (0 ≤ dist0 (nx m) 0 t)) = rl at hrr hlen hat
  refine callV_of hrr (.inl rfl) ?_
  have u1 : 0 ≤ (u : Int) ∧ (u : Int) < m.code.length := by omega
  have hul : u < rl.length := by omega
  simp only [VC0, VC1, VC2, VC3, VC4, VC5, VC6, VC7, VC8, reduceIte, reduceCtorEq, Nat.reduceEqDiff, Nat.reduceAdd, Nat.reduceMul, Nat.reduceBEq, Nat.reduceLT, Nat.reduceLeDiff, Int.reduceEq, Int.reduceLT, Int.reduceLE, Int.reduceNeg, Int.reduceToNat, Int.reduceAdd, Nat.reduceDiv, Nat.reduceSub, Nat.reduceMod, encL, MC0, MC1, MC2, hlen, MLoan.c0, hl, u1, ld_cB hul, hat]

theorem noK_lt {r a b d : Nat} (h : a ≠ d) : ¬ ∃ i, (if i < r then some ((d, i) : Key) else none) = some (a, b) := by
  rintro ⟨i, e⟩
  split at e
  · injection e with e; injection e with e1; exact h e1.symm
  · cases e
theorem noK_sn {r a b d a' b' : Nat} (h : a ≠ d) (h' : a ≠ a') : ¬ ∃ i, (if i = r then some ((a', b') : Key) else if i < r then some ((d, i) : Key) else none) = some (a, b) := by
  rintro ⟨i, e⟩
  split at e
  · injection e with e; injection e with e1; exact h' e1.symm
  · split at e
    · injection e with e; injection e with e1; exact h e1.symm
    · cases e

set_option maxHeartbeats 4000000 in
theorem loanFollows_ret (m : Mir) (hm : m.ok) (bits more : List Bool) (hb : bits.length ≤ maxLen) (hmo : more.length ≤ maxLen) : PRet Try.prog 6 [.agg m.cells, encL cB bits, encL cB more] (.bool true) := by
  refine pret_intro fdw6 (by simp) ?_
  simp only [lcw6, VC0, VC1, VC2, VC3, VC4, VC5, VC6, VC7, VC8, reduceIte, reduceCtorEq, Nat.reduceEqDiff, Nat.reduceAdd, Nat.reduceMul, Nat.reduceBEq, Nat.reduceLT, Nat.reduceLeDiff, Int.reduceEq, Int.reduceLT, Int.reduceLE, Int.reduceNeg, Int.reduceToNat, Int.reduceAdd, Nat.reduceDiv, Nat.reduceSub, Nat.reduceMod, encL, MC0, MC1, MC2]
  refine callX_of (great_ret m hm) (.inr rfl) ?_
  cases hgr : greatB m with
  | true =>
    simp only [VC0, VC1, VC2, VC3, VC4, VC5, VC6, VC7, VC8, reduceIte, reduceCtorEq, Nat.reduceEqDiff, Nat.reduceAdd, Nat.reduceMul, Nat.reduceBEq, Nat.reduceLT, Nat.reduceLeDiff, Int.reduceEq, Int.reduceLT, Int.reduceLE, Int.reduceNeg, Int.reduceToNat, Int.reduceAdd, Nat.reduceDiv, Nat.reduceSub, Nat.reduceMod, encL, MC0, MC1, MC2]
    refine callX_of told22_ret (.inr rfl) ?_
    simp only [VC0, VC1, VC2, VC3, VC4, VC5, VC6, VC7, VC8, reduceIte, reduceCtorEq, Nat.reduceEqDiff, Nat.reduceAdd, Nat.reduceMul, Nat.reduceBEq, Nat.reduceLT, Nat.reduceLeDiff, Int.reduceEq, Int.reduceLT, Int.reduceLE, Int.reduceNeg, Int.reduceToNat, Int.reduceAdd, Nat.reduceDiv, Nat.reduceSub, Nat.reduceMod, encL, MC0, MC1, MC2]
  | false =>
  simp only [VC0, VC1, VC2, VC3, VC4, VC5, VC6, VC7, VC8, reduceIte, reduceCtorEq, Nat.reduceEqDiff, Nat.reduceAdd, Nat.reduceMul, Nat.reduceBEq, Nat.reduceLT, Nat.reduceLeDiff, Int.reduceEq, Int.reduceLT, Int.reduceLE, Int.reduceNeg, Int.reduceToNat, Int.reduceAdd, Nat.reduceDiv, Nat.reduceSub, Nat.reduceMod, encL, MC0, MC1, MC2]
  refine callX_of (may16_ret m hm) (.inr rfl) ?_
  cases hmay : mayB m with
  | false =>
    simp only [VC0, VC1, VC2, VC3, VC4, VC5, VC6, VC7, VC8, reduceIte, reduceCtorEq, Nat.reduceEqDiff, Nat.reduceAdd, Nat.reduceMul, Nat.reduceBEq, Nat.reduceLT, Nat.reduceLeDiff, Int.reduceEq, Int.reduceLT, Int.reduceLE, Int.reduceNeg, Int.reduceToNat, Int.reduceAdd, Nat.reduceDiv, Nat.reduceSub, Nat.reduceMod, encL, MC0, MC1, MC2, hmay]
    refine callX_of told22_ret (.inr rfl) ?_
    simp only [VC0, VC1, VC2, VC3, VC4, VC5, VC6, VC7, VC8, reduceIte, reduceCtorEq, Nat.reduceEqDiff, Nat.reduceAdd, Nat.reduceMul, Nat.reduceBEq, Nat.reduceLT, Nat.reduceLeDiff, Int.reduceEq, Int.reduceLT, Int.reduceLE, Int.reduceNeg, Int.reduceToNat, Int.reduceAdd, Nat.reduceDiv, Nat.reduceSub, Nat.reduceMod, encL, MC0, MC1, MC2]
  | true =>
  simp only [VC0, VC1, VC2, VC3, VC4, VC5, VC6, VC7, VC8, reduceIte, reduceCtorEq, Nat.reduceEqDiff, Nat.reduceAdd, Nat.reduceMul, Nat.reduceBEq, Nat.reduceLT, Nat.reduceLeDiff, Int.reduceEq, Int.reduceLT, Int.reduceLE, Int.reduceNeg, Int.reduceToNat, Int.reduceAdd, Nat.reduceDiv, Nat.reduceSub, Nat.reduceMod, encL, MC0, MC1, MC2, hmay]
  have hg := okG_of hmay
  have hN : m.code.length ≤ 60 := by simp [greatB] at hgr; omega
  have hR : m.regions ≤ 200 := by simp [greatB] at hgr; omega
  have hR0 : 0 ≤ m.regions := by
    simp only [mayB, Bool.and_eq_true] at hmay
    obtain ⟨⟨⟨h1, _⟩, _⟩, _⟩ := hmay
    simp [mayHead, inB] at h1
    omega
  obtain ⟨R, hRR⟩ : ∃ R : Nat, m.regions = (R : Int) := ⟨m.regions.toNat, by omega⟩
  have hRt : m.regions.toNat = R := by omega
  have hfb := fit_ret m hgr hmay bits hb
  rw [hRt] at hfb
  refine callX_of hfb (.inl rfl) ?_
  rw [maxLen_eq] at hmo
  simp only [VC0, VC1, VC2, VC3, VC4, VC5, VC6, VC7, VC8, reduceIte, reduceCtorEq, Nat.reduceEqDiff, Nat.reduceAdd, Nat.reduceMul, Nat.reduceBEq, Nat.reduceLT, Nat.reduceLeDiff, Int.reduceEq, Int.reduceLT, Int.reduceLE, Int.reduceNeg, Int.reduceToNat, Int.reduceAdd, Nat.reduceDiv, Nat.reduceSub, Nat.reduceMod, encL, MC0, MC1, MC2]
  refine callX_inl fdw27 (by simp) ?_
  simp only [lcw27, VC0, VC1, VC2, VC3, VC4, VC5, VC6, VC7, VC8, reduceIte, reduceCtorEq, Nat.reduceEqDiff, Nat.reduceAdd, Nat.reduceMul, Nat.reduceBEq, Nat.reduceLT, Nat.reduceLeDiff, Int.reduceEq, Int.reduceLT, Int.reduceLE, Int.reduceNeg, Int.reduceToNat, Int.reduceAdd, Nat.reduceDiv, Nat.reduceSub, Nat.reduceMod, encL, MC0, MC1, MC2]
  obtain ⟨N, hNN⟩ : ∃ N, N = m.code.length := ⟨_, rfl⟩
  refine loop_vcg (ι := Nat × (Nat → Nat)) (fun (r, c) => stO [(1, .val (encL cB more)), (2, .box m.cells), (5, .rows 1 (rsI cB (fitRows m.code.length more r))), (6, .val (.int .i64 (r * m.code.length : Nat))), (7, .val (.int .i64 (r : Nat))), (100006, .box m.cells), (100014, .val (encL (cL cB) (fitRows m.code.length bits R)))] c)
    (fun (r, _) => r ≤ R) (fun (r, _) => R - r) (0, _) (Nat.zero_le _) (ent_of _ [] rfl rfl (by
      simp only [VC0, VC1, VC2, VC3, VC4, VC5, VC6, VC7, VC8, reduceIte, reduceCtorEq, Nat.reduceEqDiff, Nat.reduceAdd, Nat.reduceMul, Nat.reduceBEq, Nat.reduceLT, Nat.reduceLeDiff, Int.reduceEq, Int.reduceLT, Int.reduceLE, Int.reduceNeg, Int.reduceToNat, Int.reduceAdd, Nat.reduceDiv, Nat.reduceSub, Nat.reduceMod, encL, MC0, MC1, MC2, fitRows, List.range_zero, List.map_nil, List.flatMap_nil, Nat.zero_mul, fitc_imv]
      refine rowsAt_nil ?_
      simp only [VC0, VC1, VC2, VC3, VC4, VC5, VC6, VC7, VC8, reduceIte, reduceCtorEq, Nat.reduceEqDiff, Nat.reduceAdd, Nat.reduceMul, Nat.reduceBEq, Nat.reduceLT, Nat.reduceLeDiff, Int.reduceEq, Int.reduceLT, Int.reduceLE, Int.reduceNeg, Int.reduceToNat, Int.reduceAdd, Nat.reduceDiv, Nat.reduceSub, Nat.reduceMod, encL, MC0, MC1, MC2, fitc_imv])) ?_
  rintro ⟨r, c⟩ hr
  have hr : r ≤ R := hr
  simp only [VC0, VC1, VC2, VC3, VC4, VC5, VC6, VC7, VC8, reduceIte, reduceCtorEq, Nat.reduceEqDiff, Nat.reduceAdd, Nat.reduceMul, Nat.reduceBEq, Nat.reduceLT, Nat.reduceLeDiff, Int.reduceEq, Int.reduceLT, Int.reduceLE, Int.reduceNeg, Int.reduceToNat, Int.reduceAdd, Nat.reduceDiv, Nat.reduceSub, Nat.reduceMod, encL, MC0, MC1, MC2, hRR]
  refine condD_of (fun h => ?_) (fun h => ?_)
  · have hr' : r < R := by omega
    have hrn : r * m.code.length ≤ 200 * 60 := Nat.mul_le_mul (by omega) hN
    have i2 : InI64 ((r : Int) + 1) := by unfold InI64; omega
    have hfl := fitRows_len m.code.length more r
    simp only [VC0, VC1, VC2, VC3, VC4, VC5, VC6, VC7, VC8, reduceIte, reduceCtorEq, Nat.reduceEqDiff, Nat.reduceAdd, Nat.reduceMul, Nat.reduceBEq, Nat.reduceLT, Nat.reduceLeDiff, Int.reduceEq, Int.reduceLT, Int.reduceLE, Int.reduceNeg, Int.reduceToNat, Int.reduceAdd, Nat.reduceDiv, Nat.reduceSub, Nat.reduceMod, encL, MC0, MC1, MC2, rsI_len, hfl]
    refine And.intro (by omega) ?_
    refine loop_vcg (ι := Nat × (Nat → Nat)) (fun (p, c) => stO [(1, .val (encL cB more)), (2, .box m.cells), (5, .rows 1 (rsI cB (fitRows m.code.length more r))), (6, .val (.int .i64 (r * m.code.length + p : Nat))), (7, .val (.int .i64 (r : Nat))), (8, .own 1 m.code.length ((fitP m.code.length more r p).flatMap cB)), (9, .val (.int .i64 (p : Nat))), (100006, .box m.cells), (100014, .val (encL (cL cB) (fitRows m.code.length bits R)))] c)
      (fun (p, _) => p ≤ m.code.length) (fun (p, _) => m.code.length - p) (0, _) (Nat.zero_le _) (ent_of _ [] rfl rfl (by
        simp only [VC0, VC1, VC2, VC3, VC4, VC5, VC6, VC7, VC8, reduceIte, reduceCtorEq, Nat.reduceEqDiff, Nat.reduceAdd, Nat.reduceMul, Nat.reduceBEq, Nat.reduceLT, Nat.reduceLeDiff, Int.reduceEq, Int.reduceLT, Int.reduceLE, Int.reduceNeg, Int.reduceToNat, Int.reduceAdd, Nat.reduceDiv, Nat.reduceSub, Nat.reduceMod, encL, MC0, MC1, MC2, fitP_zero, fitc_imv, ne_eq, Prod.mk.injEq, false_and, not_false_eq_true, true_and, rsI_len, hfl]
        refine rowsAt_same (f := cB) (d := 5) (esz := 1) (R := fitRows m.code.length more r) ?_ (fun j h => ?_) (lb_imv 8) (by decide) (by first | rfl | exact hfl.symm | simp [rsI_len, hfl]) (by simp) (fun j _ => by simp) ?_
        · first | (simp only [VC0, VC1, VC2, VC3, VC4, VC5, VC6, VC7, VC8, reduceIte, reduceCtorEq, Nat.reduceEqDiff, Nat.reduceAdd, Nat.reduceMul, Nat.reduceBEq, Nat.reduceLT, Nat.reduceLeDiff, Int.reduceEq, Int.reduceLT, Int.reduceLE, Int.reduceNeg, Int.reduceToNat, Int.reduceAdd, Nat.reduceDiv, Nat.reduceSub, Nat.reduceMod, encL, MC0, MC1, MC2]; done) | rfl
        · simp only [VC0, VC1, VC2, VC3, VC4, VC5, VC6, VC7, VC8, reduceIte, reduceCtorEq, Nat.reduceEqDiff, Nat.reduceAdd, Nat.reduceMul, Nat.reduceBEq, Nat.reduceLT, Nat.reduceLeDiff, Int.reduceEq, Int.reduceLT, Int.reduceLE, Int.reduceNeg, Int.reduceToNat, Int.reduceAdd, Nat.reduceDiv, Nat.reduceSub, Nat.reduceMod, encL, MC0, MC1, MC2, rsI_get cB h]
        · simp only [VC0, VC1, VC2, VC3, VC4, VC5, VC6, VC7, VC8, reduceIte, reduceCtorEq, Nat.reduceEqDiff, Nat.reduceAdd, Nat.reduceMul, Nat.reduceBEq, Nat.reduceLT, Nat.reduceLeDiff, Int.reduceEq, Int.reduceLT, Int.reduceLE, Int.reduceNeg, Int.reduceToNat, Int.reduceAdd, Nat.reduceDiv, Nat.reduceSub, Nat.reduceMod, encL, MC0, MC1, MC2, fitP_zero, fitc_imv, ne_eq, Prod.mk.injEq, false_and, not_false_eq_true, true_and, rsI_len, hfl]
          exact ⟨noK_lt (by decide), noK_lt (by decide)⟩)) ?_
    rintro ⟨p, c⟩ hp
    have hp : p ≤ m.code.length := hp
    simp only [VC0, VC1, VC2, VC3, VC4, VC5, VC6, VC7, VC8, reduceIte, reduceCtorEq, Nat.reduceEqDiff, Nat.reduceAdd, Nat.reduceMul, Nat.reduceBEq, Nat.reduceLT, Nat.reduceLeDiff, Int.reduceEq, Int.reduceLT, Int.reduceLE, Int.reduceNeg, Int.reduceToNat, Int.reduceAdd, Nat.reduceDiv, Nat.reduceSub, Nat.reduceMod, encL, MC0, MC1, MC2, rsI_len, hfl]
    refine condD_of (fun h => ?_) (fun h => ?_)
    · have hp' : p < m.code.length := by omega
      obtain ⟨q, hqe⟩ : ∃ q, q = r * m.code.length + p := ⟨_, rfl⟩
      have hq : q ≤ 12060 := by omega
      have hqI : ((r * m.code.length : Nat) : Int) + (p : Int) = (q : Int) := by omega
      have hl : (fitP m.code.length more r p).length = m.code.length := fitP_len m.code.length more r p
      have hpl : p < (fitP m.code.length more r p).length := by omega
      have hpl' : p + 1 ≤ (fitP m.code.length more r p).length := by omega
      have h1 : 0 ≤ (p : Int) ∧ (p : Int) < m.code.length := by omega
      have j2 : InI64 ((p : Int) + 1) := by unfold InI64; omega
      have j3 : InI64 ((q : Int) + 1) := by unfold InI64; omega
      have hset := fitP_succ (bits := more) (r := r) hp'
      rw [← hqe] at hset
      have hqI' : r * m.code.length + p = q := hqe.symm
      simp only [VC0, VC1, VC2, VC3, VC4, VC5, VC6, VC7, VC8, reduceIte, reduceCtorEq, Nat.reduceEqDiff, Nat.reduceAdd, Nat.reduceMul, Nat.reduceBEq, Nat.reduceLT, Nat.reduceLeDiff, Int.reduceEq, Int.reduceLT, Int.reduceLE, Int.reduceNeg, Int.reduceToNat, Int.reduceAdd, Nat.reduceDiv, Nat.reduceSub, Nat.reduceMod, encL, MC0, MC1, MC2, hqI, hqI', rsI_len, hfl]
      cases b1 : decide ((q : Int) < more.length) <;> simp only [VC0, VC1, VC2, VC3, VC4, VC5, VC6, VC7, VC8, reduceIte, reduceCtorEq, Nat.reduceEqDiff, Nat.reduceAdd, Nat.reduceMul, Nat.reduceBEq, Nat.reduceLT, Nat.reduceLeDiff, Int.reduceEq, Int.reduceLT, Int.reduceLE, Int.reduceNeg, Int.reduceToNat, Int.reduceAdd, Nat.reduceDiv, Nat.reduceSub, Nat.reduceMod, encL, MC0, MC1, MC2, hqI, b1, h1, j2, j3]
      · have hv : more.getD q false = false := by
          have := of_decide_eq_false b1
          rw [List.getD_eq_getElem?_getD, List.getElem?_eq_none (by omega)]; rfl
        rw [hv] at hset
        try simp only [VC0, VC1, VC2, VC3, VC4, VC5, VC6, VC7, VC8, reduceIte, reduceCtorEq, Nat.reduceEqDiff, Nat.reduceAdd, Nat.reduceMul, Nat.reduceBEq, Nat.reduceLT, Nat.reduceLeDiff, Int.reduceEq, Int.reduceLT, Int.reduceLE, Int.reduceNeg, Int.reduceToNat, Int.reduceAdd, Nat.reduceDiv, Nat.reduceSub, Nat.reduceMod, encL, MC0, MC1, MC2, hpl', h1, j2, j3, lb_set hpl, hset]
        refine backTo_of (p + 1, _) hp' (by simp only []; omega) (ent_of _ [] rfl rfl ?_)
        simp only [VC0, VC1, VC2, VC3, VC4, VC5, VC6, VC7, VC8, reduceIte, reduceCtorEq, Nat.reduceEqDiff, Nat.reduceAdd, Nat.reduceMul, Nat.reduceBEq, Nat.reduceLT, Nat.reduceLeDiff, Int.reduceEq, Int.reduceLT, Int.reduceLE, Int.reduceNeg, Int.reduceToNat, Int.reduceAdd, Nat.reduceDiv, Nat.reduceSub, Nat.reduceMod, encL, MC0, MC1, MC2, fitc_imv, lb_set hpl, hset, ne_eq, Prod.mk.injEq, false_and, not_false_eq_true, true_and, rsI_len, hfl]
        refine rowsAt_same (f := cB) (d := 5) (esz := 1) (R := fitRows m.code.length more r) ?_ (fun j h => ?_) (lb_imv 8) (by decide) (by first | rfl | exact hfl.symm | simp [rsI_len, hfl]) (by simp) (fun j _ => by simp) ?_
        · first | (simp only [VC0, VC1, VC2, VC3, VC4, VC5, VC6, VC7, VC8, reduceIte, reduceCtorEq, Nat.reduceEqDiff, Nat.reduceAdd, Nat.reduceMul, Nat.reduceBEq, Nat.reduceLT, Nat.reduceLeDiff, Int.reduceEq, Int.reduceLT, Int.reduceLE, Int.reduceNeg, Int.reduceToNat, Int.reduceAdd, Nat.reduceDiv, Nat.reduceSub, Nat.reduceMod, encL, MC0, MC1, MC2]; done) | rfl
        · simp only [VC0, VC1, VC2, VC3, VC4, VC5, VC6, VC7, VC8, reduceIte, reduceCtorEq, Nat.reduceEqDiff, Nat.reduceAdd, Nat.reduceMul, Nat.reduceBEq, Nat.reduceLT, Nat.reduceLeDiff, Int.reduceEq, Int.reduceLT, Int.reduceLE, Int.reduceNeg, Int.reduceToNat, Int.reduceAdd, Nat.reduceDiv, Nat.reduceSub, Nat.reduceMod, encL, MC0, MC1, MC2, rsI_get cB h]
        · simp only [VC0, VC1, VC2, VC3, VC4, VC5, VC6, VC7, VC8, reduceIte, reduceCtorEq, Nat.reduceEqDiff, Nat.reduceAdd, Nat.reduceMul, Nat.reduceBEq, Nat.reduceLT, Nat.reduceLeDiff, Int.reduceEq, Int.reduceLT, Int.reduceLE, Int.reduceNeg, Int.reduceToNat, Int.reduceAdd, Nat.reduceDiv, Nat.reduceSub, Nat.reduceMod, encL, MC0, MC1, MC2, fitP_zero, fitc_imv, ne_eq, Prod.mk.injEq, false_and, not_false_eq_true, true_and, rsI_len, hfl, lb_set hpl, hset]
          exact ⟨by omega, noK_lt (by decide), noK_lt (by decide)⟩
      · have hql : q < more.length := by have := of_decide_eq_true b1; omega
        have h2 : 0 ≤ (q : Int) ∧ (q : Int) < more.length := by omega
        have hv : more.getD q false = more[q] := by simp [hql]
        rw [hv] at hset
        try simp only [VC0, VC1, VC2, VC3, VC4, VC5, VC6, VC7, VC8, reduceIte, reduceCtorEq, Nat.reduceEqDiff, Nat.reduceAdd, Nat.reduceMul, Nat.reduceBEq, Nat.reduceLT, Nat.reduceLeDiff, Int.reduceEq, Int.reduceLT, Int.reduceLE, Int.reduceNeg, Int.reduceToNat, Int.reduceAdd, Nat.reduceDiv, Nat.reduceSub, Nat.reduceMod, encL, MC0, MC1, MC2, hpl', h1, h2, j2, j3, hql, lb_set hpl, hset]
        refine backTo_of (p + 1, _) hp' (by simp only []; omega) (ent_of _ [] rfl rfl ?_)
        simp only [VC0, VC1, VC2, VC3, VC4, VC5, VC6, VC7, VC8, reduceIte, reduceCtorEq, Nat.reduceEqDiff, Nat.reduceAdd, Nat.reduceMul, Nat.reduceBEq, Nat.reduceLT, Nat.reduceLeDiff, Int.reduceEq, Int.reduceLT, Int.reduceLE, Int.reduceNeg, Int.reduceToNat, Int.reduceAdd, Nat.reduceDiv, Nat.reduceSub, Nat.reduceMod, encL, MC0, MC1, MC2, fitc_imv, lb_set hpl, hset, ne_eq, Prod.mk.injEq, false_and, not_false_eq_true, true_and, rsI_len, hfl]
        refine rowsAt_same (f := cB) (d := 5) (esz := 1) (R := fitRows m.code.length more r) ?_ (fun j h => ?_) (lb_imv 8) (by decide) (by first | rfl | exact hfl.symm | simp [rsI_len, hfl]) (by simp) (fun j _ => by simp) ?_
        · first | (simp only [VC0, VC1, VC2, VC3, VC4, VC5, VC6, VC7, VC8, reduceIte, reduceCtorEq, Nat.reduceEqDiff, Nat.reduceAdd, Nat.reduceMul, Nat.reduceBEq, Nat.reduceLT, Nat.reduceLeDiff, Int.reduceEq, Int.reduceLT, Int.reduceLE, Int.reduceNeg, Int.reduceToNat, Int.reduceAdd, Nat.reduceDiv, Nat.reduceSub, Nat.reduceMod, encL, MC0, MC1, MC2]; done) | rfl
        · simp only [VC0, VC1, VC2, VC3, VC4, VC5, VC6, VC7, VC8, reduceIte, reduceCtorEq, Nat.reduceEqDiff, Nat.reduceAdd, Nat.reduceMul, Nat.reduceBEq, Nat.reduceLT, Nat.reduceLeDiff, Int.reduceEq, Int.reduceLT, Int.reduceLE, Int.reduceNeg, Int.reduceToNat, Int.reduceAdd, Nat.reduceDiv, Nat.reduceSub, Nat.reduceMod, encL, MC0, MC1, MC2, rsI_get cB h]
        · simp only [VC0, VC1, VC2, VC3, VC4, VC5, VC6, VC7, VC8, reduceIte, reduceCtorEq, Nat.reduceEqDiff, Nat.reduceAdd, Nat.reduceMul, Nat.reduceBEq, Nat.reduceLT, Nat.reduceLeDiff, Int.reduceEq, Int.reduceLT, Int.reduceLE, Int.reduceNeg, Int.reduceToNat, Int.reduceAdd, Nat.reduceDiv, Nat.reduceSub, Nat.reduceMod, encL, MC0, MC1, MC2, fitP_zero, fitc_imv, ne_eq, Prod.mk.injEq, false_and, not_false_eq_true, true_and, rsI_len, hfl, lb_set hpl, hset]
          exact ⟨by omega, noK_lt (by decide), noK_lt (by decide)⟩
    · have hp' : m.code.length = p := by omega
      subst hp'
      have hlr : (fitRow m.code.length more r).length = m.code.length := fitRow_len _ _ _
      simp only [VC0, VC1, VC2, VC3, VC4, VC5, VC6, VC7, VC8, reduceIte, reduceCtorEq, Nat.reduceEqDiff, Nat.reduceAdd, Nat.reduceMul, Nat.reduceBEq, Nat.reduceLT, Nat.reduceLeDiff, Int.reduceEq, Int.reduceLT, Int.reduceLE, Int.reduceNeg, Int.reduceToNat, Int.reduceAdd, Nat.reduceDiv, Nat.reduceSub, Nat.reduceMod, encL, MC0, MC1, MC2, rsI_len, hfl, fitP_full]
      refine And.intro ⟨by rw [rowV_len, rsI_len, hfl], by omega, by omega, rfl⟩ (And.intro i2 ?_)
      refine backTo_of (r + 1, _) hr' (by simp only []; omega) (ent_of _ [] rfl rfl ?_)
      simp only [VC0, VC1, VC2, VC3, VC4, VC5, VC6, VC7, VC8, reduceIte, reduceCtorEq, Nat.reduceEqDiff, Nat.reduceAdd, Nat.reduceMul, Nat.reduceBEq, Nat.reduceLT, Nat.reduceLeDiff, Int.reduceEq, Int.reduceLT, Int.reduceLE, Int.reduceNeg, Int.reduceToNat, Int.reduceAdd, Nat.reduceDiv, Nat.reduceSub, Nat.reduceMod, encL, MC0, MC1, MC2, fitc_imv, ne_eq, Prod.mk.injEq, false_and, not_false_eq_true, true_and, rsI_len, hfl, fitRows_succ]
      refine rowsAt_snoc (f := cB) (d := 5) (esz := 1) (R := fitRows m.code.length more r) (r := fitRow m.code.length more r) (k' := (2199023255560, 0)) (g2 := 0) ?_ ?_ (fun j h => ?_) (by decide) (by decide) (by decide) (lb_imv 8) (by decide) (by rw [hfl]) (by simp) (fun j _ => by simp) (by simp) ?_
      · simp only [VC0, VC1, VC2, VC3, VC4, VC5, VC6, VC7, VC8, reduceIte, reduceCtorEq, Nat.reduceEqDiff, Nat.reduceAdd, Nat.reduceMul, Nat.reduceBEq, Nat.reduceLT, Nat.reduceLeDiff, Int.reduceEq, Int.reduceLT, Int.reduceLE, Int.reduceNeg, Int.reduceToNat, Int.reduceAdd, Nat.reduceDiv, Nat.reduceSub, Nat.reduceMod, encL, MC0, MC1, MC2, hlr, List.take_succ_cons, List.take_zero]
      · simp only [VC0, VC1, VC2, VC3, VC4, VC5, VC6, VC7, VC8, reduceIte, reduceCtorEq, Nat.reduceEqDiff, Nat.reduceAdd, Nat.reduceMul, Nat.reduceBEq, Nat.reduceLT, Nat.reduceLeDiff, Int.reduceEq, Int.reduceLT, Int.reduceLE, Int.reduceNeg, Int.reduceToNat, Int.reduceAdd, Nat.reduceDiv, Nat.reduceSub, Nat.reduceMod, encL, MC0, MC1, MC2]
      · simp only [VC0, VC1, VC2, VC3, VC4, VC5, VC6, VC7, VC8, reduceIte, reduceCtorEq, Nat.reduceEqDiff, Nat.reduceAdd, Nat.reduceMul, Nat.reduceBEq, Nat.reduceLT, Nat.reduceLeDiff, Int.reduceEq, Int.reduceLT, Int.reduceLE, Int.reduceNeg, Int.reduceToNat, Int.reduceAdd, Nat.reduceDiv, Nat.reduceSub, Nat.reduceMod, encL, MC0, MC1, MC2, rsI_get cB h]
      · simp only [VC0, VC1, VC2, VC3, VC4, VC5, VC6, VC7, VC8, reduceIte, reduceCtorEq, Nat.reduceEqDiff, Nat.reduceAdd, Nat.reduceMul, Nat.reduceBEq, Nat.reduceLT, Nat.reduceLeDiff, Int.reduceEq, Int.reduceLT, Int.reduceLE, Int.reduceNeg, Int.reduceToNat, Int.reduceAdd, Nat.reduceDiv, Nat.reduceSub, Nat.reduceMod, encL, MC0, MC1, MC2, fitc_imv, ne_eq, Prod.mk.injEq, false_and, not_false_eq_true, true_and, rsI_len, hfl]
        exact ⟨by rw [Nat.add_mul]; omega, noK_sn (by decide) (by decide)⟩
  · have hr' : R = r := by omega
    subst hr'
    have hfl := fitRows_len m.code.length more R
    simp only [VC0, VC1, VC2, VC3, VC4, VC5, VC6, VC7, VC8, reduceIte, reduceCtorEq, Nat.reduceEqDiff, Nat.reduceAdd, Nat.reduceMul, Nat.reduceBEq, Nat.reduceLT, Nat.reduceLeDiff, Int.reduceEq, Int.reduceLT, Int.reduceLE, Int.reduceNeg, Int.reduceToNat, Int.reduceAdd, Nat.reduceDiv, Nat.reduceSub, Nat.reduceMod, encL, MC0, MC1, MC2, rsI_len, hfl]
    have hPl := fitRows_len m.code.length bits R
    have hPr : ∀ (j : Nat) (h : j < (fitRows m.code.length bits R).length), (fitRows m.code.length bits R)[j].length = m.code.length := fun j h => by simp [fitRows, fitRow_len]
    have hPa : ∀ (j u : Nat) (h : j < (fitRows m.code.length bits R).length) (h2 : u < (fitRows m.code.length bits R)[j].length), (fitRows m.code.length bits R)[j][u] = bits.getD (j * m.code.length + u) false := fun j u h h2 => by simp [fitRows, fitRow]
    have hf0 : orRows m.code.length more bits R 0 0 = fitRows m.code.length more R := by
      unfold orRows fitRows fitRow
      refine List.map_congr_left fun j _ => List.map_congr_left fun u _ => ?_
      unfold orAt; rw [if_neg (by omega)]
    refine loop_vcg (ι := Nat × (Nat → Nat)) (fun (r, c) => stO [(3, .box m.cells), (7, .val (encL (cL cB) (fitRows m.code.length bits R))), (8, .rows 1 (rsI cB (orRows m.code.length more bits R r 0))), (9, .val (.int .i64 (r : Nat)))] c)
      (fun (r, _) => r ≤ R) (fun (r, _) => R - r) (0, _) (Nat.zero_le _) (ent_of _ [] rfl rfl (by
        simp only [VC0, VC1, VC2, VC3, VC4, VC5, VC6, VC7, VC8, reduceIte, reduceCtorEq, Nat.reduceEqDiff, Nat.reduceAdd, Nat.reduceMul, Nat.reduceBEq, Nat.reduceLT, Nat.reduceLeDiff, Int.reduceEq, Int.reduceLT, Int.reduceLE, Int.reduceNeg, Int.reduceToNat, Int.reduceAdd, Nat.reduceDiv, Nat.reduceSub, Nat.reduceMod, encL, MC0, MC1, MC2, fitc_imv, ne_eq, Prod.mk.injEq, false_and, not_false_eq_true, true_and, rsI_len, hf0, hfl]
        refine rowsAt_same (f := cB) (d := 5) (esz := 1) (R := fitRows m.code.length more R) ?_ (fun j h => ?_) (lb_imv 8) (by decide) (by first | rfl | exact hfl.symm | simp [rsI_len, hfl]) (by simp) (fun j _ => by simp) ?_
        · first | (simp only [VC0, VC1, VC2, VC3, VC4, VC5, VC6, VC7, VC8, reduceIte, reduceCtorEq, Nat.reduceEqDiff, Nat.reduceAdd, Nat.reduceMul, Nat.reduceBEq, Nat.reduceLT, Nat.reduceLeDiff, Int.reduceEq, Int.reduceLT, Int.reduceLE, Int.reduceNeg, Int.reduceToNat, Int.reduceAdd, Nat.reduceDiv, Nat.reduceSub, Nat.reduceMod, encL, MC0, MC1, MC2]; done) | rfl
        · simp only [VC0, VC1, VC2, VC3, VC4, VC5, VC6, VC7, VC8, reduceIte, reduceCtorEq, Nat.reduceEqDiff, Nat.reduceAdd, Nat.reduceMul, Nat.reduceBEq, Nat.reduceLT, Nat.reduceLeDiff, Int.reduceEq, Int.reduceLT, Int.reduceLE, Int.reduceNeg, Int.reduceToNat, Int.reduceAdd, Nat.reduceDiv, Nat.reduceSub, Nat.reduceMod, encL, MC0, MC1, MC2, rsI_get cB h]
        · simp only [VC0, VC1, VC2, VC3, VC4, VC5, VC6, VC7, VC8, reduceIte, reduceCtorEq, Nat.reduceEqDiff, Nat.reduceAdd, Nat.reduceMul, Nat.reduceBEq, Nat.reduceLT, Nat.reduceLeDiff, Int.reduceEq, Int.reduceLT, Int.reduceLE, Int.reduceNeg, Int.reduceToNat, Int.reduceAdd, Nat.reduceDiv, Nat.reduceSub, Nat.reduceMod, encL, MC0, MC1, MC2, fitc_imv, ne_eq, Prod.mk.injEq, false_and, not_false_eq_true, true_and, rsI_len, hfl])) ?_
    rintro ⟨r, c⟩ hr
    have hr : r ≤ R := hr
    have hql := orRows_len m.code.length more bits R r 0
    simp only [VC0, VC1, VC2, VC3, VC4, VC5, VC6, VC7, VC8, reduceIte, reduceCtorEq, Nat.reduceEqDiff, Nat.reduceAdd, Nat.reduceMul, Nat.reduceBEq, Nat.reduceLT, Nat.reduceLeDiff, Int.reduceEq, Int.reduceLT, Int.reduceLE, Int.reduceNeg, Int.reduceToNat, Int.reduceAdd, Nat.reduceDiv, Nat.reduceSub, Nat.reduceMod, encL, MC0, MC1, MC2, rsI_len, hPl, hql]
    refine condD_of (fun h => ?_) (fun h => ?_)
    · have hr' : r < R := by omega
      have r1 : 0 ≤ (r : Int) ∧ (r : Int) < R := by omega
      have r2 : InI64 ((r : Int) + 1) := by unfold InI64; omega
      have hrP : r < (fitRows m.code.length bits R).length := by omega
      simp only [VC0, VC1, VC2, VC3, VC4, VC5, VC6, VC7, VC8, reduceIte, reduceCtorEq, Nat.reduceEqDiff, Nat.reduceAdd, Nat.reduceMul, Nat.reduceBEq, Nat.reduceLT, Nat.reduceLeDiff, Int.reduceEq, Int.reduceLT, Int.reduceLE, Int.reduceNeg, Int.reduceToNat, Int.reduceAdd, Nat.reduceDiv, Nat.reduceSub, Nat.reduceMod, encL, MC0, MC1, MC2, rsI_len, hPl, hql]
      refine loop_vcg (ι := Nat × (Nat → Nat)) (fun (k, c) => stO [(3, .box m.cells), (7, .val (encL (cL cB) (fitRows m.code.length bits R))), (8, .rows 1 (rsI cB (orRows m.code.length more bits R r k))), (9, .val (.int .i64 (r : Nat))), (10, .val (.int .i64 (k : Nat)))] c)
        (fun (k, _) => k ≤ m.code.length) (fun (k, _) => m.code.length - k) (0, _) (Nat.zero_le _) (ent_of _ [] rfl rfl (by
          simp only [VC0, VC1, VC2, VC3, VC4, VC5, VC6, VC7, VC8, reduceIte, reduceCtorEq, Nat.reduceEqDiff, Nat.reduceAdd, Nat.reduceMul, Nat.reduceBEq, Nat.reduceLT, Nat.reduceLeDiff, Int.reduceEq, Int.reduceLT, Int.reduceLE, Int.reduceNeg, Int.reduceToNat, Int.reduceAdd, Nat.reduceDiv, Nat.reduceSub, Nat.reduceMod, encL, MC0, MC1, MC2, fitc_imv, ne_eq, Prod.mk.injEq, false_and, not_false_eq_true, true_and, rsI_len, hql, hPl]
          refine rowsAt_same (f := cB) (d := 8) (esz := 1) (R := orRows m.code.length more bits R r 0) ?_ (fun j h => ?_) (lb_imv 8) (by decide) (by first | rfl | exact hql.symm | simp [rsI_len, hql]) (by simp) (fun j _ => by simp) ?_
          · first | (simp only [VC0, VC1, VC2, VC3, VC4, VC5, VC6, VC7, VC8, reduceIte, reduceCtorEq, Nat.reduceEqDiff, Nat.reduceAdd, Nat.reduceMul, Nat.reduceBEq, Nat.reduceLT, Nat.reduceLeDiff, Int.reduceEq, Int.reduceLT, Int.reduceLE, Int.reduceNeg, Int.reduceToNat, Int.reduceAdd, Nat.reduceDiv, Nat.reduceSub, Nat.reduceMod, encL, MC0, MC1, MC2]; done) | rfl
          · simp only [VC0, VC1, VC2, VC3, VC4, VC5, VC6, VC7, VC8, reduceIte, reduceCtorEq, Nat.reduceEqDiff, Nat.reduceAdd, Nat.reduceMul, Nat.reduceBEq, Nat.reduceLT, Nat.reduceLeDiff, Int.reduceEq, Int.reduceLT, Int.reduceLE, Int.reduceNeg, Int.reduceToNat, Int.reduceAdd, Nat.reduceDiv, Nat.reduceSub, Nat.reduceMod, encL, MC0, MC1, MC2, rsI_get cB h]
          · simp only [VC0, VC1, VC2, VC3, VC4, VC5, VC6, VC7, VC8, reduceIte, reduceCtorEq, Nat.reduceEqDiff, Nat.reduceAdd, Nat.reduceMul, Nat.reduceBEq, Nat.reduceLT, Nat.reduceLeDiff, Int.reduceEq, Int.reduceLT, Int.reduceLE, Int.reduceNeg, Int.reduceToNat, Int.reduceAdd, Nat.reduceDiv, Nat.reduceSub, Nat.reduceMod, encL, MC0, MC1, MC2, fitc_imv, ne_eq, Prod.mk.injEq, false_and, not_false_eq_true, true_and, rsI_len, hql, hPl])) ?_
      rintro ⟨k, c⟩ hk
      have hk : k ≤ m.code.length := hk
      have hql := orRows_len m.code.length more bits R r k
      have hQr : ∀ (j : Nat) (h : j < (orRows m.code.length more bits R r k).length), (orRows m.code.length more bits R r k)[j].length = m.code.length := fun j h => orRows_row h
      simp only [VC0, VC1, VC2, VC3, VC4, VC5, VC6, VC7, VC8, reduceIte, reduceCtorEq, Nat.reduceEqDiff, Nat.reduceAdd, Nat.reduceMul, Nat.reduceBEq, Nat.reduceLT, Nat.reduceLeDiff, Int.reduceEq, Int.reduceLT, Int.reduceLE, Int.reduceNeg, Int.reduceToNat, Int.reduceAdd, Nat.reduceDiv, Nat.reduceSub, Nat.reduceMod, encL, MC0, MC1, MC2, rsI_len, hPl, hql, r1, hr', fitc_ld hrP, hPr r hrP]
      refine condD_of (fun h => ?_) (fun h => ?_)
      · have hk' : k < m.code.length := by omega
        have k1 : 0 ≤ (k : Int) ∧ (k : Int) < m.code.length := by omega
        have k2 : InI64 ((k : Int) + 1) := by unfold InI64; omega
        have hset := orRows_set (more := more) (bits := bits) hr' hk'
        have hrQ : r < (orRows m.code.length more bits R r k).length := by omega
        rw [← orRows_get hrQ] at hset
        have hQa : ∀ (h2 : k < (orRows m.code.length more bits R r k)[r].length), (orRows m.code.length more bits R r k)[r][k] = more.getD (r * m.code.length + k) false := fun h2 => by rw [orRows_at, orAt_here]
        have hkP : k < (fitRows m.code.length bits R)[r].length := by rw [hPr]; exact hk'
        have hPv := hPa r k hrP hkP
        have hkQ : k < (orRows m.code.length more bits R r k)[r].length := by rw [hQr]; exact hk'
        have hkle : k + 1 ≤ m.code.length := hk'
        have hQv := hQa hkQ
        have hget := rsI_get cB hrQ
        have hrQ2 : r < (rsI cB (orRows m.code.length more bits R r k)).length := by rw [rsI_len]; exact hrQ
        simp only [VC0, VC1, VC2, VC3, VC4, VC5, VC6, VC7, VC8, reduceIte, reduceCtorEq, Nat.reduceEqDiff, Nat.reduceAdd, Nat.reduceMul, Nat.reduceBEq, Nat.reduceLT, Nat.reduceLeDiff, Int.reduceEq, Int.reduceLT, Int.reduceLE, Int.reduceNeg, Int.reduceToNat, Int.reduceAdd, Nat.reduceDiv, Nat.reduceSub, Nat.reduceMod, encL, MC0, MC1, MC2, rsI_len, hPl, hql, r1, hr', k1, k2, hk', rowV_ld hrQ2, rowV_len, hget, rsI_at, hQr r hrQ, ld_cB hkQ, hkle]
        cases b1 : (orRows m.code.length more bits R r k)[r][k] <;> simp only [VC0, VC1, VC2, VC3, VC4, VC5, VC6, VC7, VC8, reduceIte, reduceCtorEq, Nat.reduceEqDiff, Nat.reduceAdd, Nat.reduceMul, Nat.reduceBEq, Nat.reduceLT, Nat.reduceLeDiff, Int.reduceEq, Int.reduceLT, Int.reduceLE, Int.reduceNeg, Int.reduceToNat, Int.reduceAdd, Nat.reduceDiv, Nat.reduceSub, Nat.reduceMod, encL, MC0, MC1, MC2, rsI_len, hPl, hql, r1, hr', k1, k2, hk', rowV_ld hrQ2, rowV_len, hget, rsI_at, hQr r hrQ, fitc_ld hrP, hPr r hrP, ld_cB hkQ, ld_cB hkP, b1, hkle, lb_set hkQ]
        · rw [← hQv, b1, Bool.false_or, ← hPv] at hset
          refine backTo_of (k + 1, _) hk' (by simp only []; omega) (ent_of _ [] rfl rfl ?_)
          simp only [VC0, VC1, VC2, VC3, VC4, VC5, VC6, VC7, VC8, reduceIte, reduceCtorEq, Nat.reduceEqDiff, Nat.reduceAdd, Nat.reduceMul, Nat.reduceBEq, Nat.reduceLT, Nat.reduceLeDiff, Int.reduceEq, Int.reduceLT, Int.reduceLE, Int.reduceNeg, Int.reduceToNat, Int.reduceAdd, Nat.reduceDiv, Nat.reduceSub, Nat.reduceMod, encL, MC0, MC1, MC2, fitc_imv, ne_eq, Prod.mk.injEq, false_and, not_false_eq_true, true_and, rsI_len, hPl, hql, orRows_len]
          rw [← hset]
          refine rowsAt_upd (f := cB) (d := 8) (esz := 1) (t := r) (R := orRows m.code.length more bits R r k) (r := _) hrQ (by simp) rfl ?_ (fun j h hne => ?_) (lb_imv 8) (by decide) hql.symm (by simp) (fun j _ => by simp) ?_
          · simp only [VC0, VC1, VC2, VC3, VC4, VC5, VC6, VC7, VC8, reduceIte, reduceCtorEq, Nat.reduceEqDiff, Nat.reduceAdd, Nat.reduceMul, Nat.reduceBEq, Nat.reduceLT, Nat.reduceLeDiff, Int.reduceEq, Int.reduceLT, Int.reduceLE, Int.reduceNeg, Int.reduceToNat, Int.reduceAdd, Nat.reduceDiv, Nat.reduceSub, Nat.reduceMod, encL, MC0, MC1, MC2, lb_set hkQ]
            try simp
          · simp only [VC0, VC1, VC2, VC3, VC4, VC5, VC6, VC7, VC8, reduceIte, reduceCtorEq, Nat.reduceEqDiff, Nat.reduceAdd, Nat.reduceMul, Nat.reduceBEq, Nat.reduceLT, Nat.reduceLeDiff, Int.reduceEq, Int.reduceLT, Int.reduceLE, Int.reduceNeg, Int.reduceToNat, Int.reduceAdd, Nat.reduceDiv, Nat.reduceSub, Nat.reduceMod, encL, MC0, MC1, MC2, hne, rsI_get cB h]
            try simp [hne]
          · simp only [VC0, VC1, VC2, VC3, VC4, VC5, VC6, VC7, VC8, reduceIte, reduceCtorEq, Nat.reduceEqDiff, Nat.reduceAdd, Nat.reduceMul, Nat.reduceBEq, Nat.reduceLT, Nat.reduceLeDiff, Int.reduceEq, Int.reduceLT, Int.reduceLE, Int.reduceNeg, Int.reduceToNat, Int.reduceAdd, Nat.reduceDiv, Nat.reduceSub, Nat.reduceMod, encL, MC0, MC1, MC2, fitc_imv, ne_eq, Prod.mk.injEq, false_and, not_false_eq_true, true_and, rsI_len, hPl, hql]
        · rw [← hQv, b1, Bool.true_or] at hset
          refine backTo_of (k + 1, _) hk' (by simp only []; omega) (ent_of _ [] rfl rfl ?_)
          simp only [VC0, VC1, VC2, VC3, VC4, VC5, VC6, VC7, VC8, reduceIte, reduceCtorEq, Nat.reduceEqDiff, Nat.reduceAdd, Nat.reduceMul, Nat.reduceBEq, Nat.reduceLT, Nat.reduceLeDiff, Int.reduceEq, Int.reduceLT, Int.reduceLE, Int.reduceNeg, Int.reduceToNat, Int.reduceAdd, Nat.reduceDiv, Nat.reduceSub, Nat.reduceMod, encL, MC0, MC1, MC2, fitc_imv, ne_eq, Prod.mk.injEq, false_and, not_false_eq_true, true_and, rsI_len, hPl, hql, orRows_len]
          rw [← hset]
          refine rowsAt_upd (f := cB) (d := 8) (esz := 1) (t := r) (R := orRows m.code.length more bits R r k) (r := _) hrQ (by simp) rfl ?_ (fun j h hne => ?_) (lb_imv 8) (by decide) hql.symm (by simp) (fun j _ => by simp) ?_
          · simp only [VC0, VC1, VC2, VC3, VC4, VC5, VC6, VC7, VC8, reduceIte, reduceCtorEq, Nat.reduceEqDiff, Nat.reduceAdd, Nat.reduceMul, Nat.reduceBEq, Nat.reduceLT, Nat.reduceLeDiff, Int.reduceEq, Int.reduceLT, Int.reduceLE, Int.reduceNeg, Int.reduceToNat, Int.reduceAdd, Nat.reduceDiv, Nat.reduceSub, Nat.reduceMod, encL, MC0, MC1, MC2, lb_set hkQ]
            try simp
          · simp only [VC0, VC1, VC2, VC3, VC4, VC5, VC6, VC7, VC8, reduceIte, reduceCtorEq, Nat.reduceEqDiff, Nat.reduceAdd, Nat.reduceMul, Nat.reduceBEq, Nat.reduceLT, Nat.reduceLeDiff, Int.reduceEq, Int.reduceLT, Int.reduceLE, Int.reduceNeg, Int.reduceToNat, Int.reduceAdd, Nat.reduceDiv, Nat.reduceSub, Nat.reduceMod, encL, MC0, MC1, MC2, hne, rsI_get cB h]
            try simp [hne]
          · simp only [VC0, VC1, VC2, VC3, VC4, VC5, VC6, VC7, VC8, reduceIte, reduceCtorEq, Nat.reduceEqDiff, Nat.reduceAdd, Nat.reduceMul, Nat.reduceBEq, Nat.reduceLT, Nat.reduceLeDiff, Int.reduceEq, Int.reduceLT, Int.reduceLE, Int.reduceNeg, Int.reduceToNat, Int.reduceAdd, Nat.reduceDiv, Nat.reduceSub, Nat.reduceMod, encL, MC0, MC1, MC2, fitc_imv, ne_eq, Prod.mk.injEq, false_and, not_false_eq_true, true_and, rsI_len, hPl, hql]
      · have hk' : m.code.length = k := by omega
        subst hk'
        have hnx := orRows_next (N := m.code.length) (more := more) (bits := bits) (R := R) (r := r)
        simp only [VC0, VC1, VC2, VC3, VC4, VC5, VC6, VC7, VC8, reduceIte, reduceCtorEq, Nat.reduceEqDiff, Nat.reduceAdd, Nat.reduceMul, Nat.reduceBEq, Nat.reduceLT, Nat.reduceLeDiff, Int.reduceEq, Int.reduceLT, Int.reduceLE, Int.reduceNeg, Int.reduceToNat, Int.reduceAdd, Nat.reduceDiv, Nat.reduceSub, Nat.reduceMod, encL, MC0, MC1, MC2, r2]
        refine backTo_of (r + 1, _) hr' (by simp only []; omega) (ent_of _ [] rfl rfl ?_)
        simp only [VC0, VC1, VC2, VC3, VC4, VC5, VC6, VC7, VC8, reduceIte, reduceCtorEq, Nat.reduceEqDiff, Nat.reduceAdd, Nat.reduceMul, Nat.reduceBEq, Nat.reduceLT, Nat.reduceLeDiff, Int.reduceEq, Int.reduceLT, Int.reduceLE, Int.reduceNeg, Int.reduceToNat, Int.reduceAdd, Nat.reduceDiv, Nat.reduceSub, Nat.reduceMod, encL, MC0, MC1, MC2, fitc_imv, ne_eq, Prod.mk.injEq, false_and, not_false_eq_true, true_and, rsI_len, hPl, hql, ← hnx]
        refine rowsAt_same (f := cB) (d := 8) (esz := 1) (R := orRows m.code.length more bits R r m.code.length) ?_ (fun j h => ?_) (lb_imv 8) (by decide) (by first | rfl | exact hql.symm | simp [rsI_len, hql]) (by simp) (fun j _ => by simp) ?_
        · first | (simp only [VC0, VC1, VC2, VC3, VC4, VC5, VC6, VC7, VC8, reduceIte, reduceCtorEq, Nat.reduceEqDiff, Nat.reduceAdd, Nat.reduceMul, Nat.reduceBEq, Nat.reduceLT, Nat.reduceLeDiff, Int.reduceEq, Int.reduceLT, Int.reduceLE, Int.reduceNeg, Int.reduceToNat, Int.reduceAdd, Nat.reduceDiv, Nat.reduceSub, Nat.reduceMod, encL, MC0, MC1, MC2]; done) | rfl
        · simp only [VC0, VC1, VC2, VC3, VC4, VC5, VC6, VC7, VC8, reduceIte, reduceCtorEq, Nat.reduceEqDiff, Nat.reduceAdd, Nat.reduceMul, Nat.reduceBEq, Nat.reduceLT, Nat.reduceLeDiff, Int.reduceEq, Int.reduceLT, Int.reduceLE, Int.reduceNeg, Int.reduceToNat, Int.reduceAdd, Nat.reduceDiv, Nat.reduceSub, Nat.reduceMod, encL, MC0, MC1, MC2, rsI_get cB h]
        · simp only [VC0, VC1, VC2, VC3, VC4, VC5, VC6, VC7, VC8, reduceIte, reduceCtorEq, Nat.reduceEqDiff, Nat.reduceAdd, Nat.reduceMul, Nat.reduceBEq, Nat.reduceLT, Nat.reduceLeDiff, Int.reduceEq, Int.reduceLT, Int.reduceLE, Int.reduceNeg, Int.reduceToNat, Int.reduceAdd, Nat.reduceDiv, Nat.reduceSub, Nat.reduceMod, encL, MC0, MC1, MC2, fitc_imv, ne_eq, Prod.mk.injEq, false_and, not_false_eq_true, true_and, rsI_len, hql, hPl]
    · have hr' : R = r := by omega
      subst hr'
      simp only [VC0, VC1, VC2, VC3, VC4, VC5, VC6, VC7, VC8, reduceIte, reduceCtorEq, Nat.reduceEqDiff, Nat.reduceAdd, Nat.reduceMul, Nat.reduceBEq, Nat.reduceLT, Nat.reduceLeDiff, Int.reduceEq, Int.reduceLT, Int.reduceLE, Int.reduceNeg, Int.reduceToNat, Int.reduceAdd, Nat.reduceDiv, Nat.reduceSub, Nat.reduceMod, encL, MC0, MC1, MC2]
      have htk := taken_ret m hm hgr
      rw [if_pos hmay] at htk
      refine callX_of htk (.inl rfl) ?_
      have hpn : ∀ bits, (fitRows m.code.length bits R).length ≤ 1000 := fun bits => by rw [fitRows_len]; omega
      have hpr : ∀ bits, ∀ r ∈ fitRows m.code.length bits R, r.length ≤ 1000 := fun bits r hr => by
        obtain ⟨j, _, rfl⟩ := List.mem_map.1 hr
        rw [fitRow_len]; omega
      have hA := in_ret m hm hgr hmay _ (hpn bits) (hpr bits)
      simp only [encL, hPl] at hA
      have hB := in_retF m hm hgr hmay (orRows m.code.length more bits R R 0) (by rw [hql]; omega) (fun r hr => by
        obtain ⟨j, _, rfl⟩ := List.mem_map.1 hr
        simp; omega)
      simp only [VC0, VC1, VC2, VC3, VC4, VC5, VC6, VC7, VC8, reduceIte, reduceCtorEq, Nat.reduceEqDiff, Nat.reduceAdd, Nat.reduceMul, Nat.reduceBEq, Nat.reduceLT, Nat.reduceLeDiff, Int.reduceEq, Int.reduceLT, Int.reduceLE, Int.reduceNeg, Int.reduceToNat, Int.reduceAdd, Nat.reduceDiv, Nat.reduceSub, Nat.reduceMod, encL, MC0, MC1, MC2]
      refine callV_of hA (.inl rfl) ?_
      simp only [VC0, VC1, VC2, VC3, VC4, VC5, VC6, VC7, VC8, reduceIte, reduceCtorEq, Nat.reduceEqDiff, Nat.reduceAdd, Nat.reduceMul, Nat.reduceBEq, Nat.reduceLT, Nat.reduceLeDiff, Int.reduceEq, Int.reduceLT, Int.reduceLE, Int.reduceNeg, Int.reduceToNat, Int.reduceAdd, Nat.reduceDiv, Nat.reduceSub, Nat.reduceMod, encL, MC0, MC1, MC2]
      have hso := rowV_sok (H := hpO [(3, .box m.cells), (7, .val (encL (cL cB) (fitRows m.code.length bits R))), (8, .rows 1 (rsI cB (orRows m.code.length more bits R R 0))), (9, .val (.int .i64 (R : Nat)))]) (f := cB) (d := 8) (j := 6) (R := orRows m.code.length more bits R R 0) (fun j h => by simp only [VC0, VC1, VC2, VC3, VC4, VC5, VC6, VC7, VC8, reduceIte, reduceCtorEq, Nat.reduceEqDiff, Nat.reduceAdd, Nat.reduceMul, Nat.reduceBEq, Nat.reduceLT, Nat.reduceLeDiff, Int.reduceEq, Int.reduceLT, Int.reduceLE, Int.reduceNeg, Int.reduceToNat, Int.reduceAdd, Nat.reduceDiv, Nat.reduceSub, Nat.reduceMod, encL, MC0, MC1, MC2, rsI_get cB h]) (fun _ => rfl) (fun r => lb_sok _ _ _)
      have hsn := rowV_snap (H := hpO [(3, .box m.cells), (7, .val (encL (cL cB) (fitRows m.code.length bits R))), (8, .rows 1 (rsI cB (orRows m.code.length more bits R R 0))), (9, .val (.int .i64 (R : Nat)))]) (f := cB) (d := 8) (j := 6) (R := orRows m.code.length more bits R R 0) (fun j h => by simp only [VC0, VC1, VC2, VC3, VC4, VC5, VC6, VC7, VC8, reduceIte, reduceCtorEq, Nat.reduceEqDiff, Nat.reduceAdd, Nat.reduceMul, Nat.reduceBEq, Nat.reduceLT, Nat.reduceLeDiff, Int.reduceEq, Int.reduceLT, Int.reduceLE, Int.reduceNeg, Int.reduceToNat, Int.reduceAdd, Nat.reduceDiv, Nat.reduceSub, Nat.reduceMod, encL, MC0, MC1, MC2, rsI_get cB h]) (fun _ => rfl) (fun r => lb_snap _ _ _)
      simp only [encL, hPl] at hso hsn
      have hrl : (rowV 8 0 (rsI cB (orRows m.code.length more bits R R 0))).length = R := by rw [rowV_len, rsI_len, hql]
      rw [List.take_of_length_le (Nat.le_of_eq hrl), hrl, hso, hsn, if_pos (Nat.le_refl _)]
      refine And.intro (by rw [decide_eq_true (Nat.le_refl _)]; rfl) ?_
      have hAl : (inL m (fitRows m.code.length bits R)).length = m.code.length := inR_len _ _ _
      have hBl : (inL m (orRows m.code.length more bits R R 0)).length = m.code.length := inR_len _ _ _
      simp only [encL, hql] at hB
      refine callV_new hB ?_
      simp only [VC0, VC1, VC2, VC3, VC4, VC5, VC6, VC7, VC8, reduceIte, reduceCtorEq, Nat.reduceEqDiff, Nat.reduceAdd, Nat.reduceMul, Nat.reduceBEq, Nat.reduceLT, Nat.reduceLeDiff, Int.reduceEq, Int.reduceLT, Int.reduceLE, Int.reduceNeg, Int.reduceToNat, Int.reduceAdd, Nat.reduceDiv, Nat.reduceSub, Nat.reduceMod, encL, MC0, MC1, MC2, hAl, hBl, hPl, bne_self_eq_false]
      have hAat : ∀ (i : Nat) (h : i < (inL m (fitRows m.code.length bits R)).length), (inL m (fitRows m.code.length bits R))[i] = inS (GoesL m (fitRows m.code.length bits R)) (loansOf m).length i := fun i h => inR_at h
      have hBat : ∀ (i : Nat) (h : i < (inL m (orRows m.code.length more bits R R 0)).length), (inL m (orRows m.code.length more bits R R 0))[i] = inS (GoesL m (orRows m.code.length more bits R R 0)) (loansOf m).length i := fun i h => inR_at h
      have hLl : (loansOf m).length ≤ m.code.length := loansS_len _ _
      have hAk : ∀ (i : Nat) (h : i < (inL m (fitRows m.code.length bits R)).length), (inL m (fitRows m.code.length bits R))[i].length ≤ 1000000 := fun i h => by
        rw [hAat]; exact Nat.le_trans (inS_len _ _ _) (by omega)
      have hBk : ∀ (i : Nat) (h : i < (inL m (orRows m.code.length more bits R R 0)).length), (inL m (orRows m.code.length more bits R R 0))[i].length ≤ 1000000 := fun i h => by
        rw [hBat]; exact Nat.le_trans (inS_len _ _ _) (by omega)
      have hAr : ∀ (i : Nat) (h : i < (inL m (fitRows m.code.length bits R)).length), (inL m (fitRows m.code.length bits R))[i].Pairwise (· < ·) := fun i h => by
        rw [hAat]; exact inS_rise _ _ _
      have hAn : ∀ (i k : Nat) (h : i < (inL m (fitRows m.code.length bits R)).length) (h2 : k < (inL m (fitRows m.code.length bits R))[i].length), ∃ n : Nat, (inL m (fitRows m.code.length bits R))[i][k] = (n : Int) ∧ n < (loansOf m).length ∧ GoesL m (fitRows m.code.length bits R) n i := fun i k h h2 => by
        have hm' := List.getElem_mem h2
        have e := hAat i h
        have hm'' : (inL m (fitRows m.code.length bits R))[i][k] ∈ inS (GoesL m (fitRows m.code.length bits R)) (loansOf m).length i := by rw [← e]; exact hm'
        obtain ⟨n, e1, e2, e3⟩ := (mem_inS _).1 hm''
        exact ⟨n, e1, e2, e3⟩
      have hAa : ∀ (i n : Nat) (h : i < (inL m (fitRows m.code.length bits R)).length), ((inL m (fitRows m.code.length bits R))[i].any fun y => decide (y = (n : Int))) = true ↔ n < (loansOf m).length ∧ GoesL m (fitRows m.code.length bits R) n i := fun i n h => by
        rw [hAat, any_inS]
      have hBw : ∀ (i n : Nat) (h : i < (inL m (orRows m.code.length more bits R R 0)).length), n < (loansOf m).length → GoesL m (fitRows m.code.length bits R) n i → ((inL m (orRows m.code.length more bits R R 0))[i].any fun y => decide (y = (n : Int))) = true := fun i n h h1 h2 => by
        rw [hBat, any_inS]; exact ⟨h1, goes_wide h2⟩
      have hLr : ∀ (n : Nat) (hn : n < (loansOf m).length), ∃ (u g : Nat), u < m.code.length ∧ (loansOf m)[n].pt = (u : Int) ∧ (loansOf m)[n].reg = (g : Int) ∧ g < R ∧ ptP (loansOf m) n = u := fun n hn => by
        obtain ⟨u, hu, g, _, e1, e2, e3, e4⟩ := loan_reg hmay hn
        exact ⟨u, g, hu, e1, e2, by omega, e4⟩
      have hPt : ∀ (n g i : Nat) (hn : n < (loansOf m).length) (h : g < (fitRows m.code.length bits R).length) (h2 : i < (fitRows m.code.length bits R)[g].length), (loansOf m)[n].reg = (g : Int) → GoesL m (fitRows m.code.length bits R) n i → (fitRows m.code.length bits R)[g][i] = true := fun n g i hn h h2 e hG => by
        rw [hPa]
        exact ((okP_fit hn e).1 hG.1.okd).2.2
      have hSd : ∀ (n u g j : Nat) (hn : n < (loansOf m).length) (h : g < (fitRows m.code.length bits R).length) (h2 : j < (fitRows m.code.length bits R)[g].length), (loansOf m)[n].reg = (g : Int) → ptP (loansOf m) n = u → j ∈ nx m u → (fitRows m.code.length bits R)[g][j] = true → 0 ≤ dist0 (nx m) 0 j → GoesL m (fitRows m.code.length bits R) n j := fun n u g j hn h h2 e1 e2 e3 e4 e5 => by
        refine ⟨.seed n j hn (by rw [e2]; exact e3) ((okP_fit hn e1).2 ⟨by omega, by rw [hPr] at h2; exact h2, ?_⟩), e5⟩
        rw [← hPa g j h h2]; exact e4
      have hFr : ∀ (n i : Nat), GoesL m (fitRows m.code.length bits R) n i → n < (loansOf m).length → (List.range m.code.length).any (fromC m (fitRows m.code.length bits R) n i) = false → ¬ 0 ≤ dist0 (nx m) 0 (ptP (loansOf m) n) := fun n i h1 h2 h3 => from_or hmay h1 h2 h3
      have hC : ∀ (n i j : Nat) (hj : j < m.code.length) (hn : n < (loansOf m).length) (h : j < (inL m (fitRows m.code.length bits R)).length), fromC m (fitRows m.code.length bits R) n i j = ((m.code[j].next.any fun y => decide (y = (i : Int))) && (decide ((loansOf m)[n].pt = (j : Int)) || ((inL m (fitRows m.code.length bits R))[j].any fun y => decide (y = (n : Int))) && !endsS (loansOf m)[n] m.code[j])) := fun n i j hj hn h => by
        simp only [fromC, List.getElem?_eq_getElem hj, List.getElem?_eq_getElem hn, List.getD_eq_getElem?_getD, List.getElem?_eq_getElem h, Option.getD_some]
      generalize GoesL m (fitRows m.code.length bits R) = G at hAn hAa hBw hPt hSd hFr
      generalize fromC m (fitRows m.code.length bits R) = C at hFr hC
      clear hAat hBat hso hsn hrl hB hA hPa hf0 hfl hql hpn hpr hfb
      generalize inL m (fitRows m.code.length bits R) = A at hAl hAk hAr hAn hAa hC ⊢
      generalize inL m (orRows m.code.length more bits R R 0) = B at hBl hBk hBw ⊢
      generalize fitRows m.code.length bits R = P at hPl hPr hPt hSd ⊢
      generalize ptP (loansOf m) = pq at hLr hSd hFr
      generalize loansOf m = Ls at *
      refine loop_vcg (ι := Nat × (Nat → Nat)) (fun (i, c) => stO [(3, .box m.cells), (7, .val (encL (cL cB) P)), (11, .val (encL MLoan.cells Ls)), (12, .val (encL (cL cI) A)), (13, .val (encL (cL cI) B)), (14, .val (.int .i64 (i : Nat)))] c)
        (fun (i, _) => i ≤ m.code.length) (fun (i, _) => m.code.length - i) (0, _) (Nat.zero_le _) (ent_of _ [] rfl rfl (by simp only [VC0, VC1, VC2, VC3, VC4, VC5, VC6, VC7, VC8, reduceIte, reduceCtorEq, Nat.reduceEqDiff, Nat.reduceAdd, Nat.reduceMul, Nat.reduceBEq, Nat.reduceLT, Nat.reduceLeDiff, Int.reduceEq, Int.reduceLT, Int.reduceLE, Int.reduceNeg, Int.reduceToNat, Int.reduceAdd, Nat.reduceDiv, Nat.reduceSub, Nat.reduceMod, encL, MC0, MC1, MC2, hAl, hBl, hPl])) ?_
      rintro ⟨i, c⟩ hi
      have hi : i ≤ m.code.length := hi
      simp only [VC0, VC1, VC2, VC3, VC4, VC5, VC6, VC7, VC8, reduceIte, reduceCtorEq, Nat.reduceEqDiff, Nat.reduceAdd, Nat.reduceMul, Nat.reduceBEq, Nat.reduceLT, Nat.reduceLeDiff, Int.reduceEq, Int.reduceLT, Int.reduceLE, Int.reduceNeg, Int.reduceToNat, Int.reduceAdd, Nat.reduceDiv, Nat.reduceSub, Nat.reduceMod, encL, MC0, MC1, MC2, hAl, hBl, hPl]
      refine condD_of (fun h => ?_) (fun h => ?_)
      · have hi' : i < m.code.length := by omega
        have hiA : i < A.length := by omega
        have hiB : i < B.length := by omega
        have i1 : 0 ≤ (i : Int) ∧ (i : Int) < m.code.length := by omega
        have i2 : InI64 ((i : Int) + 1) := by unfold InI64; omega
        have hAki := hAk i hiA
        simp only [VC0, VC1, VC2, VC3, VC4, VC5, VC6, VC7, VC8, reduceIte, reduceCtorEq, Nat.reduceEqDiff, Nat.reduceAdd, Nat.reduceMul, Nat.reduceBEq, Nat.reduceLT, Nat.reduceLeDiff, Int.reduceEq, Int.reduceLT, Int.reduceLE, Int.reduceNeg, Int.reduceToNat, Int.reduceAdd, Nat.reduceDiv, Nat.reduceSub, Nat.reduceMod, encL, MC0, MC1, MC2, hAl, hBl, hPl, i1, i2, hi', ld_cL hiA]
        refine loop_vcg (ι := Nat × (Nat → Nat)) (fun (k, c) => stO [(3, .box m.cells), (7, .val (encL (cL cB) P)), (11, .val (encL MLoan.cells Ls)), (12, .val (encL (cL cI) A)), (13, .val (encL (cL cI) B)), (14, .val (.int .i64 (i : Nat))), (15, .val (.int .i64 (k : Nat)))] c)
          (fun (k, _) => k ≤ A[i].length) (fun (k, _) => A[i].length - k) (0, _) (Nat.zero_le _) (ent_of _ [] rfl rfl (by simp only [VC0, VC1, VC2, VC3, VC4, VC5, VC6, VC7, VC8, reduceIte, reduceCtorEq, Nat.reduceEqDiff, Nat.reduceAdd, Nat.reduceMul, Nat.reduceBEq, Nat.reduceLT, Nat.reduceLeDiff, Int.reduceEq, Int.reduceLT, Int.reduceLE, Int.reduceNeg, Int.reduceToNat, Int.reduceAdd, Nat.reduceDiv, Nat.reduceSub, Nat.reduceMod, encL, MC0, MC1, MC2, hAl, hBl, hPl])) ?_
        rintro ⟨k, c⟩ hk
        have hk : k ≤ A[i].length := hk
        simp only [VC0, VC1, VC2, VC3, VC4, VC5, VC6, VC7, VC8, reduceIte, reduceCtorEq, Nat.reduceEqDiff, Nat.reduceAdd, Nat.reduceMul, Nat.reduceBEq, Nat.reduceLT, Nat.reduceLeDiff, Int.reduceEq, Int.reduceLT, Int.reduceLE, Int.reduceNeg, Int.reduceToNat, Int.reduceAdd, Nat.reduceDiv, Nat.reduceSub, Nat.reduceMod, encL, MC0, MC1, MC2, hAl, hBl, hPl, i1, i2, hi', ld_cL hiA]
        refine condD_of (fun h => ?_) (fun h => ?_)
        · have hk' : k < A[i].length := by omega
          have k1 : 0 ≤ (k : Int) ∧ (k : Int) < A[i].length := by omega
          have k2 : InI64 ((k : Int) + 1) := by unfold InI64; omega
          obtain ⟨n, hAe, hnL, hG⟩ := hAn i k hiA hk'
          obtain ⟨u, g, hu, hpt, hreg, hgR, hpq⟩ := hLr n hnL
          have n1 : 0 ≤ (n : Int) ∧ (n : Int) < Ls.length := by omega
          have g1 : 0 ≤ (g : Int) ∧ (g : Int) < R := by omega
          have hgP : g < P.length := by omega
          have hPrg := hPr g hgP
          have hiP : i < P[g].length := by omega
          have hPti := hPt n g i hnL hgP hiP hreg hG
          have hz1 : decide ((n : Int) < 0) = false := decide_eq_false (by omega)
          have hz2 : decide ((Ls.length : Int) ≤ n) = false := decide_eq_false (by omega)
          have hBi := hBw i n hiB hnL hG
          simp only [VC0, VC1, VC2, VC3, VC4, VC5, VC6, VC7, VC8, reduceIte, reduceCtorEq, Nat.reduceEqDiff, Nat.reduceAdd, Nat.reduceMul, Nat.reduceBEq, Nat.reduceLT, Nat.reduceLeDiff, Int.reduceEq, Int.reduceLT, Int.reduceLE, Int.reduceNeg, Int.reduceToNat, Int.reduceAdd, Nat.reduceDiv, Nat.reduceSub, Nat.reduceMod, encL, MC0, MC1, MC2, hAl, hBl, hPl, i1, i2, k1, n1, hi', hk', ld_cL hiA, hAe, hz1, hz2]
          by_cases hk0 : (0 : Int) < (k : Int)
          · have hd := decide_eq_true hk0
            obtain ⟨k', hk1⟩ : ∃ k' : Nat, (k : Int) - 1 = (k' : Int) := ⟨k - 1, by omega⟩
            have hk'l : k' < A[i].length := by omega
            have hlt : A[i][k'] < (n : Int) := by
              have := List.pairwise_iff_getElem.1 (hAr i hiA) k' k hk'l hk' (by omega)
              rw [hAe] at this; exact this
            have k3 : 0 ≤ (k' : Int) ∧ (k' : Int) < A[i].length := by omega
            have k4 : InI64 (k' : Int) := by unfold InI64; omega
            have hz3 : decide ((n : Int) ≤ A[i][k']) = false := decide_eq_false (by omega)
            simp only [VC0, VC1, VC2, VC3, VC4, VC5, VC6, VC7, VC8, reduceIte, reduceCtorEq, Nat.reduceEqDiff, Nat.reduceAdd, Nat.reduceMul, Nat.reduceBEq, Nat.reduceLT, Nat.reduceLeDiff, Int.reduceEq, Int.reduceLT, Int.reduceLE, Int.reduceNeg, Int.reduceToNat, Int.reduceAdd, Nat.reduceDiv, Nat.reduceSub, Nat.reduceMod, encL, MC0, MC1, MC2, hAl, hBl, hPl, i1, i2, k1, k2, n1, g1, hi', hk', ld_cL hiA, hAe, hz1, hz2, lo_ld hnL (j := 1) (n := 1) (agg := false) (by decide) (by decide), lo_ld0 hnL (n := 1) (agg := false) (by decide) (by decide), lo_ld0 hnL (n := 5) (agg := true) (by decide) (by decide), MLoan.call, MLoan.sokc, MLoan.snapc, MLoan.c0, MLoan.c1, hreg, hpt, fitc_ld hgP, hPrg, ld_cB hiP, hPti, ld_cL hiB, hd, hk1, k3, k4, hk'l, hz3]
            refine callX_of (has22_ret B[i] n (hBk i hiB)) (.inr rfl) ?_
            simp only [VC0, VC1, VC2, VC3, VC4, VC5, VC6, VC7, VC8, reduceIte, reduceCtorEq, Nat.reduceEqDiff, Nat.reduceAdd, Nat.reduceMul, Nat.reduceBEq, Nat.reduceLT, Nat.reduceLeDiff, Int.reduceEq, Int.reduceLT, Int.reduceLE, Int.reduceNeg, Int.reduceToNat, Int.reduceAdd, Nat.reduceDiv, Nat.reduceSub, Nat.reduceMod, encL, MC0, MC1, MC2, hAl, hBl, hPl, i1, i2, k1, k2, n1, g1, hi', hk', ld_cL hiA, hAe, hz1, hz2, lo_ld hnL (j := 1) (n := 1) (agg := false) (by decide) (by decide), lo_ld0 hnL (n := 1) (agg := false) (by decide) (by decide), lo_ld0 hnL (n := 5) (agg := true) (by decide) (by decide), MLoan.call, MLoan.sokc, MLoan.snapc, MLoan.c0, MLoan.c1, hreg, hpt, fitc_ld hgP, hPrg, ld_cB hiP, hPti, ld_cL hiB, hBi]
            refine loop_vcg (ι := Nat × (Nat → Nat)) (fun (j, c) => stO [(3, .box m.cells), (7, .val (encL (cL cB) P)), (11, .val (encL MLoan.cells Ls)), (12, .val (encL (cL cI) A)), (13, .val (encL (cL cI) B)), (14, .val (.int .i64 (i : Nat))), (15, .val (.int .i64 (k : Nat))), (16, .val (.int .i64 (n : Nat))), (17, .val (.bool ((List.range j).any (C n i)))), (18, .val (.int .i64 (j : Nat)))] c)
              (fun (j, _) => j ≤ m.code.length) (fun (j, _) => m.code.length - j) (0, _) (Nat.zero_le _) (ent_of _ [] rfl rfl (by simp only [VC0, VC1, VC2, VC3, VC4, VC5, VC6, VC7, VC8, reduceIte, reduceCtorEq, Nat.reduceEqDiff, Nat.reduceAdd, Nat.reduceMul, Nat.reduceBEq, Nat.reduceLT, Nat.reduceLeDiff, Int.reduceEq, Int.reduceLT, Int.reduceLE, Int.reduceNeg, Int.reduceToNat, Int.reduceAdd, Nat.reduceDiv, Nat.reduceSub, Nat.reduceMod, encL, MC0, MC1, MC2, hAl, hBl, hPl, List.range_zero, List.any_nil])) ?_
            rintro ⟨j, c⟩ hj
            have hj : j ≤ m.code.length := hj
            simp only [VC0, VC1, VC2, VC3, VC4, VC5, VC6, VC7, VC8, reduceIte, reduceCtorEq, Nat.reduceEqDiff, Nat.reduceAdd, Nat.reduceMul, Nat.reduceBEq, Nat.reduceLT, Nat.reduceLeDiff, Int.reduceEq, Int.reduceLT, Int.reduceLE, Int.reduceNeg, Int.reduceToNat, Int.reduceAdd, Nat.reduceDiv, Nat.reduceSub, Nat.reduceMod, encL, MC0, MC1, MC2, hAl, hBl, hPl]
            refine condD_of (fun h => ?_) (fun h => ?_)
            · have hj' : j < m.code.length := by omega
              have hjA : j < A.length := by omega
              have j1 : 0 ≤ (j : Int) ∧ (j : Int) < m.code.length := by omega
              have j2 : InI64 ((j : Int) + 1) := by unfold InI64; omega
              have hyl := (hg.nx _ (List.getElem_mem hj')).1
              have hCj := hC n i j hj' hnL hjA
              rw [hpt] at hCj
              have hsucc := any_range_succ (C n i) j
              have hxs : m.code[j].to.steps.length ≤ 1000 := by have := (path_of hgr _ (List.getElem_mem hj')).2; omega
              simp only [VC0, VC1, VC2, VC3, VC4, VC5, VC6, VC7, VC8, reduceIte, reduceCtorEq, Nat.reduceEqDiff, Nat.reduceAdd, Nat.reduceMul, Nat.reduceBEq, Nat.reduceLT, Nat.reduceLeDiff, Int.reduceEq, Int.reduceLT, Int.reduceLE, Int.reduceNeg, Int.reduceToNat, Int.reduceAdd, Nat.reduceDiv, Nat.reduceSub, Nat.reduceMod, encL, MC0, MC1, MC2, hAl, hBl, hPl, i1, i2, k1, k2, n1, g1, hi', hk', ld_cL hiA, hAe, hz1, hz2, lo_ld hnL (j := 1) (n := 1) (agg := false) (by decide) (by decide), lo_ld0 hnL (n := 1) (agg := false) (by decide) (by decide), lo_ld0 hnL (n := 5) (agg := true) (by decide) (by decide), MLoan.call, MLoan.sokc, MLoan.snapc, MLoan.c0, MLoan.c1, hreg, hpt, fitc_ld hgP, hPrg, ld_cB hiP, hPti, ld_cL hiB, j1, j2, hj', ld_cL hjA]
              refine callX_of (has22_ret m.code[j].next i (by omega)) (.inr rfl) ?_
              cases f1 : (List.range j).any (C n i)
              · cases f2 : (m.code[j].next.any fun y => decide (y = (i : Int)))
                · simp only [VC0, VC1, VC2, VC3, VC4, VC5, VC6, VC7, VC8, reduceIte, reduceCtorEq, Nat.reduceEqDiff, Nat.reduceAdd, Nat.reduceMul, Nat.reduceBEq, Nat.reduceLT, Nat.reduceLeDiff, Int.reduceEq, Int.reduceLT, Int.reduceLE, Int.reduceNeg, Int.reduceToNat, Int.reduceAdd, Nat.reduceDiv, Nat.reduceSub, Nat.reduceMod, encL, MC0, MC1, MC2, hAl, hBl, hPl, i1, i2, k1, k2, n1, g1, hi', hk', ld_cL hiA, hAe, hz1, hz2, lo_ld hnL (j := 1) (n := 1) (agg := false) (by decide) (by decide), lo_ld0 hnL (n := 1) (agg := false) (by decide) (by decide), lo_ld0 hnL (n := 5) (agg := true) (by decide) (by decide), MLoan.call, MLoan.sokc, MLoan.snapc, MLoan.c0, MLoan.c1, hreg, hpt, fitc_ld hgP, hPrg, ld_cB hiP, hPti, ld_cL hiB, j1, j2, hj', ld_cL hjA, f1, f2]
                  exact backTo_of (j + 1, _) hj' (by simp only []; omega) (ent_of _ [] rfl rfl (by simp only [VC0, VC1, VC2, VC3, VC4, VC5, VC6, VC7, VC8, reduceIte, reduceCtorEq, Nat.reduceEqDiff, Nat.reduceAdd, Nat.reduceMul, Nat.reduceBEq, Nat.reduceLT, Nat.reduceLeDiff, Int.reduceEq, Int.reduceLT, Int.reduceLE, Int.reduceNeg, Int.reduceToNat, Int.reduceAdd, Nat.reduceDiv, Nat.reduceSub, Nat.reduceMod, encL, MC0, MC1, MC2, hAl, hBl, hPl, hsucc, hCj, f1, f2]))
                · cases f3 : decide ((u : Int) = (j : Int))
                  · simp only [VC0, VC1, VC2, VC3, VC4, VC5, VC6, VC7, VC8, reduceIte, reduceCtorEq, Nat.reduceEqDiff, Nat.reduceAdd, Nat.reduceMul, Nat.reduceBEq, Nat.reduceLT, Nat.reduceLeDiff, Int.reduceEq, Int.reduceLT, Int.reduceLE, Int.reduceNeg, Int.reduceToNat, Int.reduceAdd, Nat.reduceDiv, Nat.reduceSub, Nat.reduceMod, encL, MC0, MC1, MC2, hAl, hBl, hPl, i1, i2, k1, k2, n1, g1, hi', hk', ld_cL hiA, hAe, hz1, hz2, lo_ld hnL (j := 1) (n := 1) (agg := false) (by decide) (by decide), lo_ld0 hnL (n := 1) (agg := false) (by decide) (by decide), lo_ld0 hnL (n := 5) (agg := true) (by decide) (by decide), MLoan.call, MLoan.sokc, MLoan.snapc, MLoan.c0, MLoan.c1, hreg, hpt, fitc_ld hgP, hPrg, ld_cB hiP, hPti, ld_cL hiB, j1, j2, hj', ld_cL hjA, f1, f2, f3]
                    refine callV_of (has22_ret A[j] n (hAk j hjA)) (.inr rfl) ?_
                    cases f4 : (A[j].any fun y => decide (y = (n : Int)))
                    · simp only [VC0, VC1, VC2, VC3, VC4, VC5, VC6, VC7, VC8, reduceIte, reduceCtorEq, Nat.reduceEqDiff, Nat.reduceAdd, Nat.reduceMul, Nat.reduceBEq, Nat.reduceLT, Nat.reduceLeDiff, Int.reduceEq, Int.reduceLT, Int.reduceLE, Int.reduceNeg, Int.reduceToNat, Int.reduceAdd, Nat.reduceDiv, Nat.reduceSub, Nat.reduceMod, encL, MC0, MC1, MC2, hAl, hBl, hPl, i1, i2, k1, k2, n1, g1, hi', hk', ld_cL hiA, hAe, hz1, hz2, lo_ld hnL (j := 1) (n := 1) (agg := false) (by decide) (by decide), lo_ld0 hnL (n := 1) (agg := false) (by decide) (by decide), lo_ld0 hnL (n := 5) (agg := true) (by decide) (by decide), MLoan.call, MLoan.sokc, MLoan.snapc, MLoan.c0, MLoan.c1, hreg, hpt, fitc_ld hgP, hPrg, ld_cB hiP, hPti, ld_cL hiB, j1, j2, hj', ld_cL hjA, f1, f2, f3, f4]
                      exact backTo_of (j + 1, _) hj' (by simp only []; omega) (ent_of _ [] rfl rfl (by simp only [VC0, VC1, VC2, VC3, VC4, VC5, VC6, VC7, VC8, reduceIte, reduceCtorEq, Nat.reduceEqDiff, Nat.reduceAdd, Nat.reduceMul, Nat.reduceBEq, Nat.reduceLT, Nat.reduceLeDiff, Int.reduceEq, Int.reduceLT, Int.reduceLE, Int.reduceNeg, Int.reduceToNat, Int.reduceAdd, Nat.reduceDiv, Nat.reduceSub, Nat.reduceMod, encL, MC0, MC1, MC2, hAl, hBl, hPl, hsucc, hCj, f1, f2, f3, f4]))
                    · simp only [VC0, VC1, VC2, VC3, VC4, VC5, VC6, VC7, VC8, reduceIte, reduceCtorEq, Nat.reduceEqDiff, Nat.reduceAdd, Nat.reduceMul, Nat.reduceBEq, Nat.reduceLT, Nat.reduceLeDiff, Int.reduceEq, Int.reduceLT, Int.reduceLE, Int.reduceNeg, Int.reduceToNat, Int.reduceAdd, Nat.reduceDiv, Nat.reduceSub, Nat.reduceMod, encL, MC0, MC1, MC2, hAl, hBl, hPl, i1, i2, k1, k2, n1, g1, hi', hk', ld_cL hiA, hAe, hz1, hz2, lo_ld hnL (j := 1) (n := 1) (agg := false) (by decide) (by decide), lo_ld0 hnL (n := 1) (agg := false) (by decide) (by decide), lo_ld0 hnL (n := 5) (agg := true) (by decide) (by decide), MLoan.call, MLoan.sokc, MLoan.snapc, MLoan.c0, MLoan.c1, hreg, hpt, fitc_ld hgP, hPrg, ld_cB hiP, hPti, ld_cL hiB, j1, j2, hj', ld_cL hjA, f1, f2, f3, f4]
                      refine callV_of (ends_ret Ls[n] m.code[j] hxs) (.inr rfl) ?_
                      cases f5 : endsS Ls[n] m.code[j] <;> simp only [VC0, VC1, VC2, VC3, VC4, VC5, VC6, VC7, VC8, reduceIte, reduceCtorEq, Nat.reduceEqDiff, Nat.reduceAdd, Nat.reduceMul, Nat.reduceBEq, Nat.reduceLT, Nat.reduceLeDiff, Int.reduceEq, Int.reduceLT, Int.reduceLE, Int.reduceNeg, Int.reduceToNat, Int.reduceAdd, Nat.reduceDiv, Nat.reduceSub, Nat.reduceMod, encL, MC0, MC1, MC2, hAl, hBl, hPl, i1, i2, k1, k2, n1, g1, hi', hk', ld_cL hiA, hAe, hz1, hz2, lo_ld hnL (j := 1) (n := 1) (agg := false) (by decide) (by decide), lo_ld0 hnL (n := 1) (agg := false) (by decide) (by decide), lo_ld0 hnL (n := 5) (agg := true) (by decide) (by decide), MLoan.call, MLoan.sokc, MLoan.snapc, MLoan.c0, MLoan.c1, hreg, hpt, fitc_ld hgP, hPrg, ld_cB hiP, hPti, ld_cL hiB, j1, j2, hj', ld_cL hjA, f1, f2, f3, f4, f5]
                      · exact backTo_of (j + 1, _) hj' (by simp only []; omega) (ent_of _ [] rfl rfl (by simp only [VC0, VC1, VC2, VC3, VC4, VC5, VC6, VC7, VC8, reduceIte, reduceCtorEq, Nat.reduceEqDiff, Nat.reduceAdd, Nat.reduceMul, Nat.reduceBEq, Nat.reduceLT, Nat.reduceLeDiff, Int.reduceEq, Int.reduceLT, Int.reduceLE, Int.reduceNeg, Int.reduceToNat, Int.reduceAdd, Nat.reduceDiv, Nat.reduceSub, Nat.reduceMod, encL, MC0, MC1, MC2, hAl, hBl, hPl, hsucc, hCj, f1, f2, f3, f4, f5]))
                      · exact backTo_of (j + 1, _) hj' (by simp only []; omega) (ent_of _ [] rfl rfl (by simp only [VC0, VC1, VC2, VC3, VC4, VC5, VC6, VC7, VC8, reduceIte, reduceCtorEq, Nat.reduceEqDiff, Nat.reduceAdd, Nat.reduceMul, Nat.reduceBEq, Nat.reduceLT, Nat.reduceLeDiff, Int.reduceEq, Int.reduceLT, Int.reduceLE, Int.reduceNeg, Int.reduceToNat, Int.reduceAdd, Nat.reduceDiv, Nat.reduceSub, Nat.reduceMod, encL, MC0, MC1, MC2, hAl, hBl, hPl, hsucc, hCj, f1, f2, f3, f4, f5]))
                  · simp only [VC0, VC1, VC2, VC3, VC4, VC5, VC6, VC7, VC8, reduceIte, reduceCtorEq, Nat.reduceEqDiff, Nat.reduceAdd, Nat.reduceMul, Nat.reduceBEq, Nat.reduceLT, Nat.reduceLeDiff, Int.reduceEq, Int.reduceLT, Int.reduceLE, Int.reduceNeg, Int.reduceToNat, Int.reduceAdd, Nat.reduceDiv, Nat.reduceSub, Nat.reduceMod, encL, MC0, MC1, MC2, hAl, hBl, hPl, i1, i2, k1, k2, n1, g1, hi', hk', ld_cL hiA, hAe, hz1, hz2, lo_ld hnL (j := 1) (n := 1) (agg := false) (by decide) (by decide), lo_ld0 hnL (n := 1) (agg := false) (by decide) (by decide), lo_ld0 hnL (n := 5) (agg := true) (by decide) (by decide), MLoan.call, MLoan.sokc, MLoan.snapc, MLoan.c0, MLoan.c1, hreg, hpt, fitc_ld hgP, hPrg, ld_cB hiP, hPti, ld_cL hiB, j1, j2, hj', ld_cL hjA, f1, f2, f3]
                    exact backTo_of (j + 1, _) hj' (by simp only []; omega) (ent_of _ [] rfl rfl (by simp only [VC0, VC1, VC2, VC3, VC4, VC5, VC6, VC7, VC8, reduceIte, reduceCtorEq, Nat.reduceEqDiff, Nat.reduceAdd, Nat.reduceMul, Nat.reduceBEq, Nat.reduceLT, Nat.reduceLeDiff, Int.reduceEq, Int.reduceLT, Int.reduceLE, Int.reduceNeg, Int.reduceToNat, Int.reduceAdd, Nat.reduceDiv, Nat.reduceSub, Nat.reduceMod, encL, MC0, MC1, MC2, hAl, hBl, hPl, hsucc, hCj, f1, f2, f3]))
              · simp only [VC0, VC1, VC2, VC3, VC4, VC5, VC6, VC7, VC8, reduceIte, reduceCtorEq, Nat.reduceEqDiff, Nat.reduceAdd, Nat.reduceMul, Nat.reduceBEq, Nat.reduceLT, Nat.reduceLeDiff, Int.reduceEq, Int.reduceLT, Int.reduceLE, Int.reduceNeg, Int.reduceToNat, Int.reduceAdd, Nat.reduceDiv, Nat.reduceSub, Nat.reduceMod, encL, MC0, MC1, MC2, hAl, hBl, hPl, i1, i2, k1, k2, n1, g1, hi', hk', ld_cL hiA, hAe, hz1, hz2, lo_ld hnL (j := 1) (n := 1) (agg := false) (by decide) (by decide), lo_ld0 hnL (n := 1) (agg := false) (by decide) (by decide), lo_ld0 hnL (n := 5) (agg := true) (by decide) (by decide), MLoan.call, MLoan.sokc, MLoan.snapc, MLoan.c0, MLoan.c1, hreg, hpt, fitc_ld hgP, hPrg, ld_cB hiP, hPti, ld_cL hiB, j1, j2, hj', ld_cL hjA, f1]
                exact backTo_of (j + 1, _) hj' (by simp only []; omega) (ent_of _ [] rfl rfl (by simp only [VC0, VC1, VC2, VC3, VC4, VC5, VC6, VC7, VC8, reduceIte, reduceCtorEq, Nat.reduceEqDiff, Nat.reduceAdd, Nat.reduceMul, Nat.reduceBEq, Nat.reduceLT, Nat.reduceLeDiff, Int.reduceEq, Int.reduceLT, Int.reduceLE, Int.reduceNeg, Int.reduceToNat, Int.reduceAdd, Nat.reduceDiv, Nat.reduceSub, Nat.reduceMod, encL, MC0, MC1, MC2, hAl, hBl, hPl, hsucc, f1]))
            · have hj' : m.code.length = j := by omega
              subst hj'
              cases f1 : (List.range m.code.length).any (C n i)
              · have hlost := hFr n i hG hnL f1
                rw [hpq] at hlost
                simp only [VC0, VC1, VC2, VC3, VC4, VC5, VC6, VC7, VC8, reduceIte, reduceCtorEq, Nat.reduceEqDiff, Nat.reduceAdd, Nat.reduceMul, Nat.reduceBEq, Nat.reduceLT, Nat.reduceLeDiff, Int.reduceEq, Int.reduceLT, Int.reduceLE, Int.reduceNeg, Int.reduceToNat, Int.reduceAdd, Nat.reduceDiv, Nat.reduceSub, Nat.reduceMod, encL, MC0, MC1, MC2, hAl, hBl, hPl, i1, i2, k1, k2, n1, g1, hi', hk', ld_cL hiA, hAe, hz1, hz2, lo_ld hnL (j := 1) (n := 1) (agg := false) (by decide) (by decide), lo_ld0 hnL (n := 1) (agg := false) (by decide) (by decide), lo_ld0 hnL (n := 5) (agg := true) (by decide) (by decide), MLoan.call, MLoan.sokc, MLoan.snapc, MLoan.c0, MLoan.c1, hreg, hpt, fitc_ld hgP, hPrg, ld_cB hiP, hPti, ld_cL hiB, f1]
                refine callV_of (lost_ret m hm hmay Ls[n] hu hpt) (.inr rfl) ?_
                simp only [VC0, VC1, VC2, VC3, VC4, VC5, VC6, VC7, VC8, reduceIte, reduceCtorEq, Nat.reduceEqDiff, Nat.reduceAdd, Nat.reduceMul, Nat.reduceBEq, Nat.reduceLT, Nat.reduceLeDiff, Int.reduceEq, Int.reduceLT, Int.reduceLE, Int.reduceNeg, Int.reduceToNat, Int.reduceAdd, Nat.reduceDiv, Nat.reduceSub, Nat.reduceMod, encL, MC0, MC1, MC2, hAl, hBl, hPl, i1, i2, k1, k2, n1, g1, hi', hk', ld_cL hiA, hAe, hz1, hz2, lo_ld hnL (j := 1) (n := 1) (agg := false) (by decide) (by decide), lo_ld0 hnL (n := 1) (agg := false) (by decide) (by decide), lo_ld0 hnL (n := 5) (agg := true) (by decide) (by decide), MLoan.call, MLoan.sokc, MLoan.snapc, MLoan.c0, MLoan.c1, hreg, hpt, fitc_ld hgP, hPrg, ld_cB hiP, hPti, ld_cL hiB, decide_eq_false hlost]
                exact backTo_of (k + 1, _) hk' (by simp only []; omega) (ent_of _ [] rfl rfl (by simp only [VC0, VC1, VC2, VC3, VC4, VC5, VC6, VC7, VC8, reduceIte, reduceCtorEq, Nat.reduceEqDiff, Nat.reduceAdd, Nat.reduceMul, Nat.reduceBEq, Nat.reduceLT, Nat.reduceLeDiff, Int.reduceEq, Int.reduceLT, Int.reduceLE, Int.reduceNeg, Int.reduceToNat, Int.reduceAdd, Nat.reduceDiv, Nat.reduceSub, Nat.reduceMod, encL, MC0, MC1, MC2, hAl, hBl, hPl]))
              · simp only [VC0, VC1, VC2, VC3, VC4, VC5, VC6, VC7, VC8, reduceIte, reduceCtorEq, Nat.reduceEqDiff, Nat.reduceAdd, Nat.reduceMul, Nat.reduceBEq, Nat.reduceLT, Nat.reduceLeDiff, Int.reduceEq, Int.reduceLT, Int.reduceLE, Int.reduceNeg, Int.reduceToNat, Int.reduceAdd, Nat.reduceDiv, Nat.reduceSub, Nat.reduceMod, encL, MC0, MC1, MC2, hAl, hBl, hPl, i1, i2, k1, k2, n1, g1, hi', hk', ld_cL hiA, hAe, hz1, hz2, lo_ld hnL (j := 1) (n := 1) (agg := false) (by decide) (by decide), lo_ld0 hnL (n := 1) (agg := false) (by decide) (by decide), lo_ld0 hnL (n := 5) (agg := true) (by decide) (by decide), MLoan.call, MLoan.sokc, MLoan.snapc, MLoan.c0, MLoan.c1, hreg, hpt, fitc_ld hgP, hPrg, ld_cB hiP, hPti, ld_cL hiB, f1]
                exact backTo_of (k + 1, _) hk' (by simp only []; omega) (ent_of _ [] rfl rfl (by simp only [VC0, VC1, VC2, VC3, VC4, VC5, VC6, VC7, VC8, reduceIte, reduceCtorEq, Nat.reduceEqDiff, Nat.reduceAdd, Nat.reduceMul, Nat.reduceBEq, Nat.reduceLT, Nat.reduceLeDiff, Int.reduceEq, Int.reduceLT, Int.reduceLE, Int.reduceNeg, Int.reduceToNat, Int.reduceAdd, Nat.reduceDiv, Nat.reduceSub, Nat.reduceMod, encL, MC0, MC1, MC2, hAl, hBl, hPl]))
          · have hd := decide_eq_false hk0
            simp only [VC0, VC1, VC2, VC3, VC4, VC5, VC6, VC7, VC8, reduceIte, reduceCtorEq, Nat.reduceEqDiff, Nat.reduceAdd, Nat.reduceMul, Nat.reduceBEq, Nat.reduceLT, Nat.reduceLeDiff, Int.reduceEq, Int.reduceLT, Int.reduceLE, Int.reduceNeg, Int.reduceToNat, Int.reduceAdd, Nat.reduceDiv, Nat.reduceSub, Nat.reduceMod, encL, MC0, MC1, MC2, hAl, hBl, hPl, i1, i2, k1, k2, n1, g1, hi', hk', ld_cL hiA, hAe, hz1, hz2, lo_ld hnL (j := 1) (n := 1) (agg := false) (by decide) (by decide), lo_ld0 hnL (n := 1) (agg := false) (by decide) (by decide), lo_ld0 hnL (n := 5) (agg := true) (by decide) (by decide), MLoan.call, MLoan.sokc, MLoan.snapc, MLoan.c0, MLoan.c1, hreg, hpt, fitc_ld hgP, hPrg, ld_cB hiP, hPti, ld_cL hiB, hd]
            refine callX_of (has22_ret B[i] n (hBk i hiB)) (.inr rfl) ?_
            simp only [VC0, VC1, VC2, VC3, VC4, VC5, VC6, VC7, VC8, reduceIte, reduceCtorEq, Nat.reduceEqDiff, Nat.reduceAdd, Nat.reduceMul, Nat.reduceBEq, Nat.reduceLT, Nat.reduceLeDiff, Int.reduceEq, Int.reduceLT, Int.reduceLE, Int.reduceNeg, Int.reduceToNat, Int.reduceAdd, Nat.reduceDiv, Nat.reduceSub, Nat.reduceMod, encL, MC0, MC1, MC2, hAl, hBl, hPl, i1, i2, k1, k2, n1, g1, hi', hk', ld_cL hiA, hAe, hz1, hz2, lo_ld hnL (j := 1) (n := 1) (agg := false) (by decide) (by decide), lo_ld0 hnL (n := 1) (agg := false) (by decide) (by decide), lo_ld0 hnL (n := 5) (agg := true) (by decide) (by decide), MLoan.call, MLoan.sokc, MLoan.snapc, MLoan.c0, MLoan.c1, hreg, hpt, fitc_ld hgP, hPrg, ld_cB hiP, hPti, ld_cL hiB, hBi]
            refine loop_vcg (ι := Nat × (Nat → Nat)) (fun (j, c) => stO [(3, .box m.cells), (7, .val (encL (cL cB) P)), (11, .val (encL MLoan.cells Ls)), (12, .val (encL (cL cI) A)), (13, .val (encL (cL cI) B)), (14, .val (.int .i64 (i : Nat))), (15, .val (.int .i64 (k : Nat))), (16, .val (.int .i64 (n : Nat))), (17, .val (.bool ((List.range j).any (C n i)))), (18, .val (.int .i64 (j : Nat)))] c)
              (fun (j, _) => j ≤ m.code.length) (fun (j, _) => m.code.length - j) (0, _) (Nat.zero_le _) (ent_of _ [] rfl rfl (by simp only [VC0, VC1, VC2, VC3, VC4, VC5, VC6, VC7, VC8, reduceIte, reduceCtorEq, Nat.reduceEqDiff, Nat.reduceAdd, Nat.reduceMul, Nat.reduceBEq, Nat.reduceLT, Nat.reduceLeDiff, Int.reduceEq, Int.reduceLT, Int.reduceLE, Int.reduceNeg, Int.reduceToNat, Int.reduceAdd, Nat.reduceDiv, Nat.reduceSub, Nat.reduceMod, encL, MC0, MC1, MC2, hAl, hBl, hPl, List.range_zero, List.any_nil])) ?_
            rintro ⟨j, c⟩ hj
            have hj : j ≤ m.code.length := hj
            simp only [VC0, VC1, VC2, VC3, VC4, VC5, VC6, VC7, VC8, reduceIte, reduceCtorEq, Nat.reduceEqDiff, Nat.reduceAdd, Nat.reduceMul, Nat.reduceBEq, Nat.reduceLT, Nat.reduceLeDiff, Int.reduceEq, Int.reduceLT, Int.reduceLE, Int.reduceNeg, Int.reduceToNat, Int.reduceAdd, Nat.reduceDiv, Nat.reduceSub, Nat.reduceMod, encL, MC0, MC1, MC2, hAl, hBl, hPl]
            refine condD_of (fun h => ?_) (fun h => ?_)
            · have hj' : j < m.code.length := by omega
              have hjA : j < A.length := by omega
              have j1 : 0 ≤ (j : Int) ∧ (j : Int) < m.code.length := by omega
              have j2 : InI64 ((j : Int) + 1) := by unfold InI64; omega
              have hyl := (hg.nx _ (List.getElem_mem hj')).1
              have hCj := hC n i j hj' hnL hjA
              rw [hpt] at hCj
              have hsucc := any_range_succ (C n i) j
              have hxs : m.code[j].to.steps.length ≤ 1000 := by have := (path_of hgr _ (List.getElem_mem hj')).2; omega
              simp only [VC0, VC1, VC2, VC3, VC4, VC5, VC6, VC7, VC8, reduceIte, reduceCtorEq, Nat.reduceEqDiff, Nat.reduceAdd, Nat.reduceMul, Nat.reduceBEq, Nat.reduceLT, Nat.reduceLeDiff, Int.reduceEq, Int.reduceLT, Int.reduceLE, Int.reduceNeg, Int.reduceToNat, Int.reduceAdd, Nat.reduceDiv, Nat.reduceSub, Nat.reduceMod, encL, MC0, MC1, MC2, hAl, hBl, hPl, i1, i2, k1, k2, n1, g1, hi', hk', ld_cL hiA, hAe, hz1, hz2, lo_ld hnL (j := 1) (n := 1) (agg := false) (by decide) (by decide), lo_ld0 hnL (n := 1) (agg := false) (by decide) (by decide), lo_ld0 hnL (n := 5) (agg := true) (by decide) (by decide), MLoan.call, MLoan.sokc, MLoan.snapc, MLoan.c0, MLoan.c1, hreg, hpt, fitc_ld hgP, hPrg, ld_cB hiP, hPti, ld_cL hiB, j1, j2, hj', ld_cL hjA]
              refine callX_of (has22_ret m.code[j].next i (by omega)) (.inr rfl) ?_
              cases f1 : (List.range j).any (C n i)
              · cases f2 : (m.code[j].next.any fun y => decide (y = (i : Int)))
                · simp only [VC0, VC1, VC2, VC3, VC4, VC5, VC6, VC7, VC8, reduceIte, reduceCtorEq, Nat.reduceEqDiff, Nat.reduceAdd, Nat.reduceMul, Nat.reduceBEq, Nat.reduceLT, Nat.reduceLeDiff, Int.reduceEq, Int.reduceLT, Int.reduceLE, Int.reduceNeg, Int.reduceToNat, Int.reduceAdd, Nat.reduceDiv, Nat.reduceSub, Nat.reduceMod, encL, MC0, MC1, MC2, hAl, hBl, hPl, i1, i2, k1, k2, n1, g1, hi', hk', ld_cL hiA, hAe, hz1, hz2, lo_ld hnL (j := 1) (n := 1) (agg := false) (by decide) (by decide), lo_ld0 hnL (n := 1) (agg := false) (by decide) (by decide), lo_ld0 hnL (n := 5) (agg := true) (by decide) (by decide), MLoan.call, MLoan.sokc, MLoan.snapc, MLoan.c0, MLoan.c1, hreg, hpt, fitc_ld hgP, hPrg, ld_cB hiP, hPti, ld_cL hiB, j1, j2, hj', ld_cL hjA, f1, f2]
                  exact backTo_of (j + 1, _) hj' (by simp only []; omega) (ent_of _ [] rfl rfl (by simp only [VC0, VC1, VC2, VC3, VC4, VC5, VC6, VC7, VC8, reduceIte, reduceCtorEq, Nat.reduceEqDiff, Nat.reduceAdd, Nat.reduceMul, Nat.reduceBEq, Nat.reduceLT, Nat.reduceLeDiff, Int.reduceEq, Int.reduceLT, Int.reduceLE, Int.reduceNeg, Int.reduceToNat, Int.reduceAdd, Nat.reduceDiv, Nat.reduceSub, Nat.reduceMod, encL, MC0, MC1, MC2, hAl, hBl, hPl, hsucc, hCj, f1, f2]))
                · cases f3 : decide ((u : Int) = (j : Int))
                  · simp only [VC0, VC1, VC2, VC3, VC4, VC5, VC6, VC7, VC8, reduceIte, reduceCtorEq, Nat.reduceEqDiff, Nat.reduceAdd, Nat.reduceMul, Nat.reduceBEq, Nat.reduceLT, Nat.reduceLeDiff, Int.reduceEq, Int.reduceLT, Int.reduceLE, Int.reduceNeg, Int.reduceToNat, Int.reduceAdd, Nat.reduceDiv, Nat.reduceSub, Nat.reduceMod, encL, MC0, MC1, MC2, hAl, hBl, hPl, i1, i2, k1, k2, n1, g1, hi', hk', ld_cL hiA, hAe, hz1, hz2, lo_ld hnL (j := 1) (n := 1) (agg := false) (by decide) (by decide), lo_ld0 hnL (n := 1) (agg := false) (by decide) (by decide), lo_ld0 hnL (n := 5) (agg := true) (by decide) (by decide), MLoan.call, MLoan.sokc, MLoan.snapc, MLoan.c0, MLoan.c1, hreg, hpt, fitc_ld hgP, hPrg, ld_cB hiP, hPti, ld_cL hiB, j1, j2, hj', ld_cL hjA, f1, f2, f3]
                    refine callV_of (has22_ret A[j] n (hAk j hjA)) (.inr rfl) ?_
                    cases f4 : (A[j].any fun y => decide (y = (n : Int)))
                    · simp only [VC0, VC1, VC2, VC3, VC4, VC5, VC6, VC7, VC8, reduceIte, reduceCtorEq, Nat.reduceEqDiff, Nat.reduceAdd, Nat.reduceMul, Nat.reduceBEq, Nat.reduceLT, Nat.reduceLeDiff, Int.reduceEq, Int.reduceLT, Int.reduceLE, Int.reduceNeg, Int.reduceToNat, Int.reduceAdd, Nat.reduceDiv, Nat.reduceSub, Nat.reduceMod, encL, MC0, MC1, MC2, hAl, hBl, hPl, i1, i2, k1, k2, n1, g1, hi', hk', ld_cL hiA, hAe, hz1, hz2, lo_ld hnL (j := 1) (n := 1) (agg := false) (by decide) (by decide), lo_ld0 hnL (n := 1) (agg := false) (by decide) (by decide), lo_ld0 hnL (n := 5) (agg := true) (by decide) (by decide), MLoan.call, MLoan.sokc, MLoan.snapc, MLoan.c0, MLoan.c1, hreg, hpt, fitc_ld hgP, hPrg, ld_cB hiP, hPti, ld_cL hiB, j1, j2, hj', ld_cL hjA, f1, f2, f3, f4]
                      exact backTo_of (j + 1, _) hj' (by simp only []; omega) (ent_of _ [] rfl rfl (by simp only [VC0, VC1, VC2, VC3, VC4, VC5, VC6, VC7, VC8, reduceIte, reduceCtorEq, Nat.reduceEqDiff, Nat.reduceAdd, Nat.reduceMul, Nat.reduceBEq, Nat.reduceLT, Nat.reduceLeDiff, Int.reduceEq, Int.reduceLT, Int.reduceLE, Int.reduceNeg, Int.reduceToNat, Int.reduceAdd, Nat.reduceDiv, Nat.reduceSub, Nat.reduceMod, encL, MC0, MC1, MC2, hAl, hBl, hPl, hsucc, hCj, f1, f2, f3, f4]))
                    · simp only [VC0, VC1, VC2, VC3, VC4, VC5, VC6, VC7, VC8, reduceIte, reduceCtorEq, Nat.reduceEqDiff, Nat.reduceAdd, Nat.reduceMul, Nat.reduceBEq, Nat.reduceLT, Nat.reduceLeDiff, Int.reduceEq, Int.reduceLT, Int.reduceLE, Int.reduceNeg, Int.reduceToNat, Int.reduceAdd, Nat.reduceDiv, Nat.reduceSub, Nat.reduceMod, encL, MC0, MC1, MC2, hAl, hBl, hPl, i1, i2, k1, k2, n1, g1, hi', hk', ld_cL hiA, hAe, hz1, hz2, lo_ld hnL (j := 1) (n := 1) (agg := false) (by decide) (by decide), lo_ld0 hnL (n := 1) (agg := false) (by decide) (by decide), lo_ld0 hnL (n := 5) (agg := true) (by decide) (by decide), MLoan.call, MLoan.sokc, MLoan.snapc, MLoan.c0, MLoan.c1, hreg, hpt, fitc_ld hgP, hPrg, ld_cB hiP, hPti, ld_cL hiB, j1, j2, hj', ld_cL hjA, f1, f2, f3, f4]
                      refine callV_of (ends_ret Ls[n] m.code[j] hxs) (.inr rfl) ?_
                      cases f5 : endsS Ls[n] m.code[j] <;> simp only [VC0, VC1, VC2, VC3, VC4, VC5, VC6, VC7, VC8, reduceIte, reduceCtorEq, Nat.reduceEqDiff, Nat.reduceAdd, Nat.reduceMul, Nat.reduceBEq, Nat.reduceLT, Nat.reduceLeDiff, Int.reduceEq, Int.reduceLT, Int.reduceLE, Int.reduceNeg, Int.reduceToNat, Int.reduceAdd, Nat.reduceDiv, Nat.reduceSub, Nat.reduceMod, encL, MC0, MC1, MC2, hAl, hBl, hPl, i1, i2, k1, k2, n1, g1, hi', hk', ld_cL hiA, hAe, hz1, hz2, lo_ld hnL (j := 1) (n := 1) (agg := false) (by decide) (by decide), lo_ld0 hnL (n := 1) (agg := false) (by decide) (by decide), lo_ld0 hnL (n := 5) (agg := true) (by decide) (by decide), MLoan.call, MLoan.sokc, MLoan.snapc, MLoan.c0, MLoan.c1, hreg, hpt, fitc_ld hgP, hPrg, ld_cB hiP, hPti, ld_cL hiB, j1, j2, hj', ld_cL hjA, f1, f2, f3, f4, f5]
                      · exact backTo_of (j + 1, _) hj' (by simp only []; omega) (ent_of _ [] rfl rfl (by simp only [VC0, VC1, VC2, VC3, VC4, VC5, VC6, VC7, VC8, reduceIte, reduceCtorEq, Nat.reduceEqDiff, Nat.reduceAdd, Nat.reduceMul, Nat.reduceBEq, Nat.reduceLT, Nat.reduceLeDiff, Int.reduceEq, Int.reduceLT, Int.reduceLE, Int.reduceNeg, Int.reduceToNat, Int.reduceAdd, Nat.reduceDiv, Nat.reduceSub, Nat.reduceMod, encL, MC0, MC1, MC2, hAl, hBl, hPl, hsucc, hCj, f1, f2, f3, f4, f5]))
                      · exact backTo_of (j + 1, _) hj' (by simp only []; omega) (ent_of _ [] rfl rfl (by simp only [VC0, VC1, VC2, VC3, VC4, VC5, VC6, VC7, VC8, reduceIte, reduceCtorEq, Nat.reduceEqDiff, Nat.reduceAdd, Nat.reduceMul, Nat.reduceBEq, Nat.reduceLT, Nat.reduceLeDiff, Int.reduceEq, Int.reduceLT, Int.reduceLE, Int.reduceNeg, Int.reduceToNat, Int.reduceAdd, Nat.reduceDiv, Nat.reduceSub, Nat.reduceMod, encL, MC0, MC1, MC2, hAl, hBl, hPl, hsucc, hCj, f1, f2, f3, f4, f5]))
                  · simp only [VC0, VC1, VC2, VC3, VC4, VC5, VC6, VC7, VC8, reduceIte, reduceCtorEq, Nat.reduceEqDiff, Nat.reduceAdd, Nat.reduceMul, Nat.reduceBEq, Nat.reduceLT, Nat.reduceLeDiff, Int.reduceEq, Int.reduceLT, Int.reduceLE, Int.reduceNeg, Int.reduceToNat, Int.reduceAdd, Nat.reduceDiv, Nat.reduceSub, Nat.reduceMod, encL, MC0, MC1, MC2, hAl, hBl, hPl, i1, i2, k1, k2, n1, g1, hi', hk', ld_cL hiA, hAe, hz1, hz2, lo_ld hnL (j := 1) (n := 1) (agg := false) (by decide) (by decide), lo_ld0 hnL (n := 1) (agg := false) (by decide) (by decide), lo_ld0 hnL (n := 5) (agg := true) (by decide) (by decide), MLoan.call, MLoan.sokc, MLoan.snapc, MLoan.c0, MLoan.c1, hreg, hpt, fitc_ld hgP, hPrg, ld_cB hiP, hPti, ld_cL hiB, j1, j2, hj', ld_cL hjA, f1, f2, f3]
                    exact backTo_of (j + 1, _) hj' (by simp only []; omega) (ent_of _ [] rfl rfl (by simp only [VC0, VC1, VC2, VC3, VC4, VC5, VC6, VC7, VC8, reduceIte, reduceCtorEq, Nat.reduceEqDiff, Nat.reduceAdd, Nat.reduceMul, Nat.reduceBEq, Nat.reduceLT, Nat.reduceLeDiff, Int.reduceEq, Int.reduceLT, Int.reduceLE, Int.reduceNeg, Int.reduceToNat, Int.reduceAdd, Nat.reduceDiv, Nat.reduceSub, Nat.reduceMod, encL, MC0, MC1, MC2, hAl, hBl, hPl, hsucc, hCj, f1, f2, f3]))
              · simp only [VC0, VC1, VC2, VC3, VC4, VC5, VC6, VC7, VC8, reduceIte, reduceCtorEq, Nat.reduceEqDiff, Nat.reduceAdd, Nat.reduceMul, Nat.reduceBEq, Nat.reduceLT, Nat.reduceLeDiff, Int.reduceEq, Int.reduceLT, Int.reduceLE, Int.reduceNeg, Int.reduceToNat, Int.reduceAdd, Nat.reduceDiv, Nat.reduceSub, Nat.reduceMod, encL, MC0, MC1, MC2, hAl, hBl, hPl, i1, i2, k1, k2, n1, g1, hi', hk', ld_cL hiA, hAe, hz1, hz2, lo_ld hnL (j := 1) (n := 1) (agg := false) (by decide) (by decide), lo_ld0 hnL (n := 1) (agg := false) (by decide) (by decide), lo_ld0 hnL (n := 5) (agg := true) (by decide) (by decide), MLoan.call, MLoan.sokc, MLoan.snapc, MLoan.c0, MLoan.c1, hreg, hpt, fitc_ld hgP, hPrg, ld_cB hiP, hPti, ld_cL hiB, j1, j2, hj', ld_cL hjA, f1]
                exact backTo_of (j + 1, _) hj' (by simp only []; omega) (ent_of _ [] rfl rfl (by simp only [VC0, VC1, VC2, VC3, VC4, VC5, VC6, VC7, VC8, reduceIte, reduceCtorEq, Nat.reduceEqDiff, Nat.reduceAdd, Nat.reduceMul, Nat.reduceBEq, Nat.reduceLT, Nat.reduceLeDiff, Int.reduceEq, Int.reduceLT, Int.reduceLE, Int.reduceNeg, Int.reduceToNat, Int.reduceAdd, Nat.reduceDiv, Nat.reduceSub, Nat.reduceMod, encL, MC0, MC1, MC2, hAl, hBl, hPl, hsucc, f1]))
            · have hj' : m.code.length = j := by omega
              subst hj'
              cases f1 : (List.range m.code.length).any (C n i)
              · have hlost := hFr n i hG hnL f1
                rw [hpq] at hlost
                simp only [VC0, VC1, VC2, VC3, VC4, VC5, VC6, VC7, VC8, reduceIte, reduceCtorEq, Nat.reduceEqDiff, Nat.reduceAdd, Nat.reduceMul, Nat.reduceBEq, Nat.reduceLT, Nat.reduceLeDiff, Int.reduceEq, Int.reduceLT, Int.reduceLE, Int.reduceNeg, Int.reduceToNat, Int.reduceAdd, Nat.reduceDiv, Nat.reduceSub, Nat.reduceMod, encL, MC0, MC1, MC2, hAl, hBl, hPl, i1, i2, k1, k2, n1, g1, hi', hk', ld_cL hiA, hAe, hz1, hz2, lo_ld hnL (j := 1) (n := 1) (agg := false) (by decide) (by decide), lo_ld0 hnL (n := 1) (agg := false) (by decide) (by decide), lo_ld0 hnL (n := 5) (agg := true) (by decide) (by decide), MLoan.call, MLoan.sokc, MLoan.snapc, MLoan.c0, MLoan.c1, hreg, hpt, fitc_ld hgP, hPrg, ld_cB hiP, hPti, ld_cL hiB, f1]
                refine callV_of (lost_ret m hm hmay Ls[n] hu hpt) (.inr rfl) ?_
                simp only [VC0, VC1, VC2, VC3, VC4, VC5, VC6, VC7, VC8, reduceIte, reduceCtorEq, Nat.reduceEqDiff, Nat.reduceAdd, Nat.reduceMul, Nat.reduceBEq, Nat.reduceLT, Nat.reduceLeDiff, Int.reduceEq, Int.reduceLT, Int.reduceLE, Int.reduceNeg, Int.reduceToNat, Int.reduceAdd, Nat.reduceDiv, Nat.reduceSub, Nat.reduceMod, encL, MC0, MC1, MC2, hAl, hBl, hPl, i1, i2, k1, k2, n1, g1, hi', hk', ld_cL hiA, hAe, hz1, hz2, lo_ld hnL (j := 1) (n := 1) (agg := false) (by decide) (by decide), lo_ld0 hnL (n := 1) (agg := false) (by decide) (by decide), lo_ld0 hnL (n := 5) (agg := true) (by decide) (by decide), MLoan.call, MLoan.sokc, MLoan.snapc, MLoan.c0, MLoan.c1, hreg, hpt, fitc_ld hgP, hPrg, ld_cB hiP, hPti, ld_cL hiB, decide_eq_false hlost]
                exact backTo_of (k + 1, _) hk' (by simp only []; omega) (ent_of _ [] rfl rfl (by simp only [VC0, VC1, VC2, VC3, VC4, VC5, VC6, VC7, VC8, reduceIte, reduceCtorEq, Nat.reduceEqDiff, Nat.reduceAdd, Nat.reduceMul, Nat.reduceBEq, Nat.reduceLT, Nat.reduceLeDiff, Int.reduceEq, Int.reduceLT, Int.reduceLE, Int.reduceNeg, Int.reduceToNat, Int.reduceAdd, Nat.reduceDiv, Nat.reduceSub, Nat.reduceMod, encL, MC0, MC1, MC2, hAl, hBl, hPl]))
              · simp only [VC0, VC1, VC2, VC3, VC4, VC5, VC6, VC7, VC8, reduceIte, reduceCtorEq, Nat.reduceEqDiff, Nat.reduceAdd, Nat.reduceMul, Nat.reduceBEq, Nat.reduceLT, Nat.reduceLeDiff, Int.reduceEq, Int.reduceLT, Int.reduceLE, Int.reduceNeg, Int.reduceToNat, Int.reduceAdd, Nat.reduceDiv, Nat.reduceSub, Nat.reduceMod, encL, MC0, MC1, MC2, hAl, hBl, hPl, i1, i2, k1, k2, n1, g1, hi', hk', ld_cL hiA, hAe, hz1, hz2, lo_ld hnL (j := 1) (n := 1) (agg := false) (by decide) (by decide), lo_ld0 hnL (n := 1) (agg := false) (by decide) (by decide), lo_ld0 hnL (n := 5) (agg := true) (by decide) (by decide), MLoan.call, MLoan.sokc, MLoan.snapc, MLoan.c0, MLoan.c1, hreg, hpt, fitc_ld hgP, hPrg, ld_cB hiP, hPti, ld_cL hiB, f1]
                exact backTo_of (k + 1, _) hk' (by simp only []; omega) (ent_of _ [] rfl rfl (by simp only [VC0, VC1, VC2, VC3, VC4, VC5, VC6, VC7, VC8, reduceIte, reduceCtorEq, Nat.reduceEqDiff, Nat.reduceAdd, Nat.reduceMul, Nat.reduceBEq, Nat.reduceLT, Nat.reduceLeDiff, Int.reduceEq, Int.reduceLT, Int.reduceLE, Int.reduceNeg, Int.reduceToNat, Int.reduceAdd, Nat.reduceDiv, Nat.reduceSub, Nat.reduceMod, encL, MC0, MC1, MC2, hAl, hBl, hPl]))
        · simp only [VC0, VC1, VC2, VC3, VC4, VC5, VC6, VC7, VC8, reduceIte, reduceCtorEq, Nat.reduceEqDiff, Nat.reduceAdd, Nat.reduceMul, Nat.reduceBEq, Nat.reduceLT, Nat.reduceLeDiff, Int.reduceEq, Int.reduceLT, Int.reduceLE, Int.reduceNeg, Int.reduceToNat, Int.reduceAdd, Nat.reduceDiv, Nat.reduceSub, Nat.reduceMod, encL, MC0, MC1, MC2, hAl, hBl, hPl, i2]
          exact backTo_of (i + 1, _) hi' (by simp only []; omega) (ent_of _ [] rfl rfl (by simp only [VC0, VC1, VC2, VC3, VC4, VC5, VC6, VC7, VC8, reduceIte, reduceCtorEq, Nat.reduceEqDiff, Nat.reduceAdd, Nat.reduceMul, Nat.reduceBEq, Nat.reduceLT, Nat.reduceLeDiff, Int.reduceEq, Int.reduceLT, Int.reduceLE, Int.reduceNeg, Int.reduceToNat, Int.reduceAdd, Nat.reduceDiv, Nat.reduceSub, Nat.reduceMod, encL, MC0, MC1, MC2, hAl, hBl, hPl]))
      · simp only [VC0, VC1, VC2, VC3, VC4, VC5, VC6, VC7, VC8, reduceIte, reduceCtorEq, Nat.reduceEqDiff, Nat.reduceAdd, Nat.reduceMul, Nat.reduceBEq, Nat.reduceLT, Nat.reduceLeDiff, Int.reduceEq, Int.reduceLT, Int.reduceLE, Int.reduceNeg, Int.reduceToNat, Int.reduceAdd, Nat.reduceDiv, Nat.reduceSub, Nat.reduceMod, encL, MC0, MC1, MC2, hAl, hBl, hPl]
        have hrr := rreach_ret m hg (rsteps_ret m hg)
        have hrll : ((List.range m.code.length).map fun t => decide (0 ≤ dist0 (nx m) 0 t)).length = m.code.length := by simp
        have hrla : ∀ (t : Nat) (h : t < ((List.range m.code.length).map fun t => decide (0 ≤ dist0 (nx m) 0 t)).length), ((List.range m.code.length).map fun t => decide (0 ≤ dist0 (nx m) 0 t))[t] = decide (0 ≤ dist0 (nx m) 0 t) := fun t h => by simp
        generalize ((List.range m.code.length).map fun t => decide (0 ≤ dist0 (nx m) 0 t)) = rl at hrr hrll hrla
        refine loop_vcg (ι := Nat × (Nat → Nat)) (fun (n, c) => stO [(3, .box m.cells), (7, .val (encL (cL cB) P)), (11, .val (encL MLoan.cells Ls)), (12, .val (encL (cL cI) A)), (20, .val (.int .i64 (n : Nat)))] c)
          (fun (n, _) => n ≤ Ls.length) (fun (n, _) => Ls.length - n) (0, _) (Nat.zero_le _) (ent_of _ [] rfl rfl (by simp only [VC0, VC1, VC2, VC3, VC4, VC5, VC6, VC7, VC8, reduceIte, reduceCtorEq, Nat.reduceEqDiff, Nat.reduceAdd, Nat.reduceMul, Nat.reduceBEq, Nat.reduceLT, Nat.reduceLeDiff, Int.reduceEq, Int.reduceLT, Int.reduceLE, Int.reduceNeg, Int.reduceToNat, Int.reduceAdd, Nat.reduceDiv, Nat.reduceSub, Nat.reduceMod, encL, MC0, MC1, MC2, hAl, hBl, hPl])) ?_
        rintro ⟨n, c⟩ hn
        have hn : n ≤ Ls.length := hn
        simp only [VC0, VC1, VC2, VC3, VC4, VC5, VC6, VC7, VC8, reduceIte, reduceCtorEq, Nat.reduceEqDiff, Nat.reduceAdd, Nat.reduceMul, Nat.reduceBEq, Nat.reduceLT, Nat.reduceLeDiff, Int.reduceEq, Int.reduceLT, Int.reduceLE, Int.reduceNeg, Int.reduceToNat, Int.reduceAdd, Nat.reduceDiv, Nat.reduceSub, Nat.reduceMod, encL, MC0, MC1, MC2, hAl, hBl, hPl]
        refine condD_of (fun h => ?_) (fun h => ?_)
        · have hnL : n < Ls.length := by omega
          obtain ⟨u, g, hu, hpt, hreg, hgR, hpq⟩ := hLr n hnL
          have n1 : 0 ≤ (n : Int) ∧ (n : Int) < Ls.length := by omega
          have n2 : InI64 ((n : Int) + 1) := by unfold InI64; omega
          have u1 : 0 ≤ (u : Int) ∧ (u : Int) < m.code.length := by omega
          have g1 : 0 ≤ (g : Int) ∧ (g : Int) < R := by omega
          have hgP : g < P.length := by omega
          have hPrg := hPr g hgP
          have hyl := (hg.nx _ (List.getElem_mem hu)).1
          have hy := (hg.nx _ (List.getElem_mem hu)).2
          have hnx : nx m u = (m.code[u].next).map Int.toNat := by simp [nx, hu]
          simp only [VC0, VC1, VC2, VC3, VC4, VC5, VC6, VC7, VC8, reduceIte, reduceCtorEq, Nat.reduceEqDiff, Nat.reduceAdd, Nat.reduceMul, Nat.reduceBEq, Nat.reduceLT, Nat.reduceLeDiff, Int.reduceEq, Int.reduceLT, Int.reduceLE, Int.reduceNeg, Int.reduceToNat, Int.reduceAdd, Nat.reduceDiv, Nat.reduceSub, Nat.reduceMod, encL, MC0, MC1, MC2, hAl, hBl, hPl, n1, n2, u1, hu, lo_ld0 hnL (n := 1) (agg := false) (by decide) (by decide), MLoan.c0, hpt]
          refine loop_vcg (ι := Nat × (Nat → Nat)) (fun (k, c) => stO [(3, .box m.cells), (7, .val (encL (cL cB) P)), (11, .val (encL MLoan.cells Ls)), (12, .val (encL (cL cI) A)), (20, .val (.int .i64 (n : Nat))), (21, .val (encL cI m.code[u].next)), (22, .val (.int .i64 (k : Nat)))] c)
            (fun (k, _) => k ≤ m.code[u].next.length) (fun (k, _) => m.code[u].next.length - k) (0, _) (Nat.zero_le _) (ent_of _ [] rfl rfl (by simp only [VC0, VC1, VC2, VC3, VC4, VC5, VC6, VC7, VC8, reduceIte, reduceCtorEq, Nat.reduceEqDiff, Nat.reduceAdd, Nat.reduceMul, Nat.reduceBEq, Nat.reduceLT, Nat.reduceLeDiff, Int.reduceEq, Int.reduceLT, Int.reduceLE, Int.reduceNeg, Int.reduceToNat, Int.reduceAdd, Nat.reduceDiv, Nat.reduceSub, Nat.reduceMod, encL, MC0, MC1, MC2, hAl, hBl, hPl])) ?_
          rintro ⟨k, c⟩ hk
          have hk : k ≤ m.code[u].next.length := hk
          simp only [VC0, VC1, VC2, VC3, VC4, VC5, VC6, VC7, VC8, reduceIte, reduceCtorEq, Nat.reduceEqDiff, Nat.reduceAdd, Nat.reduceMul, Nat.reduceBEq, Nat.reduceLT, Nat.reduceLeDiff, Int.reduceEq, Int.reduceLT, Int.reduceLE, Int.reduceNeg, Int.reduceToNat, Int.reduceAdd, Nat.reduceDiv, Nat.reduceSub, Nat.reduceMod, encL, MC0, MC1, MC2, hAl, hBl, hPl]
          refine condD_of (fun h => ?_) (fun h => ?_)
          · have hk' : k < m.code[u].next.length := by omega
            have k1 : 0 ≤ (k : Int) ∧ (k : Int) < m.code[u].next.length := by omega
            have k2 : InI64 ((k : Int) + 1) := by unfold InI64; omega
            obtain ⟨j, hj⟩ : ∃ j : Nat, m.code[u].next[k] = (j : Int) := ⟨(m.code[u].next[k]).toNat, by have := hy _ (List.getElem_mem hk'); omega⟩
            have hjN : j < m.code.length := by have := hy _ (List.getElem_mem hk'); omega
            have hjA : j < A.length := by omega
            have j1 : 0 ≤ (j : Int) ∧ (j : Int) < m.code.length := by omega
            have hjP : j < P[g].length := by omega
            have hjr : j < rl.length := by omega
            have hjm : j ∈ nx m u := by
              rw [hnx]
              exact List.mem_map.2 ⟨_, List.getElem_mem hk', by rw [hj]; rfl⟩
            have hSj := hSd n u g j hnL hgP hjP hreg hpq hjm
            simp only [VC0, VC1, VC2, VC3, VC4, VC5, VC6, VC7, VC8, reduceIte, reduceCtorEq, Nat.reduceEqDiff, Nat.reduceAdd, Nat.reduceMul, Nat.reduceBEq, Nat.reduceLT, Nat.reduceLeDiff, Int.reduceEq, Int.reduceLT, Int.reduceLE, Int.reduceNeg, Int.reduceToNat, Int.reduceAdd, Nat.reduceDiv, Nat.reduceSub, Nat.reduceMod, encL, MC0, MC1, MC2, hAl, hBl, hPl, n1, g1, k1, k2, j1, hk', hjN, hj, lo_ld hnL (j := 1) (n := 1) (agg := false) (by decide) (by decide), MLoan.c1, hreg, fitc_ld hgP, hPrg, ld_cB hjP]
            cases b1 : P[g][j]
            · simp only [VC0, VC1, VC2, VC3, VC4, VC5, VC6, VC7, VC8, reduceIte, reduceCtorEq, Nat.reduceEqDiff, Nat.reduceAdd, Nat.reduceMul, Nat.reduceBEq, Nat.reduceLT, Nat.reduceLeDiff, Int.reduceEq, Int.reduceLT, Int.reduceLE, Int.reduceNeg, Int.reduceToNat, Int.reduceAdd, Nat.reduceDiv, Nat.reduceSub, Nat.reduceMod, encL, MC0, MC1, MC2, hAl, hBl, hPl, n1, g1, k1, k2, j1, hk', hjN, hj, lo_ld hnL (j := 1) (n := 1) (agg := false) (by decide) (by decide), MLoan.c1, hreg, fitc_ld hgP, hPrg, ld_cB hjP, b1]
              exact backTo_of (k + 1, _) hk' (by simp only []; omega) (ent_of _ [] rfl rfl (by simp only [VC0, VC1, VC2, VC3, VC4, VC5, VC6, VC7, VC8, reduceIte, reduceCtorEq, Nat.reduceEqDiff, Nat.reduceAdd, Nat.reduceMul, Nat.reduceBEq, Nat.reduceLT, Nat.reduceLeDiff, Int.reduceEq, Int.reduceLT, Int.reduceLE, Int.reduceNeg, Int.reduceToNat, Int.reduceAdd, Nat.reduceDiv, Nat.reduceSub, Nat.reduceMod, encL, MC0, MC1, MC2, hAl, hBl, hPl]))
            · simp only [VC0, VC1, VC2, VC3, VC4, VC5, VC6, VC7, VC8, reduceIte, reduceCtorEq, Nat.reduceEqDiff, Nat.reduceAdd, Nat.reduceMul, Nat.reduceBEq, Nat.reduceLT, Nat.reduceLeDiff, Int.reduceEq, Int.reduceLT, Int.reduceLE, Int.reduceNeg, Int.reduceToNat, Int.reduceAdd, Nat.reduceDiv, Nat.reduceSub, Nat.reduceMod, encL, MC0, MC1, MC2, hAl, hBl, hPl, n1, g1, k1, k2, j1, hk', hjN, hj, lo_ld hnL (j := 1) (n := 1) (agg := false) (by decide) (by decide), MLoan.c1, hreg, fitc_ld hgP, hPrg, ld_cB hjP, b1]
              refine callV_of hrr (.inl rfl) ?_
              simp only [VC0, VC1, VC2, VC3, VC4, VC5, VC6, VC7, VC8, reduceIte, reduceCtorEq, Nat.reduceEqDiff, Nat.reduceAdd, Nat.reduceMul, Nat.reduceBEq, Nat.reduceLT, Nat.reduceLeDiff, Int.reduceEq, Int.reduceLT, Int.reduceLE, Int.reduceNeg, Int.reduceToNat, Int.reduceAdd, Nat.reduceDiv, Nat.reduceSub, Nat.reduceMod, encL, MC0, MC1, MC2, hAl, hBl, hPl, n1, g1, k1, k2, j1, hk', hjN, hj, lo_ld hnL (j := 1) (n := 1) (agg := false) (by decide) (by decide), MLoan.c1, hreg, fitc_ld hgP, hPrg, ld_cB hjP, hrll, ld_cB hjr, hrla j hjr, b1]
              cases b2 : decide (0 ≤ dist0 (nx m) 0 j)
              · simp only [VC0, VC1, VC2, VC3, VC4, VC5, VC6, VC7, VC8, reduceIte, reduceCtorEq, Nat.reduceEqDiff, Nat.reduceAdd, Nat.reduceMul, Nat.reduceBEq, Nat.reduceLT, Nat.reduceLeDiff, Int.reduceEq, Int.reduceLT, Int.reduceLE, Int.reduceNeg, Int.reduceToNat, Int.reduceAdd, Nat.reduceDiv, Nat.reduceSub, Nat.reduceMod, encL, MC0, MC1, MC2, hAl, hBl, hPl, n1, g1, k1, k2, j1, hk', hjN, hj, lo_ld hnL (j := 1) (n := 1) (agg := false) (by decide) (by decide), MLoan.c1, hreg, fitc_ld hgP, hPrg, ld_cB hjP, hrll, ld_cB hjr, hrla j hjr, b1, b2]
                exact backTo_of (k + 1, _) hk' (by simp only []; omega) (ent_of _ [] rfl rfl (by simp only [VC0, VC1, VC2, VC3, VC4, VC5, VC6, VC7, VC8, reduceIte, reduceCtorEq, Nat.reduceEqDiff, Nat.reduceAdd, Nat.reduceMul, Nat.reduceBEq, Nat.reduceLT, Nat.reduceLeDiff, Int.reduceEq, Int.reduceLT, Int.reduceLE, Int.reduceNeg, Int.reduceToNat, Int.reduceAdd, Nat.reduceDiv, Nat.reduceSub, Nat.reduceMod, encL, MC0, MC1, MC2, hAl, hBl, hPl]))
              · simp only [VC0, VC1, VC2, VC3, VC4, VC5, VC6, VC7, VC8, reduceIte, reduceCtorEq, Nat.reduceEqDiff, Nat.reduceAdd, Nat.reduceMul, Nat.reduceBEq, Nat.reduceLT, Nat.reduceLeDiff, Int.reduceEq, Int.reduceLT, Int.reduceLE, Int.reduceNeg, Int.reduceToNat, Int.reduceAdd, Nat.reduceDiv, Nat.reduceSub, Nat.reduceMod, encL, MC0, MC1, MC2, hAl, hBl, hPl, n1, g1, k1, k2, j1, hk', hjN, hj, lo_ld hnL (j := 1) (n := 1) (agg := false) (by decide) (by decide), MLoan.c1, hreg, fitc_ld hgP, hPrg, ld_cB hjP, hrll, ld_cB hjr, hrla j hjr, b1, b2, ld_cL hjA]
                refine callV_of (has22_ret A[j] n (hAk j hjA)) (.inr rfl) ?_
                have b3 := (hAa j n hjA).2 ⟨hnL, hSj b1 (of_decide_eq_true b2)⟩
                simp only [VC0, VC1, VC2, VC3, VC4, VC5, VC6, VC7, VC8, reduceIte, reduceCtorEq, Nat.reduceEqDiff, Nat.reduceAdd, Nat.reduceMul, Nat.reduceBEq, Nat.reduceLT, Nat.reduceLeDiff, Int.reduceEq, Int.reduceLT, Int.reduceLE, Int.reduceNeg, Int.reduceToNat, Int.reduceAdd, Nat.reduceDiv, Nat.reduceSub, Nat.reduceMod, encL, MC0, MC1, MC2, hAl, hBl, hPl, n1, g1, k1, k2, j1, hk', hjN, hj, lo_ld hnL (j := 1) (n := 1) (agg := false) (by decide) (by decide), MLoan.c1, hreg, fitc_ld hgP, hPrg, ld_cB hjP, hrll, ld_cB hjr, hrla j hjr, b1, b2, b3]
                exact backTo_of (k + 1, _) hk' (by simp only []; omega) (ent_of _ [] rfl rfl (by simp only [VC0, VC1, VC2, VC3, VC4, VC5, VC6, VC7, VC8, reduceIte, reduceCtorEq, Nat.reduceEqDiff, Nat.reduceAdd, Nat.reduceMul, Nat.reduceBEq, Nat.reduceLT, Nat.reduceLeDiff, Int.reduceEq, Int.reduceLT, Int.reduceLE, Int.reduceNeg, Int.reduceToNat, Int.reduceAdd, Nat.reduceDiv, Nat.reduceSub, Nat.reduceMod, encL, MC0, MC1, MC2, hAl, hBl, hPl]))
          · simp only [VC0, VC1, VC2, VC3, VC4, VC5, VC6, VC7, VC8, reduceIte, reduceCtorEq, Nat.reduceEqDiff, Nat.reduceAdd, Nat.reduceMul, Nat.reduceBEq, Nat.reduceLT, Nat.reduceLeDiff, Int.reduceEq, Int.reduceLT, Int.reduceLE, Int.reduceNeg, Int.reduceToNat, Int.reduceAdd, Nat.reduceDiv, Nat.reduceSub, Nat.reduceMod, encL, MC0, MC1, MC2, hAl, hBl, hPl, n2]
            exact backTo_of (n + 1, _) hnL (by simp only []; omega) (ent_of _ [] rfl rfl (by simp only [VC0, VC1, VC2, VC3, VC4, VC5, VC6, VC7, VC8, reduceIte, reduceCtorEq, Nat.reduceEqDiff, Nat.reduceAdd, Nat.reduceMul, Nat.reduceBEq, Nat.reduceLT, Nat.reduceLeDiff, Int.reduceEq, Int.reduceLT, Int.reduceLE, Int.reduceNeg, Int.reduceToNat, Int.reduceAdd, Nat.reduceDiv, Nat.reduceSub, Nat.reduceMod, encL, MC0, MC1, MC2, hAl, hBl, hPl]))
        · simp only [VC0, VC1, VC2, VC3, VC4, VC5, VC6, VC7, VC8, reduceIte, reduceCtorEq, Nat.reduceEqDiff, Nat.reduceAdd, Nat.reduceMul, Nat.reduceBEq, Nat.reduceLT, Nat.reduceLeDiff, Int.reduceEq, Int.reduceLT, Int.reduceLE, Int.reduceNeg, Int.reduceToNat, Int.reduceAdd, Nat.reduceDiv, Nat.reduceSub, Nat.reduceMod, encL, MC0, MC1, MC2, hAl, hBl, hPl]
          refine callX_of told22_ret (.inr rfl) ?_
          simp only [VC0, VC1, VC2, VC3, VC4, VC5, VC6, VC7, VC8, reduceIte, reduceCtorEq, Nat.reduceEqDiff, Nat.reduceAdd, Nat.reduceMul, Nat.reduceBEq, Nat.reduceLT, Nat.reduceLeDiff, Int.reduceEq, Int.reduceLT, Int.reduceLE, Int.reduceNeg, Int.reduceToNat, Int.reduceAdd, Nat.reduceDiv, Nat.reduceSub, Nat.reduceMod, encL, MC0, MC1, MC2]
end Go.Proofs.Ytobhpkagbmadlaa
