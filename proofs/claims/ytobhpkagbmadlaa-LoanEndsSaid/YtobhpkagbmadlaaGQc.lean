/-
  Texts Cu5, Cu6 of this claim, put together.
-/
import Derived.Test.YtobhpkagbmadlaaGQb
import Derived.Test.YtobhpkagbmadlaaGI
import Derived.Test.YtobhpkagbmadlaaGH
import Derived.Test.YtobhpkagbmadlaaGFn
/-
  What the law's told() tells of a few.
-/
set_option linter.unusedSimpArgs false
set_option linter.unusedVariables false
namespace Go.Proofs.Ytobhpkagbmadlaa
open Go Go.Lg Go.RowKit
set_option maxRecDepth 20000
set_option linter.unusedVariables false
set_option linter.unusedSimpArgs false

def tX : MInst := ⟨1, 0, true, ⟨1, []⟩, { v0 with kind := 2, path := ⟨2, []⟩ }, [1]⟩
def tY : MInst := ⟨1, 0, true, ⟨2, []⟩, { v0 with kind := 1, a := ⟨1, 0, p0⟩ }, [2]⟩
def tE : MInst := ⟨6, 0, false, p0, v0, []⟩
def tL : MLoan := ⟨0, 0, false, ⟨2, []⟩⟩
def tM : Mir := ⟨0, 0, 1, [], [⟨noS, .mk 0 noS [] [], false⟩, ⟨noS, .mk 0 noS [] [], false⟩, ⟨noS, .mk 0 noS [] [], false⟩], [tX, tY, tE]⟩
theorem tM_ok : tM.ok := by
  simp [tM, tX, tY, tE, Mir.ok, MInst.ok, MVal.ok, MOper.ok, MPath.ok, MLocal.ok, RT.ok, RT.okL, v0, o0, p0, noS_size, InI64, maxLen_eq]
theorem tM_may : mayB tM = true := by decide
theorem tM_great : greatB tM = false := by decide
theorem tM_loans : loansOf tM = [tL] := rfl
theorem tM_ends : endsP tM (loansOf tM) 0 1 = true := by rw [tM_loans]; decide
theorem tM_goes {k p : Nat} (h : Goes (nx tM) (ptP (loansOf tM)) (okP [[false, true, true]] (loansOf tM)) (endsP tM (loansOf tM)) (loansOf tM).length k p) : k = 0 ∧ p = 1 := by
  induction h with
  | seed p hk hp hok =>
    have hk : k < 1 := hk
    obtain rfl : k = 0 := by omega
    have hp : p ∈ [1] := hp
    exact ⟨rfl, List.mem_singleton.1 hp⟩
  | step p q _ he _ _ ih =>
    obtain ⟨h1, h2⟩ := ih
    subst h1 h2
    rw [tM_ends] at he; cases he
theorem tM_in : inL tM [[false, true, true]] = [[], [0], []] := by
  have hg : GoesL tM [[false, true, true]] 0 1 := by
    refine ⟨.seed 0 1 ?_ ?_ ?_, least_nonneg.2 ⟨1, ?_⟩⟩
    · rw [tM_loans]; decide
    · rw [tM_loans]; decide
    · rw [tM_loans]; decide
    · exact ⟨0, rfl, by decide⟩
  have hn : ∀ k p, GoesL tM [[false, true, true]] k p → k = 0 ∧ p = 1 := fun k p h => tM_goes h.1
  have e : ∀ p, p ≠ 1 → inS (GoesL tM [[false, true, true]]) (loansOf tM).length p = [] := fun p hp => by
    refine rise_uniq (inS_rise _ _ _) List.Pairwise.nil fun x => ?_
    rw [mem_inS]
    constructor
    · rintro ⟨k, _, _, h⟩; exact absurd (hn k p h).2 hp
    · intro h; cases h
  have e1 : inS (GoesL tM [[false, true, true]]) (loansOf tM).length 1 = [0] := by
    refine rise_uniq (inS_rise _ _ _) (by simp) fun x => ?_
    rw [mem_inS, List.mem_singleton]
    constructor
    · rintro ⟨k, rfl, _, h⟩; rw [(hn k 1 h).1]; rfl
    · rintro rfl; exact ⟨0, rfl, by rw [tM_loans]; decide, hg⟩
  show [inS (GoesL tM [[false, true, true]]) (loansOf tM).length 0, inS (GoesL tM [[false, true, true]]) (loansOf tM).length 1, inS (GoesL tM [[false, true, true]]) (loansOf tM).length 2] = _
  rw [e 0 (by decide), e 2 (by decide), e1]

set_option maxHeartbeats 2000000 in
theorem told22_ret : PRet Try.prog 26 [] (.bool true) := by
  have htk := taken_ret tM tM_ok tM_great
  have hin := in_ret tM tM_ok tM_great tM_may [[false, true, true]] (by decide) (by decide)
  have he1 := ends_ret tL tY (by decide)
  have he2 := ends_ret tL tX (by decide)
  rw [show endsS tL tY = true by decide] at he1
  rw [show endsS tL tX = false by decide] at he2
  rw [if_pos tM_may, tM_loans] at htk
  rw [tM_in] at hin
  refine pret_intro fd26 (by simp) ?_
  simp only [lc26, VC0, VC1, VC2, VC3, VC4, VC5, VC6, VC7, VC8, reduceIte, reduceCtorEq, Nat.reduceEqDiff, Nat.reduceAdd, Nat.reduceMul, Nat.reduceBEq, Nat.reduceLT, Nat.reduceLeDiff, Int.reduceEq, Int.reduceLT, Int.reduceLE, Int.reduceNeg, Int.reduceToNat, Int.reduceAdd, Nat.reduceDiv, Nat.reduceSub, Nat.reduceMod, encL, MC0, MC1, MC2, setCells, List.take_succ_cons, List.take_zero, List.take_nil, List.drop_succ_cons, List.drop_zero, List.drop_nil, ldV]
  refine callX_of (htk.nz 5 ?_) (.inl rfl) ?_
  · simp [nz, Mir.cells, MInst.cells, MLocal.cells, tM, tX, tY, tE, encL, cI, cS, v0, o0, p0, noS, RT.kind, RT.name, RT.regions, RT.elem]
  simp only [VC0, VC1, VC2, VC3, VC4, VC5, VC6, VC7, VC8, reduceIte, reduceCtorEq, Nat.reduceEqDiff, Nat.reduceAdd, Nat.reduceMul, Nat.reduceBEq, Nat.reduceLT, Nat.reduceLeDiff, Int.reduceEq, Int.reduceLT, Int.reduceLE, Int.reduceNeg, Int.reduceToNat, Int.reduceAdd, Nat.reduceDiv, Nat.reduceSub, Nat.reduceMod, encL, MC0, MC1, MC2, setCells, List.take_succ_cons, List.take_zero, List.take_nil, List.drop_succ_cons, List.drop_zero, List.drop_nil, ldV, encLL, cL, List.flatMap_cons, List.flatMap_nil, cI, cB, List.getElem?_cons_zero, Int.natCast_one, Int.cast_ofNat_Int]
  refine callX_of (hin.nz 5 ?_) (.inl rfl) ?_
  · simp [nz, Mir.cells, MInst.cells, MLocal.cells, tM, tX, tY, tE, encL, cI, cS, cL, cB, v0, o0, p0, noS, RT.kind, RT.name, RT.regions, RT.elem]
  simp only [VC0, VC1, VC2, VC3, VC4, VC5, VC6, VC7, VC8, reduceIte, reduceCtorEq, Nat.reduceEqDiff, Nat.reduceAdd, Nat.reduceMul, Nat.reduceBEq, Nat.reduceLT, Nat.reduceLeDiff, Int.reduceEq, Int.reduceLT, Int.reduceLE, Int.reduceNeg, Int.reduceToNat, Int.reduceAdd, Nat.reduceDiv, Nat.reduceSub, Nat.reduceMod, encL, MC0, MC1, MC2, setCells, List.take_succ_cons, List.take_zero, List.take_nil, List.drop_succ_cons, List.drop_zero, List.drop_nil, ldV, encLL, cL, List.flatMap_cons, List.flatMap_nil, cI, cB, List.getElem?_cons_zero, List.getElem?_cons_succ, Int.natCast_one, Int.cast_ofNat_Int, MLoan.cells, tL, List.cons_append, List.nil_append]
  refine callV_of (he1.nz 5 ?_) (.inl rfl) ?_
  · simp [nz, MInst.cells, MLoan.cells, tL, tX, tY, tE, encL, cI, cS, cL, cB, v0, o0, p0, noS]
  simp only [VC0, VC1, VC2, VC3, VC4, VC5, VC6, VC7, VC8, reduceIte, reduceCtorEq, Nat.reduceEqDiff, Nat.reduceAdd, Nat.reduceMul, Nat.reduceBEq, Nat.reduceLT, Nat.reduceLeDiff, Int.reduceEq, Int.reduceLT, Int.reduceLE, Int.reduceNeg, Int.reduceToNat, Int.reduceAdd, Nat.reduceDiv, Nat.reduceSub, Nat.reduceMod, encL, MC0, MC1, MC2, setCells, List.take_succ_cons, List.take_zero, List.take_nil, List.drop_succ_cons, List.drop_zero, List.drop_nil, ldV, encLL, cL, List.flatMap_cons, List.flatMap_nil, cI, cB, List.getElem?_cons_zero, List.getElem?_cons_succ, Int.natCast_one, Int.cast_ofNat_Int, MLoan.cells, tL, List.cons_append, List.nil_append]
  refine callV_of (he2.nz 5 ?_) (.inl rfl) ?_
  · simp [nz, MInst.cells, MLoan.cells, tL, tX, tY, tE, encL, cI, cS, cL, cB, v0, o0, p0, noS]
  simp only [VC0, VC1, VC2, VC3, VC4, VC5, VC6, VC7, VC8, reduceIte, reduceCtorEq, Nat.reduceEqDiff, Nat.reduceAdd, Nat.reduceMul, Nat.reduceBEq, Nat.reduceLT, Nat.reduceLeDiff, Int.reduceEq, Int.reduceLT, Int.reduceLE, Int.reduceNeg, Int.reduceToNat, Int.reduceAdd, Nat.reduceDiv, Nat.reduceSub, Nat.reduceMod, encL, MC0, MC1, MC2, setCells, List.take_succ_cons, List.take_zero, List.take_nil, List.drop_succ_cons, List.drop_zero, List.drop_nil, ldV, encLL, cL, List.flatMap_cons, List.flatMap_nil, cI, cB, List.getElem?_cons_zero, List.getElem?_cons_succ, Int.natCast_one, Int.cast_ofNat_Int, MLoan.cells, tL, List.cons_append, List.nil_append]
  refine callV_of (ints_ret [0] [0] (by decide)) (.inr rfl) ?_
  simp only [VC0, VC1, VC2, VC3, VC4, VC5, VC6, VC7, VC8, reduceIte, reduceCtorEq, Nat.reduceEqDiff, Nat.reduceAdd, Nat.reduceMul, Nat.reduceBEq, Nat.reduceLT, Nat.reduceLeDiff, Int.reduceEq, Int.reduceLT, Int.reduceLE, Int.reduceNeg, Int.reduceToNat, Int.reduceAdd, Nat.reduceDiv, Nat.reduceSub, Nat.reduceMod, encL, MC0, MC1, MC2, setCells, List.take_succ_cons, List.take_zero, List.take_nil, List.drop_succ_cons, List.drop_zero, List.drop_nil, ldV, encLL, cL, List.flatMap_cons, List.flatMap_nil, cI, cB, List.getElem?_cons_zero, List.getElem?_cons_succ, Int.natCast_one, Int.cast_ofNat_Int, MLoan.cells, tL, List.cons_append, List.nil_append]
end Go.Proofs.Ytobhpkagbmadlaa

/-
  LoanEnds: the law's function returns true.
-/
set_option linter.unusedSimpArgs false
set_option linter.unusedVariables false
namespace Go.Proofs.Ytobhpkagbmadlaa
open Go Go.Lg Go.RowKit
set_option linter.unusedVariables false
set_option linter.unusedSimpArgs false

theorem loan_reg {m : Mir} (hmay : mayB m = true) {n : Nat} (hn : n < (loansOf m).length) : ∃ (u : Nat) (hu : u < m.code.length) (g : Nat), (loansOf m)[n] = loanAt u m.code[u] ∧ (loansOf m)[n].pt = (u : Int) ∧ (loansOf m)[n].reg = (g : Int) ∧ g < m.regions.toNat ∧ ptP (loansOf m) n = u := by
  obtain ⟨u, hu, hlu, htk⟩ := loans_at m.code 0 _ (List.getElem_mem hn)
  rw [Nat.zero_add] at hlu
  have hrg := region_of hmay (List.getElem_mem hu) htk
  refine ⟨u, hu, (loansOf m)[n].reg.toNat, hlu, by rw [hlu]; rfl, by rw [hlu]; simp only [loanAt]; omega, by rw [hlu]; simp only [loanAt]; omega, ?_⟩
  simp only [ptP, List.getD_eq_getElem?_getD, List.getElem?_eq_getElem hn, Option.getD_some]
  rw [hlu]; rfl
theorem okP_of {pts : List (List Bool)} {Ls : List MLoan} {n g p : Nat} (hn : n < Ls.length) (hg : Ls[n].reg = (g : Int)) : okP pts Ls n p = (decide (g < pts.length) && (decide (p < (pts.getD g []).length) && (pts.getD g []).getD p false)) := by
  simp only [okP, List.getD_eq_getElem?_getD, List.getElem?_eq_getElem hn, Option.getD_some, hg, Int.toNat_natCast, Int.ofNat_lt]
theorem fit_at {N : Nat} {bits : List Bool} {R g p : Nat} (hg : g < R) (hp : p < N) : ((fitRows N bits R).getD g []).getD p false = bits.getD (g * N + p) false := by
  have h1 : (fitRows N bits R).getD g [] = fitRow N bits g := by simp [fitRows, hg]
  rw [h1]; simp [fitRow, hp]
theorem okP_fit {N : Nat} {bits : List Bool} {R : Nat} {Ls : List MLoan} {n g p : Nat} (hn : n < Ls.length) (hg : Ls[n].reg = (g : Int)) : okP (fitRows N bits R) Ls n p = true ↔ g < R ∧ p < N ∧ bits.getD (g * N + p) false = true := by
  rw [okP_of hn hg]
  simp only [Bool.and_eq_true, decide_eq_true_eq, fitRows_len]
  constructor
  · rintro ⟨h1, h2, h3⟩
    have hr : (fitRows N bits R).getD g [] = fitRow N bits g := by simp [fitRows, h1]
    rw [hr, fitRow_len] at h2
    rw [fit_at h1 h2] at h3
    exact ⟨h1, h2, h3⟩
  · rintro ⟨h1, h2, h3⟩
    have hr : (fitRows N bits R).getD g [] = fitRow N bits g := by simp [fitRows, h1]
    refine ⟨h1, ?_, ?_⟩
    · rw [hr, fitRow_len]; exact h2
    · rw [fit_at h1 h2]; exact h3
theorem any_inS {P : Nat → Nat → Prop} {L p n : Nat} : ((inS P L p).any fun y => decide (y = (n : Int))) = true ↔ n < L ∧ P n p := by
  rw [List.any_eq_true]
  constructor
  · rintro ⟨x, hx, e⟩
    obtain ⟨k, rfl, h1, h2⟩ := (mem_inS x).1 hx
    have : k = n := by have := of_decide_eq_true e; omega
    subst this
    exact ⟨h1, h2⟩
  · rintro ⟨h1, h2⟩
    exact ⟨(n : Int), (mem_inS _).2 ⟨n, rfl, h1, h2⟩, decide_eq_true rfl⟩
theorem reach_step {g : Nat → List Nat} {u v : Nat} (h : 0 ≤ dist0 g 0 u) (hv : v ∈ g u) : 0 ≤ dist0 g 0 v := by
  obtain ⟨d, hd⟩ := least_nonneg.1 h
  exact least_nonneg.2 ⟨d + 1, u, hd, hv⟩

/-- Nowhere. -/
theorem inL_none {m : Mir} (hmay : mayB m = true) {N R : Nat} {i : Nat} (h : i < (inL m (fitRows N [] R)).length) : (inL m (fitRows N [] R))[i] = [] := by
  unfold inL at h ⊢
  rw [inR_at]
  refine rise_uniq (inS_rise _ _ _) List.Pairwise.nil fun x => ?_
  rw [mem_inS]
  constructor
  · rintro ⟨k, _, hk, hG, _⟩
    obtain ⟨u, hu, g, _, _, hg, _⟩ := loan_reg hmay hk
    have := (okP_fit hk hg).1 hG.okd
    simp at this
  · intro h; cases h
/-- Everywhere. -/
theorem all_step {m : Mir} (hmay : mayB m = true) {n i j : Nat} (hn : n < (loansOf m).length) (hi : i < m.code.length) (hj : j ∈ nx m i) (hjN : j < m.code.length)
    (h : GoesL m (fitRows m.code.length (List.replicate (m.regions.toNat * m.code.length) true) m.regions.toNat) n i) (he : endsS (loansOf m)[n] m.code[i] = false) : GoesL m (fitRows m.code.length (List.replicate (m.regions.toNat * m.code.length) true) m.regions.toNat) n j := by
  obtain ⟨u, hu, g, _, _, hg, hgR, _⟩ := loan_reg hmay hn
  refine ⟨.step n i j h.1 ?_ hj ?_, reach_step h.2 hj⟩
  · simp only [endsP, List.getElem?_eq_getElem hi, List.getD_eq_getElem?_getD, List.getElem?_eq_getElem hn, Option.getD_some]; exact he
  · refine (okP_fit hn hg).2 ⟨hgR, hjN, ?_⟩
    have h1 : (g + 1) * m.code.length ≤ m.regions.toNat * m.code.length := Nat.mul_le_mul_right _ hgR
    rw [Nat.add_mul, Nat.one_mul] at h1
    have h2 : g * m.code.length + j < m.regions.toNat * m.code.length := by omega
    rw [List.getD_eq_getElem?_getD, List.getElem?_replicate, if_pos h2]; rfl

theorem nz0 (cs : List V) : cs.map (nz 0) = cs := (List.map_congr_left fun _ _ => rfl).trans (List.map_id _)
/-- A row of so many that are true. -/
def trueP (n k : Nat) : List Bool := List.replicate k true ++ List.replicate (n - k) false
theorem trueP_len {n k : Nat} (h : k ≤ n) : (trueP n k).length = n := by simp [trueP]; omega
theorem trueP_zero (n : Nat) : trueP n 0 = List.replicate n false := by simp [trueP]
theorem trueP_full (n : Nat) : trueP n n = List.replicate n true := by simp [trueP]
theorem trueP_succ {n k : Nat} (h : k < n) : (trueP n k).set k true = trueP n (k + 1) := by
  unfold trueP
  rw [List.set_append_right _ _ (by simp), List.length_replicate, Nat.sub_self, show n - k = (n - (k + 1)) + 1 by omega, List.replicate_succ, List.set_cons_zero, List.replicate_succ']
  simp

set_option maxHeartbeats 2000000 in
theorem loanEnds_ret (m : Mir) (hm : m.ok) : PRet Try.prog 7 [.agg m.cells] (.bool true) := by
  refine pret_intro fdw7 (by simp) ?_
  simp only [lcw7, VC0, VC1, VC2, VC3, VC4, VC5, VC6, VC7, VC8, reduceIte, reduceCtorEq, Nat.reduceEqDiff, Nat.reduceAdd, Nat.reduceMul, Nat.reduceBEq, Nat.reduceLT, Nat.reduceLeDiff, Int.reduceEq, Int.reduceLT, Int.reduceLE, Int.reduceNeg, Int.reduceToNat, Int.reduceAdd, Nat.reduceDiv, Nat.reduceSub, Nat.reduceMod, encL, MC0, MC1, MC2]
  refine callX_of (great_ret m hm) (.inr rfl) ?_
  cases hgr : greatB m with
  | true =>
    simp only [VC0, VC1, VC2, VC3, VC4, VC5, VC6, VC7, VC8, reduceIte, reduceCtorEq, Nat.reduceEqDiff, Nat.reduceAdd, Nat.reduceMul, Nat.reduceBEq, Nat.reduceLT, Nat.reduceLeDiff, Int.reduceEq, Int.reduceLT, Int.reduceLE, Int.reduceNeg, Int.reduceToNat, Int.reduceAdd, Nat.reduceDiv, Nat.reduceSub, Nat.reduceMod, encL, MC0, MC1, MC2]
    refine callX_of told22_ret (.inr rfl) ?_
    simp only [VC0, VC1, VC2, VC3, VC4, VC5, VC6, VC7, VC8, reduceIte, reduceCtorEq, Nat.reduceEqDiff, Nat.reduceAdd, Nat.reduceMul, Nat.reduceBEq, Nat.reduceLT, Nat.reduceLeDiff, Int.reduceEq, Int.reduceLT, Int.reduceLE, Int.reduceNeg, Int.reduceToNat, Int.reduceAdd, Nat.reduceDiv, Nat.reduceSub, Nat.reduceMod, encL, MC0, MC1, MC2]
  | false =>
  simp only [VC0, VC1, VC2, VC3, VC4, VC5, VC6, VC7, VC8, reduceIte, reduceCtorEq, Nat.reduceEqDiff, Nat.reduceAdd, Nat.reduceMul, Nat.reduceBEq, Nat.reduceLT, Nat.reduceLeDiff, Int.reduceEq, Int.reduceLT, Int.reduceLE, Int.reduceNeg, Int.reduceToNat, Int.reduceAdd, Nat.reduceDiv, Nat.reduceSub, Nat.reduceMod, encL, MC0, MC1, MC2]
  refine callX_of (may16_ret m hm) (.inr rfl) ?_
  cases hmay : mayB m with
  | false =>
    simp only [VC0, VC1, VC2, VC3, VC4, VC5, VC6, VC7, VC8, reduceIte, reduceCtorEq, Nat.reduceEqDiff, Nat.reduceAdd, Nat.reduceMul, Nat.reduceBEq, Nat.reduceLT, Nat.reduceLeDiff, Int.reduceEq, Int.reduceLT, Int.reduceLE, Int.reduceNeg, Int.reduceToNat, Int.reduceAdd, Nat.reduceDiv, Nat.reduceSub, Nat.reduceMod, encL, MC0, MC1, MC2, hmay]
    refine callX_of told22_ret (.inr rfl) ?_
    simp only [VC0, VC1, VC2, VC3, VC4, VC5, VC6, VC7, VC8, reduceIte, reduceCtorEq, Nat.reduceEqDiff, Nat.reduceAdd, Nat.reduceMul, Nat.reduceBEq, Nat.reduceLT, Nat.reduceLeDiff, Int.reduceEq, Int.reduceLT, Int.reduceLE, Int.reduceNeg, Int.reduceToNat, Int.reduceAdd, Nat.reduceDiv, Nat.reduceSub, Nat.reduceMod, encL, MC0, MC1, MC2]
  | true =>
  simp only [VC0, VC1, VC2, VC3, VC4, VC5, VC6, VC7, VC8, reduceIte, reduceCtorEq, Nat.reduceEqDiff, Nat.reduceAdd, Nat.reduceMul, Nat.reduceBEq, Nat.reduceLT, Nat.reduceLeDiff, Int.reduceEq, Int.reduceLT, Int.reduceLE, Int.reduceNeg, Int.reduceToNat, Int.reduceAdd, Nat.reduceDiv, Nat.reduceSub, Nat.reduceMod, encL, MC0, MC1, MC2, hmay]
  have hg := okG_of hmay
  have hN : m.code.length ≤ 60 := by simp [greatB] at hgr; omega
  have hR : m.regions ≤ 200 := by simp [greatB] at hgr; omega
  have hR0 : 0 ≤ m.regions := by
    simp only [mayB, Bool.and_eq_true] at hmay
    obtain ⟨⟨⟨h1, _⟩, _⟩, _⟩ := hmay
    simp [mayHead, inB] at h1
    omega
  obtain ⟨R, hRR⟩ : ∃ R : Nat, m.regions = (R : Int) := ⟨m.regions.toNat, by omega⟩
  have hRt : m.regions.toNat = R := by omega
  have hRN : R * m.code.length ≤ 200 * 60 := Nat.mul_le_mul (by omega) hN
  obtain ⟨Q, hQ⟩ : ∃ Q, Q = R * m.code.length := ⟨_, rfl⟩
  have hQi : m.regions * (m.code.length : Int) = (Q : Int) := by rw [hRR, hQ]; simp
  rw [← hQ] at hRN
  have i1 : InI64 (Q : Int) := by unfold InI64; omega
  simp only [VC0, VC1, VC2, VC3, VC4, VC5, VC6, VC7, VC8, reduceIte, reduceCtorEq, Nat.reduceEqDiff, Nat.reduceAdd, Nat.reduceMul, Nat.reduceBEq, Nat.reduceLT, Nat.reduceLeDiff, Int.reduceEq, Int.reduceLT, Int.reduceLE, Int.reduceNeg, Int.reduceToNat, Int.reduceAdd, Nat.reduceDiv, Nat.reduceSub, Nat.reduceMod, encL, MC0, MC1, MC2, hQi, i1]
  refine And.intro (by omega) ?_
  refine join_vcg (ι := Nat → Nat) (fun c => stO [(1, .box m.cells), (3, .frz (encL cB (List.replicate Q true)))] c) (fun _ => True) ?_ ?_
  · simp only [VC0, VC1, VC2, VC3, VC4, VC5, VC6, VC7, VC8, reduceIte, reduceCtorEq, Nat.reduceEqDiff, Nat.reduceAdd, Nat.reduceMul, Nat.reduceBEq, Nat.reduceLT, Nat.reduceLeDiff, Int.reduceEq, Int.reduceLT, Int.reduceLE, Int.reduceNeg, Int.reduceToNat, Int.reduceAdd, Nat.reduceDiv, Nat.reduceSub, Nat.reduceMod, encL, MC0, MC1, MC2]
    refine loop_vcg (ι := Nat × (Nat → Nat)) (fun (k, c) => stO [(1, .box m.cells), (3, .own 1 Q ((trueP Q k).flatMap cB)), (4, .val (.int .i64 k))] c)
      (fun (k, _) => k ≤ Q) (fun (k, _) => Q - k) (0, _) (Nat.zero_le _) (ent_of _ [] rfl rfl (by simp only [VC0, VC1, VC2, VC3, VC4, VC5, VC6, VC7, VC8, reduceIte, reduceCtorEq, Nat.reduceEqDiff, Nat.reduceAdd, Nat.reduceMul, Nat.reduceBEq, Nat.reduceLT, Nat.reduceLeDiff, Int.reduceEq, Int.reduceLT, Int.reduceLE, Int.reduceNeg, Int.reduceToNat, Int.reduceAdd, Nat.reduceDiv, Nat.reduceSub, Nat.reduceMod, encL, MC0, MC1, MC2, trueP_zero])) ?_
    rintro ⟨k, c⟩ hk
    have hk : k ≤ Q := hk
    have hl := trueP_len hk
    simp only [VC0, VC1, VC2, VC3, VC4, VC5, VC6, VC7, VC8, reduceIte, reduceCtorEq, Nat.reduceEqDiff, Nat.reduceAdd, Nat.reduceMul, Nat.reduceBEq, Nat.reduceLT, Nat.reduceLeDiff, Int.reduceEq, Int.reduceLT, Int.reduceLE, Int.reduceNeg, Int.reduceToNat, Int.reduceAdd, Nat.reduceDiv, Nat.reduceSub, Nat.reduceMod, encL, MC0, MC1, MC2]
    refine condD_of (fun h => ?_) (fun h => ?_)
    · have hk' : k < Q := by omega
      have hkl : k < (trueP Q k).length := by omega
      have hkl' : k + 1 ≤ (trueP Q k).length := by omega
      have k1 : 0 ≤ (k : Int) ∧ (k : Int) < Q := by omega
      have j2 : InI64 ((k : Int) + 1) := by unfold InI64; omega
      simp only [VC0, VC1, VC2, VC3, VC4, VC5, VC6, VC7, VC8, reduceIte, reduceCtorEq, Nat.reduceEqDiff, Nat.reduceAdd, Nat.reduceMul, Nat.reduceBEq, Nat.reduceLT, Nat.reduceLeDiff, Int.reduceEq, Int.reduceLT, Int.reduceLE, Int.reduceNeg, Int.reduceToNat, Int.reduceAdd, Nat.reduceDiv, Nat.reduceSub, Nat.reduceMod, encL, MC0, MC1, MC2, k1, j2, hkl', lb_set hkl, trueP_succ hk']
      refine backTo_of (k + 1, _) hk' (by simp only []; omega) (ent_of _ [] rfl rfl ?_)
      simp only [VC0, VC1, VC2, VC3, VC4, VC5, VC6, VC7, VC8, reduceIte, reduceCtorEq, Nat.reduceEqDiff, Nat.reduceAdd, Nat.reduceMul, Nat.reduceBEq, Nat.reduceLT, Nat.reduceLeDiff, Int.reduceEq, Int.reduceLT, Int.reduceLE, Int.reduceNeg, Int.reduceToNat, Int.reduceAdd, Nat.reduceDiv, Nat.reduceSub, Nat.reduceMod, encL, MC0, MC1, MC2, lb_set hkl, trueP_succ hk']
      try omega
    have hk' : Q = k := by omega
    subst hk'
    simp only [VC0, VC1, VC2, VC3, VC4, VC5, VC6, VC7, VC8, reduceIte, reduceCtorEq, Nat.reduceEqDiff, Nat.reduceAdd, Nat.reduceMul, Nat.reduceBEq, Nat.reduceLT, Nat.reduceLeDiff, Int.reduceEq, Int.reduceLT, Int.reduceLE, Int.reduceNeg, Int.reduceToNat, Int.reduceAdd, Nat.reduceDiv, Nat.reduceSub, Nat.reduceMod, encL, MC0, MC1, MC2, trueP_full]
    refine joinTo_of _ trivial (ent_of _ [(2199023255555, 0)] rfl rfl ?_)
    simp only [VC0, VC1, VC2, VC3, VC4, VC5, VC6, VC7, VC8, reduceIte, reduceCtorEq, Nat.reduceEqDiff, Nat.reduceAdd, Nat.reduceMul, Nat.reduceBEq, Nat.reduceLT, Nat.reduceLeDiff, Int.reduceEq, Int.reduceLT, Int.reduceLE, Int.reduceNeg, Int.reduceToNat, Int.reduceAdd, Nat.reduceDiv, Nat.reduceSub, Nat.reduceMod, encL, MC0, MC1, MC2, List.length_replicate, lb_snap, lb_take (l := List.replicate Q true) (n := Q) (by simp)]
  rintro c _
  simp only [VC0, VC1, VC2, VC3, VC4, VC5, VC6, VC7, VC8, reduceIte, reduceCtorEq, Nat.reduceEqDiff, Nat.reduceAdd, Nat.reduceMul, Nat.reduceBEq, Nat.reduceLT, Nat.reduceLeDiff, Int.reduceEq, Int.reduceLT, Int.reduceLE, Int.reduceNeg, Int.reduceToNat, Int.reduceAdd, Nat.reduceDiv, Nat.reduceSub, Nat.reduceMod, encL, MC0, MC1, MC2]
  have hpn : ∀ bits, (fitRows m.code.length bits m.regions.toNat).length ≤ 1000 := fun bits => by rw [fitRows_len]; omega
  have hpr : ∀ bits, ∀ r ∈ fitRows m.code.length bits m.regions.toNat, r.length ≤ 1000 := fun bits r hr => by
    obtain ⟨j, _, rfl⟩ := List.mem_map.1 hr
    rw [fitRow_len]; omega
  have hfa := fit_ret m hgr hmay (List.replicate Q true) (by rw [List.length_replicate, maxLen_eq]; omega)
  have hA := in_ret m hm hgr hmay _ (hpn []) (hpr [])
  have hB := in_ret m hm hgr hmay _ (hpn (List.replicate Q true)) (hpr _)
  have hAl : (inL m (fitRows m.code.length [] m.regions.toNat)).length = m.code.length := inR_len _ _ _
  have hA0 := fun i h => inL_none (i := i) (N := m.code.length) (R := m.regions.toNat) hmay h
  have hBl : (inL m (fitRows m.code.length (List.replicate Q true) m.regions.toNat)).length = m.code.length := inR_len _ _ _
  have hBa : ∀ (i n : Nat) (h : i < (inL m (fitRows m.code.length (List.replicate Q true) m.regions.toNat)).length), ((inL m (fitRows m.code.length (List.replicate Q true) m.regions.toNat))[i].any fun y => decide (y = (n : Int))) = true ↔ n < (loansOf m).length ∧ GoesL m (fitRows m.code.length (List.replicate Q true) m.regions.toNat) n i := by
    intro i n h
    have e : (inL m (fitRows m.code.length (List.replicate Q true) m.regions.toNat))[i] = inS (GoesL m (fitRows m.code.length (List.replicate Q true) m.regions.toNat)) (loansOf m).length i := inR_at h
    rw [e, any_inS]
  have hBn : ∀ (i : Nat) (h : i < (inL m (fitRows m.code.length (List.replicate Q true) m.regions.toNat)).length), (inL m (fitRows m.code.length (List.replicate Q true) m.regions.toNat))[i].length ≤ (loansOf m).length := by
    intro i h
    have e : (inL m (fitRows m.code.length (List.replicate Q true) m.regions.toNat))[i] = inS (GoesL m (fitRows m.code.length (List.replicate Q true) m.regions.toNat)) (loansOf m).length i := inR_at h
    rw [e]; exact inS_len _ _ _
  have hst := fun (n i j : Nat) hn hi hj hjN h he => all_step (m := m) (n := n) (i := i) (j := j) hmay hn hi hj hjN h he
  rw [hRt, ← hQ] at hst
  rw [hRt] at hA hB hAl hA0 hBl hBa hBn hfa
  have htk := taken_ret m hm hgr
  rw [if_pos hmay] at htk
  have hLl : (loansOf m).length ≤ m.code.length := loansS_len _ _
  have hfn := fit_ret m hgr hmay [] (by simp)
  rw [hRt] at hfn
  generalize GoesL m (fitRows m.code.length (List.replicate Q true) R) = G at hBa hst
  generalize inL m (fitRows m.code.length [] R) = A at hA hAl hA0
  generalize inL m (fitRows m.code.length (List.replicate Q true) R) = B at hB hBl hBa hBn
  generalize loansOf m = Ls at htk hLl hBa hBn hst
  refine callV_of (hfn.nz 1 ?_) (.inl rfl) ?_
  · show [V.agg (m.cells.map (nz 0)), V.sl 0 []] = _
    rw [nz0]; rfl
  simp only [VC0, VC1, VC2, VC3, VC4, VC5, VC6, VC7, VC8, reduceIte, reduceCtorEq, Nat.reduceEqDiff, Nat.reduceAdd, Nat.reduceMul, Nat.reduceBEq, Nat.reduceLT, Nat.reduceLeDiff, Int.reduceEq, Int.reduceLT, Int.reduceLE, Int.reduceNeg, Int.reduceToNat, Int.reduceAdd, Nat.reduceDiv, Nat.reduceSub, Nat.reduceMod, encL, MC0, MC1, MC2]
  refine callV_of hA (.inl rfl) ?_
  simp only [VC0, VC1, VC2, VC3, VC4, VC5, VC6, VC7, VC8, reduceIte, reduceCtorEq, Nat.reduceEqDiff, Nat.reduceAdd, Nat.reduceMul, Nat.reduceBEq, Nat.reduceLT, Nat.reduceLeDiff, Int.reduceEq, Int.reduceLT, Int.reduceLE, Int.reduceNeg, Int.reduceToNat, Int.reduceAdd, Nat.reduceDiv, Nat.reduceSub, Nat.reduceMod, encL, MC0, MC1, MC2, List.length_replicate] at hfa ⊢
  refine callV_of hfa (.inl rfl) ?_
  simp only [VC0, VC1, VC2, VC3, VC4, VC5, VC6, VC7, VC8, reduceIte, reduceCtorEq, Nat.reduceEqDiff, Nat.reduceAdd, Nat.reduceMul, Nat.reduceBEq, Nat.reduceLT, Nat.reduceLeDiff, Int.reduceEq, Int.reduceLT, Int.reduceLE, Int.reduceNeg, Int.reduceToNat, Int.reduceAdd, Nat.reduceDiv, Nat.reduceSub, Nat.reduceMod, encL, MC0, MC1, MC2]
  refine callV_of hB (.inl rfl) ?_
  simp only [VC0, VC1, VC2, VC3, VC4, VC5, VC6, VC7, VC8, reduceIte, reduceCtorEq, Nat.reduceEqDiff, Nat.reduceAdd, Nat.reduceMul, Nat.reduceBEq, Nat.reduceLT, Nat.reduceLeDiff, Int.reduceEq, Int.reduceLT, Int.reduceLE, Int.reduceNeg, Int.reduceToNat, Int.reduceAdd, Nat.reduceDiv, Nat.reduceSub, Nat.reduceMod, encL, MC0, MC1, MC2]
  refine callV_of htk (.inl rfl) ?_
  simp only [VC0, VC1, VC2, VC3, VC4, VC5, VC6, VC7, VC8, reduceIte, reduceCtorEq, Nat.reduceEqDiff, Nat.reduceAdd, Nat.reduceMul, Nat.reduceBEq, Nat.reduceLT, Nat.reduceLeDiff, Int.reduceEq, Int.reduceLT, Int.reduceLE, Int.reduceNeg, Int.reduceToNat, Int.reduceAdd, Nat.reduceDiv, Nat.reduceSub, Nat.reduceMod, encL, MC0, MC1, MC2, hAl, hBl, bne_self_eq_false]
  have hBk : ∀ (i : Nat) (h : i < B.length), B[i].length ≤ 1000000 := fun i h => by have := hBn i h; omega
  refine loop_vcg (ι := Nat × (Nat → Nat)) (fun (i, c) => stO [(1, .box m.cells), (5, .val (encL (cL cI) A)), (6, .val (encL (cL cI) B)), (7, .val (encL MLoan.cells Ls)), (8, .val (.int .i64 (i : Nat)))] c)
    (fun (i, _) => i ≤ m.code.length) (fun (i, _) => m.code.length - i) (0, _) (Nat.zero_le _) (ent_of _ [] rfl rfl (by simp only [VC0, VC1, VC2, VC3, VC4, VC5, VC6, VC7, VC8, reduceIte, reduceCtorEq, Nat.reduceEqDiff, Nat.reduceAdd, Nat.reduceMul, Nat.reduceBEq, Nat.reduceLT, Nat.reduceLeDiff, Int.reduceEq, Int.reduceLT, Int.reduceLE, Int.reduceNeg, Int.reduceToNat, Int.reduceAdd, Nat.reduceDiv, Nat.reduceSub, Nat.reduceMod, encL, MC0, MC1, MC2, hAl, hBl])) ?_
  rintro ⟨i, c⟩ hi
  have hi : i ≤ m.code.length := hi
  simp only [VC0, VC1, VC2, VC3, VC4, VC5, VC6, VC7, VC8, reduceIte, reduceCtorEq, Nat.reduceEqDiff, Nat.reduceAdd, Nat.reduceMul, Nat.reduceBEq, Nat.reduceLT, Nat.reduceLeDiff, Int.reduceEq, Int.reduceLT, Int.reduceLE, Int.reduceNeg, Int.reduceToNat, Int.reduceAdd, Nat.reduceDiv, Nat.reduceSub, Nat.reduceMod, encL, MC0, MC1, MC2, hAl, hBl]
  refine condD_of (fun h => ?_) (fun h => ?_)
  · have hi' : i < m.code.length := by omega
    have hiA : i < A.length := by omega
    have i1 : 0 ≤ (i : Int) ∧ (i : Int) < m.code.length := by omega
    have i2 : InI64 ((i : Int) + 1) := by unfold InI64; omega
    have hz : decide ((0 : Int) < ((0 : Nat) : Int)) = false := by decide
    simp only [VC0, VC1, VC2, VC3, VC4, VC5, VC6, VC7, VC8, reduceIte, reduceCtorEq, Nat.reduceEqDiff, Nat.reduceAdd, Nat.reduceMul, Nat.reduceBEq, Nat.reduceLT, Nat.reduceLeDiff, Int.reduceEq, Int.reduceLT, Int.reduceLE, Int.reduceNeg, Int.reduceToNat, Int.reduceAdd, Nat.reduceDiv, Nat.reduceSub, Nat.reduceMod, encL, MC0, MC1, MC2, hAl, hBl, i1, i2, ld_cL hiA, hA0 i hiA, List.length_nil, hz]
    exact backTo_of (i + 1, _) hi' (by simp only []; omega) (ent_of _ [] rfl rfl (by simp only [VC0, VC1, VC2, VC3, VC4, VC5, VC6, VC7, VC8, reduceIte, reduceCtorEq, Nat.reduceEqDiff, Nat.reduceAdd, Nat.reduceMul, Nat.reduceBEq, Nat.reduceLT, Nat.reduceLeDiff, Int.reduceEq, Int.reduceLT, Int.reduceLE, Int.reduceNeg, Int.reduceToNat, Int.reduceAdd, Nat.reduceDiv, Nat.reduceSub, Nat.reduceMod, encL, MC0, MC1, MC2, hAl, hBl]))
  simp only [VC0, VC1, VC2, VC3, VC4, VC5, VC6, VC7, VC8, reduceIte, reduceCtorEq, Nat.reduceEqDiff, Nat.reduceAdd, Nat.reduceMul, Nat.reduceBEq, Nat.reduceLT, Nat.reduceLeDiff, Int.reduceEq, Int.reduceLT, Int.reduceLE, Int.reduceNeg, Int.reduceToNat, Int.reduceAdd, Nat.reduceDiv, Nat.reduceSub, Nat.reduceMod, encL, MC0, MC1, MC2, hAl, hBl]
  refine loop_vcg (ι := Nat × (Nat → Nat)) (fun (n, c) => stO [(1, .box m.cells), (6, .val (encL (cL cI) B)), (7, .val (encL MLoan.cells Ls)), (9, .val (.int .i64 (n : Nat)))] c)
    (fun (n, _) => n ≤ Ls.length) (fun (n, _) => Ls.length - n) (0, _) (Nat.zero_le _) (ent_of _ [] rfl rfl (by simp only [VC0, VC1, VC2, VC3, VC4, VC5, VC6, VC7, VC8, reduceIte, reduceCtorEq, Nat.reduceEqDiff, Nat.reduceAdd, Nat.reduceMul, Nat.reduceBEq, Nat.reduceLT, Nat.reduceLeDiff, Int.reduceEq, Int.reduceLT, Int.reduceLE, Int.reduceNeg, Int.reduceToNat, Int.reduceAdd, Nat.reduceDiv, Nat.reduceSub, Nat.reduceMod, encL, MC0, MC1, MC2, hAl, hBl])) ?_
  rintro ⟨n, c⟩ hn
  have hn : n ≤ Ls.length := hn
  simp only [VC0, VC1, VC2, VC3, VC4, VC5, VC6, VC7, VC8, reduceIte, reduceCtorEq, Nat.reduceEqDiff, Nat.reduceAdd, Nat.reduceMul, Nat.reduceBEq, Nat.reduceLT, Nat.reduceLeDiff, Int.reduceEq, Int.reduceLT, Int.reduceLE, Int.reduceNeg, Int.reduceToNat, Int.reduceAdd, Nat.reduceDiv, Nat.reduceSub, Nat.reduceMod, encL, MC0, MC1, MC2, hAl, hBl]
  refine condD_of (fun h => ?_) (fun h => ?_)
  · have hn' : n < Ls.length := by omega
    have n1 : 0 ≤ (n : Int) ∧ (n : Int) < Ls.length := by omega
    have n2 : InI64 ((n : Int) + 1) := by unfold InI64; omega
    simp only [VC0, VC1, VC2, VC3, VC4, VC5, VC6, VC7, VC8, reduceIte, reduceCtorEq, Nat.reduceEqDiff, Nat.reduceAdd, Nat.reduceMul, Nat.reduceBEq, Nat.reduceLT, Nat.reduceLeDiff, Int.reduceEq, Int.reduceLT, Int.reduceLE, Int.reduceNeg, Int.reduceToNat, Int.reduceAdd, Nat.reduceDiv, Nat.reduceSub, Nat.reduceMod, encL, MC0, MC1, MC2, hAl, hBl]
    refine loop_vcg (ι := Nat × (Nat → Nat)) (fun (i, c) => stO [(1, .box m.cells), (6, .val (encL (cL cI) B)), (7, .val (encL MLoan.cells Ls)), (9, .val (.int .i64 (n : Nat))), (10, .val (.int .i64 (i : Nat)))] c)
      (fun (i, _) => i ≤ m.code.length) (fun (i, _) => m.code.length - i) (0, _) (Nat.zero_le _) (ent_of _ [] rfl rfl (by simp only [VC0, VC1, VC2, VC3, VC4, VC5, VC6, VC7, VC8, reduceIte, reduceCtorEq, Nat.reduceEqDiff, Nat.reduceAdd, Nat.reduceMul, Nat.reduceBEq, Nat.reduceLT, Nat.reduceLeDiff, Int.reduceEq, Int.reduceLT, Int.reduceLE, Int.reduceNeg, Int.reduceToNat, Int.reduceAdd, Nat.reduceDiv, Nat.reduceSub, Nat.reduceMod, encL, MC0, MC1, MC2, hAl, hBl])) ?_
    rintro ⟨i, c⟩ hi
    have hi : i ≤ m.code.length := hi
    simp only [VC0, VC1, VC2, VC3, VC4, VC5, VC6, VC7, VC8, reduceIte, reduceCtorEq, Nat.reduceEqDiff, Nat.reduceAdd, Nat.reduceMul, Nat.reduceBEq, Nat.reduceLT, Nat.reduceLeDiff, Int.reduceEq, Int.reduceLT, Int.reduceLE, Int.reduceNeg, Int.reduceToNat, Int.reduceAdd, Nat.reduceDiv, Nat.reduceSub, Nat.reduceMod, encL, MC0, MC1, MC2, hAl, hBl]
    refine condD_of (fun h => ?_) (fun h => ?_)
    · have hi' : i < m.code.length := by omega
      have hiB : i < B.length := by omega
      have i1 : 0 ≤ (i : Int) ∧ (i : Int) < m.code.length := by omega
      have i2 : InI64 ((i : Int) + 1) := by unfold InI64; omega
      simp only [VC0, VC1, VC2, VC3, VC4, VC5, VC6, VC7, VC8, reduceIte, reduceCtorEq, Nat.reduceEqDiff, Nat.reduceAdd, Nat.reduceMul, Nat.reduceBEq, Nat.reduceLT, Nat.reduceLeDiff, Int.reduceEq, Int.reduceLT, Int.reduceLE, Int.reduceNeg, Int.reduceToNat, Int.reduceAdd, Nat.reduceDiv, Nat.reduceSub, Nat.reduceMod, encL, MC0, MC1, MC2, hAl, hBl, i1, i2, hi', ld_cL hiB]
      refine callV_of (has22_ret B[i] n (hBk i hiB)) (.inr rfl) ?_
      have hBi := hBa i n hiB
      have hxs : m.code[i].to.steps.length ≤ 1000 := by have := (path_of hgr _ (List.getElem_mem hi')).2; omega
      cases b1 : (B[i].any fun y => decide (y = (n : Int)))
      · simp only [VC0, VC1, VC2, VC3, VC4, VC5, VC6, VC7, VC8, reduceIte, reduceCtorEq, Nat.reduceEqDiff, Nat.reduceAdd, Nat.reduceMul, Nat.reduceBEq, Nat.reduceLT, Nat.reduceLeDiff, Int.reduceEq, Int.reduceLT, Int.reduceLE, Int.reduceNeg, Int.reduceToNat, Int.reduceAdd, Nat.reduceDiv, Nat.reduceSub, Nat.reduceMod, encL, MC0, MC1, MC2, hAl, hBl, i1, i2, hi', b1]
        exact backTo_of (i + 1, _) hi' (by simp only []; omega) (ent_of _ [] rfl rfl (by simp only [VC0, VC1, VC2, VC3, VC4, VC5, VC6, VC7, VC8, reduceIte, reduceCtorEq, Nat.reduceEqDiff, Nat.reduceAdd, Nat.reduceMul, Nat.reduceBEq, Nat.reduceLT, Nat.reduceLeDiff, Int.reduceEq, Int.reduceLT, Int.reduceLE, Int.reduceNeg, Int.reduceToNat, Int.reduceAdd, Nat.reduceDiv, Nat.reduceSub, Nat.reduceMod, encL, MC0, MC1, MC2, hAl, hBl]))
      · have hn1 := (hBi.1 b1).1
        have hG := (hBi.1 b1).2
        simp only [VC0, VC1, VC2, VC3, VC4, VC5, VC6, VC7, VC8, reduceIte, reduceCtorEq, Nat.reduceEqDiff, Nat.reduceAdd, Nat.reduceMul, Nat.reduceBEq, Nat.reduceLT, Nat.reduceLeDiff, Int.reduceEq, Int.reduceLT, Int.reduceLE, Int.reduceNeg, Int.reduceToNat, Int.reduceAdd, Nat.reduceDiv, Nat.reduceSub, Nat.reduceMod, encL, MC0, MC1, MC2, hAl, hBl, i1, i2, n1, hi', b1, lo_ld0 hn' (n := 5) (agg := true) (by decide) (by decide), MLoan.call, MLoan.sokc, MLoan.snapc]
        refine callV_of (ends_ret Ls[n] m.code[i] hxs) (.inr rfl) ?_
        cases b2 : endsS Ls[n] m.code[i]
        · simp only [VC0, VC1, VC2, VC3, VC4, VC5, VC6, VC7, VC8, reduceIte, reduceCtorEq, Nat.reduceEqDiff, Nat.reduceAdd, Nat.reduceMul, Nat.reduceBEq, Nat.reduceLT, Nat.reduceLeDiff, Int.reduceEq, Int.reduceLT, Int.reduceLE, Int.reduceNeg, Int.reduceToNat, Int.reduceAdd, Nat.reduceDiv, Nat.reduceSub, Nat.reduceMod, encL, MC0, MC1, MC2, hAl, hBl, i1, i2, n1, hi', b1, b2]
          have hyl := (hg.nx _ (List.getElem_mem hi')).1
          have hy := (hg.nx _ (List.getElem_mem hi')).2
          have hnx : nx m i = (m.code[i].next).map Int.toNat := by simp [nx, hi']
          refine loop_vcg (ι := Nat × (Nat → Nat)) (fun (k, c) => stO [(1, .box m.cells), (6, .val (encL (cL cI) B)), (7, .val (encL MLoan.cells Ls)), (9, .val (.int .i64 (n : Nat))), (10, .val (.int .i64 (i : Nat))), (11, .val (.int .i64 (k : Nat)))] c)
            (fun (k, _) => k ≤ m.code[i].next.length) (fun (k, _) => m.code[i].next.length - k) (0, _) (Nat.zero_le _) (ent_of _ [] rfl rfl (by simp only [VC0, VC1, VC2, VC3, VC4, VC5, VC6, VC7, VC8, reduceIte, reduceCtorEq, Nat.reduceEqDiff, Nat.reduceAdd, Nat.reduceMul, Nat.reduceBEq, Nat.reduceLT, Nat.reduceLeDiff, Int.reduceEq, Int.reduceLT, Int.reduceLE, Int.reduceNeg, Int.reduceToNat, Int.reduceAdd, Nat.reduceDiv, Nat.reduceSub, Nat.reduceMod, encL, MC0, MC1, MC2, hAl, hBl])) ?_
          rintro ⟨k, c⟩ hk
          have hk : k ≤ m.code[i].next.length := hk
          simp only [VC0, VC1, VC2, VC3, VC4, VC5, VC6, VC7, VC8, reduceIte, reduceCtorEq, Nat.reduceEqDiff, Nat.reduceAdd, Nat.reduceMul, Nat.reduceBEq, Nat.reduceLT, Nat.reduceLeDiff, Int.reduceEq, Int.reduceLT, Int.reduceLE, Int.reduceNeg, Int.reduceToNat, Int.reduceAdd, Nat.reduceDiv, Nat.reduceSub, Nat.reduceMod, encL, MC0, MC1, MC2, hAl, hBl, i1, i2, n1, hi']
          refine condD_of (fun h => ?_) (fun h => ?_)
          · have hk' : k < m.code[i].next.length := by omega
            have k1 : 0 ≤ (k : Int) ∧ (k : Int) < m.code[i].next.length := by omega
            have k2 : InI64 ((k : Int) + 1) := by unfold InI64; omega
            obtain ⟨j, hj⟩ : ∃ j : Nat, m.code[i].next[k] = (j : Int) := ⟨(m.code[i].next[k]).toNat, by have := hy _ (List.getElem_mem hk'); omega⟩
            have hjN : j < m.code.length := by have := hy _ (List.getElem_mem hk'); omega
            have hjB : j < B.length := by omega
            have j1 : 0 ≤ (j : Int) ∧ (j : Int) < m.code.length := by omega
            have hjm : j ∈ nx m i := by
              rw [hnx]
              exact List.mem_map.2 ⟨_, List.getElem_mem hk', by rw [hj]; rfl⟩
            simp only [VC0, VC1, VC2, VC3, VC4, VC5, VC6, VC7, VC8, reduceIte, reduceCtorEq, Nat.reduceEqDiff, Nat.reduceAdd, Nat.reduceMul, Nat.reduceBEq, Nat.reduceLT, Nat.reduceLeDiff, Int.reduceEq, Int.reduceLT, Int.reduceLE, Int.reduceNeg, Int.reduceToNat, Int.reduceAdd, Nat.reduceDiv, Nat.reduceSub, Nat.reduceMod, encL, MC0, MC1, MC2, hAl, hBl, i1, i2, n1, k1, k2, hi', hk', hj, j1, ld_cL hjB]
            refine callX_of (has22_ret B[j] n (hBk j hjB)) (.inr rfl) ?_
            have b3 := (hBa j n hjB).2 ⟨hn', hst n i j hn' hi' hjm hjN hG b2⟩
            simp only [VC0, VC1, VC2, VC3, VC4, VC5, VC6, VC7, VC8, reduceIte, reduceCtorEq, Nat.reduceEqDiff, Nat.reduceAdd, Nat.reduceMul, Nat.reduceBEq, Nat.reduceLT, Nat.reduceLeDiff, Int.reduceEq, Int.reduceLT, Int.reduceLE, Int.reduceNeg, Int.reduceToNat, Int.reduceAdd, Nat.reduceDiv, Nat.reduceSub, Nat.reduceMod, encL, MC0, MC1, MC2, hAl, hBl, b3, k2]
            exact backTo_of (k + 1, _) hk' (by simp only []; omega) (ent_of _ [] rfl rfl (by simp only [VC0, VC1, VC2, VC3, VC4, VC5, VC6, VC7, VC8, reduceIte, reduceCtorEq, Nat.reduceEqDiff, Nat.reduceAdd, Nat.reduceMul, Nat.reduceBEq, Nat.reduceLT, Nat.reduceLeDiff, Int.reduceEq, Int.reduceLT, Int.reduceLE, Int.reduceNeg, Int.reduceToNat, Int.reduceAdd, Nat.reduceDiv, Nat.reduceSub, Nat.reduceMod, encL, MC0, MC1, MC2, hAl, hBl]))
          · simp only [VC0, VC1, VC2, VC3, VC4, VC5, VC6, VC7, VC8, reduceIte, reduceCtorEq, Nat.reduceEqDiff, Nat.reduceAdd, Nat.reduceMul, Nat.reduceBEq, Nat.reduceLT, Nat.reduceLeDiff, Int.reduceEq, Int.reduceLT, Int.reduceLE, Int.reduceNeg, Int.reduceToNat, Int.reduceAdd, Nat.reduceDiv, Nat.reduceSub, Nat.reduceMod, encL, MC0, MC1, MC2, hAl, hBl, i2]
            exact backTo_of (i + 1, _) hi' (by simp only []; omega) (ent_of _ [] rfl rfl (by simp only [VC0, VC1, VC2, VC3, VC4, VC5, VC6, VC7, VC8, reduceIte, reduceCtorEq, Nat.reduceEqDiff, Nat.reduceAdd, Nat.reduceMul, Nat.reduceBEq, Nat.reduceLT, Nat.reduceLeDiff, Int.reduceEq, Int.reduceLT, Int.reduceLE, Int.reduceNeg, Int.reduceToNat, Int.reduceAdd, Nat.reduceDiv, Nat.reduceSub, Nat.reduceMod, encL, MC0, MC1, MC2, hAl, hBl]))
        · simp only [VC0, VC1, VC2, VC3, VC4, VC5, VC6, VC7, VC8, reduceIte, reduceCtorEq, Nat.reduceEqDiff, Nat.reduceAdd, Nat.reduceMul, Nat.reduceBEq, Nat.reduceLT, Nat.reduceLeDiff, Int.reduceEq, Int.reduceLT, Int.reduceLE, Int.reduceNeg, Int.reduceToNat, Int.reduceAdd, Nat.reduceDiv, Nat.reduceSub, Nat.reduceMod, encL, MC0, MC1, MC2, hAl, hBl, i1, i2, n1, hi', b1, b2]
          exact backTo_of (i + 1, _) hi' (by simp only []; omega) (ent_of _ [] rfl rfl (by simp only [VC0, VC1, VC2, VC3, VC4, VC5, VC6, VC7, VC8, reduceIte, reduceCtorEq, Nat.reduceEqDiff, Nat.reduceAdd, Nat.reduceMul, Nat.reduceBEq, Nat.reduceLT, Nat.reduceLeDiff, Int.reduceEq, Int.reduceLT, Int.reduceLE, Int.reduceNeg, Int.reduceToNat, Int.reduceAdd, Nat.reduceDiv, Nat.reduceSub, Nat.reduceMod, encL, MC0, MC1, MC2, hAl, hBl]))
    · simp only [VC0, VC1, VC2, VC3, VC4, VC5, VC6, VC7, VC8, reduceIte, reduceCtorEq, Nat.reduceEqDiff, Nat.reduceAdd, Nat.reduceMul, Nat.reduceBEq, Nat.reduceLT, Nat.reduceLeDiff, Int.reduceEq, Int.reduceLT, Int.reduceLE, Int.reduceNeg, Int.reduceToNat, Int.reduceAdd, Nat.reduceDiv, Nat.reduceSub, Nat.reduceMod, encL, MC0, MC1, MC2, hAl, hBl, n2]
      exact backTo_of (n + 1, _) hn' (by simp only []; omega) (ent_of _ [] rfl rfl (by simp only [VC0, VC1, VC2, VC3, VC4, VC5, VC6, VC7, VC8, reduceIte, reduceCtorEq, Nat.reduceEqDiff, Nat.reduceAdd, Nat.reduceMul, Nat.reduceBEq, Nat.reduceLT, Nat.reduceLeDiff, Int.reduceEq, Int.reduceLT, Int.reduceLE, Int.reduceNeg, Int.reduceToNat, Int.reduceAdd, Nat.reduceDiv, Nat.reduceSub, Nat.reduceMod, encL, MC0, MC1, MC2, hAl, hBl]))
  · simp only [VC0, VC1, VC2, VC3, VC4, VC5, VC6, VC7, VC8, reduceIte, reduceCtorEq, Nat.reduceEqDiff, Nat.reduceAdd, Nat.reduceMul, Nat.reduceBEq, Nat.reduceLT, Nat.reduceLeDiff, Int.reduceEq, Int.reduceLT, Int.reduceLE, Int.reduceNeg, Int.reduceToNat, Int.reduceAdd, Nat.reduceDiv, Nat.reduceSub, Nat.reduceMod, encL, MC0, MC1, MC2]
    refine callX_of told22_ret (.inr rfl) ?_
    simp only [VC0, VC1, VC2, VC3, VC4, VC5, VC6, VC7, VC8, reduceIte, reduceCtorEq, Nat.reduceEqDiff, Nat.reduceAdd, Nat.reduceMul, Nat.reduceBEq, Nat.reduceLT, Nat.reduceLeDiff, Int.reduceEq, Int.reduceLT, Int.reduceLE, Int.reduceNeg, Int.reduceToNat, Int.reduceAdd, Nat.reduceDiv, Nat.reduceSub, Nat.reduceMod, encL, MC0, MC1, MC2]
end Go.Proofs.Ytobhpkagbmadlaa
