/-
  Texts Cu5, Cu6 of this claim, put together.
-/
import Derived.Test.YtobhpkagbmadlaaGQb
import Derived.Test.YtobhpkagbmadlaaGI
import Derived.Test.YtobhpkagbmadlaaGH
import Derived.Test.YtobhpkagbmadlaaGFn
/-
  What the law's told() tells of a few.
-/
set_option linter.unusedSimpArgs false
set_option linter.unusedVariables false
namespace Go.Proofs.Ytobhpkagbmadlaa
open Go Go.Lg Go.RowKit
set_option maxRecDepth 20000
set_option linter.unusedVariables false
set_option linter.unusedSimpArgs false

def tX : MInst := ⟨1, 0, true, ⟨1, []⟩, { v0 with kind := 2, path := ⟨2, []⟩ }, [1]⟩
def tY : MInst := ⟨1, 0, true, ⟨2, []⟩, { v0 with kind := 1, a := ⟨1, 0, p0⟩ }, [2]⟩
def tE : MInst := ⟨6, 0, false, p0, v0, []⟩
def tL : MLoan := ⟨0, 0, false, ⟨2, []⟩⟩
def tM : Mir := ⟨0, 0, 1, [], [⟨noS, .mk 0 noS [] [], false⟩, ⟨noS, .mk 0 noS [] [], false⟩, ⟨noS, .mk 0 noS [] [], false⟩], [tX, tY, tE]⟩
theorem tM_ok : tM.ok := by
  simp [tM, tX, tY, tE, Mir.ok, MInst.ok, MVal.ok, MOper.ok, MPath.ok, MLocal.ok, RT.ok, RT.okL, v0, o0, p0, noS_size, InI64, maxLen_eq]
theorem tM_may : mayB tM = true := by decide
theorem tM_great : greatB tM = false := by decide
theorem tM_loans : loansOf tM = [tL] := rfl
theorem tM_ends : endsP tM (loansOf tM) 0 1 = true := by rw [tM_loans]; decide
theorem tM_goes {k p : Nat} (h : Goes (nx tM) (ptP (loansOf tM)) (okP [[false, true, true]] (loansOf tM)) (endsP tM (loansOf tM)) (loansOf tM).length k p) : k = 0 ∧ p = 1 := by
  induction h with
  | seed p hk hp hok =>
    have hk : k < 1 := hk
    obtain rfl : k = 0 := by omega
    have hp : p ∈ [1] := hp
    exact ⟨rfl, List.mem_singleton.1 hp⟩
  | step p q _ he _ _ ih =>
    obtain ⟨h1, h2⟩ := ih
    subst h1 h2
    rw [tM_ends] at he; cases he
theorem tM_in : inL tM [[false, true, true]] = [[], [0], []] := by
  have hg : GoesL tM [[false, true, true]] 0 1 := by
    refine ⟨.seed 0 1 ?_ ?_ ?_, least_nonneg.2 ⟨1, ?_⟩⟩
    · rw [tM_loans]; decide
    · rw [tM_loans]; decide
    · rw [tM_loans]; decide
    · exact ⟨0, rfl, by decide⟩
  have hn : ∀ k p, GoesL tM [[false, true, true]] k p → k = 0 ∧ p = 1 := fun k p h => tM_goes h.1
  have e : ∀ p, p ≠ 1 → inS (GoesL tM [[false, true, true]]) (loansOf tM).length p = [] := fun p hp => by
    refine rise_uniq (inS_rise _ _ _) List.Pairwise.nil fun x => ?_
    rw [mem_inS]
    constructor
    · rintro ⟨k, _, _, h⟩; exact absurd (hn k p h).2 hp
    · intro h; cases h
  have e1 : inS (GoesL tM [[false, true, true]]) (loansOf tM).length 1 = [0] := by
    refine rise_uniq (inS_rise _ _ _) (by simp) fun x => ?_
    rw [mem_inS, List.mem_singleton]
    constructor
    · rintro ⟨k, rfl, _, h⟩; rw [(hn k 1 h).1]; rfl
    · rintro rfl; exact ⟨0, rfl, by rw [tM_loans]; decide, hg⟩
  show [inS (GoesL tM [[false, true, true]]) (loansOf tM).length 0, inS (GoesL tM [[false, true, true]]) (loansOf tM).length 1, inS (GoesL tM [[false, true, true]]) (loansOf tM).length 2] = _
  rw [e 0 (by decide), e 2 (by decide), e1]

set_option maxHeartbeats 2000000 in
theorem told22_ret : PRet Try.prog 26 [] (.bool true) := by
  have htk := taken_ret tM tM_ok tM_great
  have hin := in_ret tM tM_ok tM_great tM_may [[false, true, true]] (by decide) (by decide)
  have he1 := ends_ret tL tY (by decide)
  have he2 := ends_ret tL tX (by decide)
  rw [show endsS tL tY = true by decide] at he1
  rw [show endsS tL tX = false by decide] at he2
  rw [if_pos tM_may, tM_loans] at htk
  rw [tM_in] at hin
  refine pret_intro fd26 (by simp) ?_
  simp only [lc26, VC0, VC1, VC2, VC3, VC4, VC5, VC6, VC7, VC8, reduceIte, reduceCtorEq, Nat.reduceEqDiff, Nat.reduceAdd, Nat.reduceMul, Nat.reduceBEq, Nat.reduceLT, Nat.reduceLeDiff, Int.reduceEq, Int.reduceLT, Int.reduceLE, Int.reduceNeg, Int.reduceToNat, Int.reduceAdd, Nat.reduceDiv, Nat.reduceSub, Nat.reduceMod, encL, MC0, MC1, MC2, setCells, List.take_succ_cons, List.take_zero, List.take_nil, List.drop_succ_cons, List.drop_zero, List.drop_nil, ldV]
  refine callX_of (htk.nz 5 ?_) (.inl rfl) ?_
  · simp [nz, Mir.cells, MInst.cells, MLocal.cells, tM, tX, tY, tE, encL, cI, cS, v0, o0, p0, noS, RT.kind, RT.name, RT.regions, RT.elem]
  simp only [VC0, VC1, VC2, VC3, VC4, VC5, VC6, VC7, VC8, reduceIte, reduceCtorEq, Nat.reduceEqDiff, Nat.reduceAdd, Nat.reduceMul, Nat.reduceBEq, Nat.reduceLT, Nat.reduceLeDiff, Int.reduceEq, Int.reduceLT, Int.reduceLE, Int.reduceNeg, Int.reduceToNat, Int.reduceAdd, Nat.reduceDiv, Nat.reduceSub, Nat.reduceMod, encL, MC0, MC1, MC2, setCells, List.take_succ_cons, List.take_zero, List.take_nil, List.drop_succ_cons, List.drop_zero, List.drop_nil, ldV, encLL, cL, List.flatMap_cons, List.flatMap_nil, cI, cB, List.getElem?_cons_zero, Int.natCast_one, Int.cast_ofNat_Int]
  refine callX_of (hin.nz 5 ?_) (.inl rfl) ?_
  · simp [nz, Mir.cells, MInst.cells, MLocal.cells, tM, tX, tY, tE, encL, cI, cS, cL, cB, v0, o0, p0, noS, RT.kind, RT.name, RT.regions, RT.elem]
  simp only [VC0, VC1, VC2, VC3, VC4, VC5, VC6, VC7, VC8, reduceIte, reduceCtorEq, Nat.reduceEqDiff, Nat.reduceAdd, Nat.reduceMul, Nat.reduceBEq, Nat.reduceLT, Nat.reduceLeDiff, Int.reduceEq, Int.reduceLT, Int.reduceLE, Int.reduceNeg, Int.reduceToNat, Int.reduceAdd, Nat.reduceDiv, Nat.reduceSub, Nat.reduceMod, encL, MC0, MC1, MC2, setCells, List.take_succ_cons, List.take_zero, List.take_nil, List.drop_succ_cons, List.drop_zero, List.drop_nil, ldV, encLL, cL, List.flatMap_cons, List.flatMap_nil, cI, cB, List.getElem?_cons_zero, List.getElem?_cons_succ, Int.natCast_one, Int.cast_ofNat_Int, MLoan.cells, tL, List.cons_append, List.nil_append]
  refine callV_of (he1.nz 5 ?_) (.inl rfl) ?_
  · simp [nz, MInst.cells, MLoan.cells, tL, tX, tY, tE, encL, cI, cS, cL, cB, v0, o0, p0, noS]
  simp only [VC0, VC1, VC2, VC3, VC4, VC5, VC6, VC7, VC8, reduceIte, reduceCtorEq, Nat.reduceEqDiff, Nat.reduceAdd, Nat.reduceMul, Nat.reduceBEq, Nat.reduceLT, Nat.reduceLeDiff, Int.reduceEq, Int.reduceLT, Int.reduceLE, Int.reduceNeg, Int.reduceToNat, Int.reduceAdd, Nat.reduceDiv, Nat.reduceSub, Nat.reduceMod, encL, MC0, MC1, MC2, setCells, List.take_succ_cons, List.take_zero, List.take_nil, List.drop_succ_cons, List.drop_zero, List.drop_nil, ldV, encLL, cL, List.flatMap_cons, List.flatMap_nil, cI, cB, List.getElem?_cons_zero, List.getElem?_cons_succ, Int.natCast_one, Int.cast_ofNat_Int, MLoan.cells, tL, List.cons_append, List.nil_append]
  refine callV_of (he2.nz 5 ?_) (.inl rfl) ?_
  · simp [nz, MInst.cells, MLoan.cells, tL, tX, tY, tE, encL, cI, cS, cL, cB, v0, o0, p0, noS]
  simp only [VC0, VC1, VC2, VC3, VC4, VC5, VC6, VC7, VC8, reduceIte, reduceCtorEq, Nat.reduceEqDiff, Nat.reduceAdd, Nat.reduceMul, Nat.reduceBEq, Nat.reduceLT, Nat.reduceLeDiff, Int.reduceEq, Int.reduceLT, Int.reduceLE, Int.reduceNeg, Int.reduceToNat, Int.reduceAdd, Nat.reduceDiv, Nat.reduceSub, Nat.reduceMod, encL, MC0, MC1, MC2, setCells, List.take_succ_cons, List.take_zero, List.take_nil, List.drop_succ_cons, List.drop_zero, List.drop_nil, ldV, encLL, cL, List.flatMap_cons, List.flatMap_nil, cI, cB, List.getElem?_cons_zero, List.getElem?_cons_succ, Int.natCast_one, Int.cast_ofNat_Int, MLoan.cells, tL, List.cons_append, List.nil_append]
  refine callV_of (ints_ret [0] [0] (by decide)) (.inr rfl) ?_
  simp only [VC0, VC1, VC2, VC3, VC4, VC5, VC6, VC7, VC8, reduceIte, reduceCtorEq, Nat.reduceEqDiff, Nat.reduceAdd, Nat.reduceMul, Nat.reduceBEq, Nat.reduceLT, Nat.reduceLeDiff, Int.reduceEq, Int.reduceLT, Int.reduceLE, Int.reduceNeg, Int.reduceToNat, Int.reduceAdd, Nat.reduceDiv, Nat.reduceSub, Nat.reduceMod, encL, MC0, MC1, MC2, setCells, List.take_succ_cons, List.take_zero, List.take_nil, List.drop_succ_cons, List.drop_zero, List.drop_nil, ldV, encLL, cL, List.flatMap_cons, List.flatMap_nil, cI, cB, List.getElem?_cons_zero, List.getElem?_cons_succ, Int.natCast_one, Int.cast_ofNat_Int, MLoan.cells, tL, List.cons_append, List.nil_append]
end Go.Proofs.Ytobhpkagbmadlaa

/-
  LoanEnds: the law's function returns true.
-/
set_option linter.unusedSimpArgs false
set_option linter.unusedVariables false
namespace Go.Proofs.Ytobhpkagbmadlaa
open Go Go.Lg Go.RowKit
set_option linter.unusedVariables false
set_option linter.unusedSimpArgs false

theorem loan_reg {m : Mir} (hmay : mayB m = true) {n : Nat} (hn : n < (loansOf m).length) : ∃ (u : Nat) (hu : u < m.code.length) (g : Nat), (loansOf m)[n] = loanAt u m.code[u] ∧ (loansOf m)[n].pt = (u : Int) ∧ (loansOf m)[n].reg = (g : Int) ∧ g < m.regions.toNat ∧ ptP (loansOf m) n = u := by
  obtain ⟨u, hu, hlu, htk⟩ := loans_at m.code 0 _ (List.getElem_mem hn)
  rw [Nat.zero_add] at hlu
  have hrg := region_of hmay (List.getElem_mem hu) htk
  refine ⟨u, hu, (loansOf m)[n].reg.toNat, hlu, by rw [hlu]; rfl, by rw [hlu]; simp only [loanAt]; omega, by rw [hlu]; simp only [loanAt]; omega, ?_⟩
  simp only [ptP, List.getD_eq_getElem?_getD, List.getElem?_eq_getElem hn, Option.getD_some]
  rw [hlu]; rfl
theorem okP_of {pts : List (List Bool)} {Ls : List MLoan} {n g p : Nat} (hn : n < Ls.length) (hg : Ls[n].reg = (g : Int)) : okP pts Ls n p = (decide (g < pts.length) && (decide (p < (pts.getD g []).length) && (pts.getD g []).getD p false)) := by
  simp only [okP, List.getD_eq_getElem?_getD, List.getElem?_eq_getElem hn, Option.getD_some, hg, Int.toNat_natCast, Int.ofNat_lt]
theorem fit_at {N : Nat} {bits : List Bool} {R g p : Nat} (hg : g < R) (hp : p < N) : ((fitRows N bits R).getD g []).getD p false = bits.getD (g * N + p) false := by
  have h1 : (fitRows N bits R).getD g [] = fitRow N bits g := by simp [fitRows, hg]
  rw [h1]; simp [fitRow, hp]
theorem okP_fit {N : Nat} {bits : List Bool} {R : Nat} {Ls : List MLoan} {n g p : Nat} (hn : n < Ls.length) (hg : Ls[n].reg = (g : Int)) : okP (fitRows N bits R) Ls n p = true ↔ g < R ∧ p < N ∧ bits.getD (g * N + p) false = true := by
  rw [okP_of hn hg]
  simp only [Bool.and_eq_true, decide_eq_true_eq, fitRows_len]
  constructor
  · rintro ⟨h1, h2, h3⟩
    have hr : (fitRows N bits R).getD g [] = fitRow N bits g := by simp [fitRows, h1]
    rw [hr, fitRow_len] at h2
    rw [fit_at h1 h2] at h3
    exact ⟨h1, h2, h3⟩
  · rintro ⟨h1, h2, h3⟩
    have hr : (fitRows N bits R).getD g [] = fitRow N bits g := by simp [fitRows, h1]
    refine ⟨h1, ?_, ?_⟩
    · rw [hr, fitRow_len]; exact h2
    · rw [fit_at h1 h2]; exact h3
theorem any_inS {P : Nat → Nat → Prop} {L p n : Nat} : ((inS P L p).any fun y => decide (y = (n : Int))) = true ↔ n < L ∧ P n p := by
  rw [List.any_eq_true]
  constructor
  · rintro ⟨x, hx, e⟩
    obtain ⟨k, rfl, h1, h2⟩ := (mem_inS x).1 hx
    have : k = n := by have := of_decide_eq_true e; omega
    subst this
    exact ⟨h1, h2⟩
  · rintro ⟨h1, h2⟩
    exact ⟨(n : Int), (mem_inS _).2 ⟨n, rfl, h1, h2⟩, decide_eq_true rfl⟩
theorem reach_step {g : Nat → List Nat} {u v : Nat} (h : 0 ≤ dist0 g 0 u) (hv : v ∈ g u) : 0 ≤ dist0 g 0 v := by
  obtain ⟨d, hd⟩ := least_nonneg.1 h
  exact least_nonneg.2 ⟨d + 1, u, hd, hv⟩

end Go.Proofs.Ytobhpkagbmadlaa
