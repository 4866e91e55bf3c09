/-
  Ct5 Gf Gg Gh Gi Gj Gk Gl Go Gp Gq Gt Flow Gv Fgj Gu Ct6: put together.
-/
import Derived.Test.YtlkdcgfjmhjjpaaGreatGRe
import Derived.Test.YtlkdcgfjmhjjpaaGreatGRd
import Derived.Test.YtlkdcgfjmhjjpaaGreatProg
import Derived.Test.YtlkdcgfjmhjjpaaGreatGRc
set_option linter.unusedSimpArgs false
set_option linter.unusedVariables false
namespace Go.Proofs.YtlkdcgfjmhjjpaaGreat
open Go Go.Lg Go.RowKit
set_option maxRecDepth 20000

theorem local_ret (p : MPath) (m : Mir) : PRet Tryz.prog 44 [.agg p.cells, .agg m.cells] (.bool (inB p.loc m.locals.length)) := by
  refine pret_intro fd44 (by simp) ?_
  simp only [lc44, VC0, VC1, VC2, VC3, VC4, VC5, VC6, VC7, VC8, VC9, reduceIte, reduceCtorEq, Nat.reduceEqDiff, Nat.reduceAdd, Nat.reduceMul, Nat.reduceBEq, Nat.reduceLT, Nat.reduceLeDiff, Int.reduceEq, Int.reduceLT, Int.reduceLE, Int.reduceNeg, Int.reduceToNat, Int.reduceAdd, Nat.reduceDiv, Nat.reduceSub, Nat.reduceMod, encL, MC0, MC1, MC2]
  repeat' (first | refine condDn_of (fun h => ?_) (fun h => ?_) <;> simp only [VC0, VC1, VC2, VC3, VC4, VC5, VC6, VC7, VC8, VC9, reduceIte, reduceCtorEq, Nat.reduceEqDiff, Nat.reduceAdd, Nat.reduceMul, Nat.reduceBEq, Nat.reduceLT, Nat.reduceLeDiff, Int.reduceEq, Int.reduceLT, Int.reduceLE, Int.reduceNeg, Int.reduceToNat, Int.reduceAdd, Nat.reduceDiv, Nat.reduceSub, Nat.reduceMod, encL, MC0, MC1, MC2, h] | refine condD_of (fun h => ?_) (fun h => ?_) <;> simp only [VC0, VC1, VC2, VC3, VC4, VC5, VC6, VC7, VC8, VC9, reduceIte, reduceCtorEq, Nat.reduceEqDiff, Nat.reduceAdd, Nat.reduceMul, Nat.reduceBEq, Nat.reduceLT, Nat.reduceLeDiff, Int.reduceEq, Int.reduceLT, Int.reduceLE, Int.reduceNeg, Int.reduceToNat, Int.reduceAdd, Nat.reduceDiv, Nat.reduceSub, Nat.reduceMod, encL, MC0, MC1, MC2, h] | refine condVn_of (fun h => ?_) (fun h => ?_) <;> simp only [VC0, VC1, VC2, VC3, VC4, VC5, VC6, VC7, VC8, VC9, reduceIte, reduceCtorEq, Nat.reduceEqDiff, Nat.reduceAdd, Nat.reduceMul, Nat.reduceBEq, Nat.reduceLT, Nat.reduceLeDiff, Int.reduceEq, Int.reduceLT, Int.reduceLE, Int.reduceNeg, Int.reduceToNat, Int.reduceAdd, Nat.reduceDiv, Nat.reduceSub, Nat.reduceMod, encL, MC0, MC1, MC2, h] | refine condV_of (fun h => ?_) (fun h => ?_) <;> simp only [VC0, VC1, VC2, VC3, VC4, VC5, VC6, VC7, VC8, VC9, reduceIte, reduceCtorEq, Nat.reduceEqDiff, Nat.reduceAdd, Nat.reduceMul, Nat.reduceBEq, Nat.reduceLT, Nat.reduceLeDiff, Int.reduceEq, Int.reduceLT, Int.reduceLE, Int.reduceNeg, Int.reduceToNat, Int.reduceAdd, Nat.reduceDiv, Nat.reduceSub, Nat.reduceMod, encL, MC0, MC1, MC2, h] | refine gdDn_of (fun h => ?_) (fun h => ?_) <;> simp only [VC0, VC1, VC2, VC3, VC4, VC5, VC6, VC7, VC8, VC9, reduceIte, reduceCtorEq, Nat.reduceEqDiff, Nat.reduceAdd, Nat.reduceMul, Nat.reduceBEq, Nat.reduceLT, Nat.reduceLeDiff, Int.reduceEq, Int.reduceLT, Int.reduceLE, Int.reduceNeg, Int.reduceToNat, Int.reduceAdd, Nat.reduceDiv, Nat.reduceSub, Nat.reduceMod, encL, MC0, MC1, MC2, h] | refine gdD_of (fun h => ?_) (fun h => ?_) <;> simp only [VC0, VC1, VC2, VC3, VC4, VC5, VC6, VC7, VC8, VC9, reduceIte, reduceCtorEq, Nat.reduceEqDiff, Nat.reduceAdd, Nat.reduceMul, Nat.reduceBEq, Nat.reduceLT, Nat.reduceLeDiff, Int.reduceEq, Int.reduceLT, Int.reduceLE, Int.reduceNeg, Int.reduceToNat, Int.reduceAdd, Nat.reduceDiv, Nat.reduceSub, Nat.reduceMod, encL, MC0, MC1, MC2, h] | refine gdVMn_of (fun h => ?_) (fun h => ?_) <;> simp only [VC0, VC1, VC2, VC3, VC4, VC5, VC6, VC7, VC8, VC9, reduceIte, reduceCtorEq, Nat.reduceEqDiff, Nat.reduceAdd, Nat.reduceMul, Nat.reduceBEq, Nat.reduceLT, Nat.reduceLeDiff, Int.reduceEq, Int.reduceLT, Int.reduceLE, Int.reduceNeg, Int.reduceToNat, Int.reduceAdd, Nat.reduceDiv, Nat.reduceSub, Nat.reduceMod, encL, MC0, MC1, MC2, h] | refine gdVM_of (fun h => ?_) (fun h => ?_) <;> simp only [VC0, VC1, VC2, VC3, VC4, VC5, VC6, VC7, VC8, VC9, reduceIte, reduceCtorEq, Nat.reduceEqDiff, Nat.reduceAdd, Nat.reduceMul, Nat.reduceBEq, Nat.reduceLT, Nat.reduceLeDiff, Int.reduceEq, Int.reduceLT, Int.reduceLE, Int.reduceNeg, Int.reduceToNat, Int.reduceAdd, Nat.reduceDiv, Nat.reduceSub, Nat.reduceMod, encL, MC0, MC1, MC2, h] | refine gpDn_of (fun h => ?_) (fun h => ?_) <;> simp only [VC0, VC1, VC2, VC3, VC4, VC5, VC6, VC7, VC8, VC9, reduceIte, reduceCtorEq, Nat.reduceEqDiff, Nat.reduceAdd, Nat.reduceMul, Nat.reduceBEq, Nat.reduceLT, Nat.reduceLeDiff, Int.reduceEq, Int.reduceLT, Int.reduceLE, Int.reduceNeg, Int.reduceToNat, Int.reduceAdd, Nat.reduceDiv, Nat.reduceSub, Nat.reduceMod, encL, MC0, MC1, MC2, h] | refine gpD_of (fun h => ?_) (fun h => ?_) <;> simp only [VC0, VC1, VC2, VC3, VC4, VC5, VC6, VC7, VC8, VC9, reduceIte, reduceCtorEq, Nat.reduceEqDiff, Nat.reduceAdd, Nat.reduceMul, Nat.reduceBEq, Nat.reduceLT, Nat.reduceLeDiff, Int.reduceEq, Int.reduceLT, Int.reduceLE, Int.reduceNeg, Int.reduceToNat, Int.reduceAdd, Nat.reduceDiv, Nat.reduceSub, Nat.reduceMod, encL, MC0, MC1, MC2, h] | refine gdVn_of (fun h => ?_) (fun h => ?_) <;> simp only [VC0, VC1, VC2, VC3, VC4, VC5, VC6, VC7, VC8, VC9, reduceIte, reduceCtorEq, Nat.reduceEqDiff, Nat.reduceAdd, Nat.reduceMul, Nat.reduceBEq, Nat.reduceLT, Nat.reduceLeDiff, Int.reduceEq, Int.reduceLT, Int.reduceLE, Int.reduceNeg, Int.reduceToNat, Int.reduceAdd, Nat.reduceDiv, Nat.reduceSub, Nat.reduceMod, encL, MC0, MC1, MC2, h] | refine gdV_of (fun h => ?_) (fun h => ?_) <;> simp only [VC0, VC1, VC2, VC3, VC4, VC5, VC6, VC7, VC8, VC9, reduceIte, reduceCtorEq, Nat.reduceEqDiff, Nat.reduceAdd, Nat.reduceMul, Nat.reduceBEq, Nat.reduceLT, Nat.reduceLeDiff, Int.reduceEq, Int.reduceLT, Int.reduceLE, Int.reduceNeg, Int.reduceToNat, Int.reduceAdd, Nat.reduceDiv, Nat.reduceSub, Nat.reduceMod, encL, MC0, MC1, MC2, h] | (unfold InI64; omega) | refine And.intro ?_ ?_)
  all_goals simp [inB, *]

def namedB (o : MOper) : Bool := decide (o.kind = 3) || decide (o.kind = 4)
theorem named_ret (o : MOper) : PRet Tryz.prog 45 [.agg o.cells] (.bool (namedB o)) := by
  refine pret_intro fd45 (by simp) ?_
  simp only [lc45, VC0, VC1, VC2, VC3, VC4, VC5, VC6, VC7, VC8, VC9, reduceIte, reduceCtorEq, Nat.reduceEqDiff, Nat.reduceAdd, Nat.reduceMul, Nat.reduceBEq, Nat.reduceLT, Nat.reduceLeDiff, Int.reduceEq, Int.reduceLT, Int.reduceLE, Int.reduceNeg, Int.reduceToNat, Int.reduceAdd, Nat.reduceDiv, Nat.reduceSub, Nat.reduceMod, encL, MC0, MC1, MC2]
  repeat' (first | refine condDn_of (fun h => ?_) (fun h => ?_) <;> simp only [VC0, VC1, VC2, VC3, VC4, VC5, VC6, VC7, VC8, VC9, reduceIte, reduceCtorEq, Nat.reduceEqDiff, Nat.reduceAdd, Nat.reduceMul, Nat.reduceBEq, Nat.reduceLT, Nat.reduceLeDiff, Int.reduceEq, Int.reduceLT, Int.reduceLE, Int.reduceNeg, Int.reduceToNat, Int.reduceAdd, Nat.reduceDiv, Nat.reduceSub, Nat.reduceMod, encL, MC0, MC1, MC2, h] | refine condD_of (fun h => ?_) (fun h => ?_) <;> simp only [VC0, VC1, VC2, VC3, VC4, VC5, VC6, VC7, VC8, VC9, reduceIte, reduceCtorEq, Nat.reduceEqDiff, Nat.reduceAdd, Nat.reduceMul, Nat.reduceBEq, Nat.reduceLT, Nat.reduceLeDiff, Int.reduceEq, Int.reduceLT, Int.reduceLE, Int.reduceNeg, Int.reduceToNat, Int.reduceAdd, Nat.reduceDiv, Nat.reduceSub, Nat.reduceMod, encL, MC0, MC1, MC2, h] | refine condVn_of (fun h => ?_) (fun h => ?_) <;> simp only [VC0, VC1, VC2, VC3, VC4, VC5, VC6, VC7, VC8, VC9, reduceIte, reduceCtorEq, Nat.reduceEqDiff, Nat.reduceAdd, Nat.reduceMul, Nat.reduceBEq, Nat.reduceLT, Nat.reduceLeDiff, Int.reduceEq, Int.reduceLT, Int.reduceLE, Int.reduceNeg, Int.reduceToNat, Int.reduceAdd, Nat.reduceDiv, Nat.reduceSub, Nat.reduceMod, encL, MC0, MC1, MC2, h] | refine condV_of (fun h => ?_) (fun h => ?_) <;> simp only [VC0, VC1, VC2, VC3, VC4, VC5, VC6, VC7, VC8, VC9, reduceIte, reduceCtorEq, Nat.reduceEqDiff, Nat.reduceAdd, Nat.reduceMul, Nat.reduceBEq, Nat.reduceLT, Nat.reduceLeDiff, Int.reduceEq, Int.reduceLT, Int.reduceLE, Int.reduceNeg, Int.reduceToNat, Int.reduceAdd, Nat.reduceDiv, Nat.reduceSub, Nat.reduceMod, encL, MC0, MC1, MC2, h] | refine gdDn_of (fun h => ?_) (fun h => ?_) <;> simp only [VC0, VC1, VC2, VC3, VC4, VC5, VC6, VC7, VC8, VC9, reduceIte, reduceCtorEq, Nat.reduceEqDiff, Nat.reduceAdd, Nat.reduceMul, Nat.reduceBEq, Nat.reduceLT, Nat.reduceLeDiff, Int.reduceEq, Int.reduceLT, Int.reduceLE, Int.reduceNeg, Int.reduceToNat, Int.reduceAdd, Nat.reduceDiv, Nat.reduceSub, Nat.reduceMod, encL, MC0, MC1, MC2, h] | refine gdD_of (fun h => ?_) (fun h => ?_) <;> simp only [VC0, VC1, VC2, VC3, VC4, VC5, VC6, VC7, VC8, VC9, reduceIte, reduceCtorEq, Nat.reduceEqDiff, Nat.reduceAdd, Nat.reduceMul, Nat.reduceBEq, Nat.reduceLT, Nat.reduceLeDiff, Int.reduceEq, Int.reduceLT, Int.reduceLE, Int.reduceNeg, Int.reduceToNat, Int.reduceAdd, Nat.reduceDiv, Nat.reduceSub, Nat.reduceMod, encL, MC0, MC1, MC2, h] | refine gdVMn_of (fun h => ?_) (fun h => ?_) <;> simp only [VC0, VC1, VC2, VC3, VC4, VC5, VC6, VC7, VC8, VC9, reduceIte, reduceCtorEq, Nat.reduceEqDiff, Nat.reduceAdd, Nat.reduceMul, Nat.reduceBEq, Nat.reduceLT, Nat.reduceLeDiff, Int.reduceEq, Int.reduceLT, Int.reduceLE, Int.reduceNeg, Int.reduceToNat, Int.reduceAdd, Nat.reduceDiv, Nat.reduceSub, Nat.reduceMod, encL, MC0, MC1, MC2, h] | refine gdVM_of (fun h => ?_) (fun h => ?_) <;> simp only [VC0, VC1, VC2, VC3, VC4, VC5, VC6, VC7, VC8, VC9, reduceIte, reduceCtorEq, Nat.reduceEqDiff, Nat.reduceAdd, Nat.reduceMul, Nat.reduceBEq, Nat.reduceLT, Nat.reduceLeDiff, Int.reduceEq, Int.reduceLT, Int.reduceLE, Int.reduceNeg, Int.reduceToNat, Int.reduceAdd, Nat.reduceDiv, Nat.reduceSub, Nat.reduceMod, encL, MC0, MC1, MC2, h] | refine gpDn_of (fun h => ?_) (fun h => ?_) <;> simp only [VC0, VC1, VC2, VC3, VC4, VC5, VC6, VC7, VC8, VC9, reduceIte, reduceCtorEq, Nat.reduceEqDiff, Nat.reduceAdd, Nat.reduceMul, Nat.reduceBEq, Nat.reduceLT, Nat.reduceLeDiff, Int.reduceEq, Int.reduceLT, Int.reduceLE, Int.reduceNeg, Int.reduceToNat, Int.reduceAdd, Nat.reduceDiv, Nat.reduceSub, Nat.reduceMod, encL, MC0, MC1, MC2, h] | refine gpD_of (fun h => ?_) (fun h => ?_) <;> simp only [VC0, VC1, VC2, VC3, VC4, VC5, VC6, VC7, VC8, VC9, reduceIte, reduceCtorEq, Nat.reduceEqDiff, Nat.reduceAdd, Nat.reduceMul, Nat.reduceBEq, Nat.reduceLT, Nat.reduceLeDiff, Int.reduceEq, Int.reduceLT, Int.reduceLE, Int.reduceNeg, Int.reduceToNat, Int.reduceAdd, Nat.reduceDiv, Nat.reduceSub, Nat.reduceMod, encL, MC0, MC1, MC2, h] | refine gdVn_of (fun h => ?_) (fun h => ?_) <;> simp only [VC0, VC1, VC2, VC3, VC4, VC5, VC6, VC7, VC8, VC9, reduceIte, reduceCtorEq, Nat.reduceEqDiff, Nat.reduceAdd, Nat.reduceMul, Nat.reduceBEq, Nat.reduceLT, Nat.reduceLeDiff, Int.reduceEq, Int.reduceLT, Int.reduceLE, Int.reduceNeg, Int.reduceToNat, Int.reduceAdd, Nat.reduceDiv, Nat.reduceSub, Nat.reduceMod, encL, MC0, MC1, MC2, h] | refine gdV_of (fun h => ?_) (fun h => ?_) <;> simp only [VC0, VC1, VC2, VC3, VC4, VC5, VC6, VC7, VC8, VC9, reduceIte, reduceCtorEq, Nat.reduceEqDiff, Nat.reduceAdd, Nat.reduceMul, Nat.reduceBEq, Nat.reduceLT, Nat.reduceLeDiff, Int.reduceEq, Int.reduceLT, Int.reduceLE, Int.reduceNeg, Int.reduceToNat, Int.reduceAdd, Nat.reduceDiv, Nat.reduceSub, Nat.reduceMod, encL, MC0, MC1, MC2, h] | (unfold InI64; omega) | refine And.intro ?_ ?_)
  all_goals simp [namedB, *]

/-- The operands that a value's kind names. -/
def opersL (v : MVal) : List MOper := if v.kind = 1 ∨ v.kind = 4 then [v.a] else if v.kind = 5 then [v.a, v.b] else if v.kind = 6 ∨ v.kind = 7 then v.args else []

theorem fill1 (a : MOper) : setCells [.int .i64 0, .int .i64 0, .int .i64 0, .e0] 0 a.cells = a.cells := setCells_all (by rw [MOper.len]; rfl)
theorem fill2 (a b : MOper) : setCells (setCells [.int .i64 0, .int .i64 0, .int .i64 0, .e0, .int .i64 0, .int .i64 0, .int .i64 0, .e0] 0 a.cells) 4 b.cells = a.cells ++ b.cells := by
  simp [setCells, MOper.cells]

theorem opers_ret (v : MVal) : PRet Tryz.prog 24 [.agg v.cells] (encL MOper.cells (opersL v)) := by
  refine pret_intro_l fd24 (by simp) ?_
  simp only [lc24, VC0, VC1, VC2, VC3, VC4, VC5, VC6, VC7, VC8, VC9, reduceIte, reduceCtorEq, Nat.reduceEqDiff, Nat.reduceAdd, Nat.reduceMul, Nat.reduceBEq, Nat.reduceLT, Nat.reduceLeDiff, Int.reduceEq, Int.reduceLT, Int.reduceLE, Int.reduceNeg, Int.reduceToNat, Int.reduceAdd, Nat.reduceDiv, Nat.reduceSub, Nat.reduceMod, encL, MC0, MC1, MC2]
  repeat' (first | refine condDn_of (fun h => ?_) (fun h => ?_) <;> simp only [VC0, VC1, VC2, VC3, VC4, VC5, VC6, VC7, VC8, VC9, reduceIte, reduceCtorEq, Nat.reduceEqDiff, Nat.reduceAdd, Nat.reduceMul, Nat.reduceBEq, Nat.reduceLT, Nat.reduceLeDiff, Int.reduceEq, Int.reduceLT, Int.reduceLE, Int.reduceNeg, Int.reduceToNat, Int.reduceAdd, Nat.reduceDiv, Nat.reduceSub, Nat.reduceMod, encL, MC0, MC1, MC2, h, fill1, fill2, MOper.len, V.cells] | refine condD_of (fun h => ?_) (fun h => ?_) <;> simp only [VC0, VC1, VC2, VC3, VC4, VC5, VC6, VC7, VC8, VC9, reduceIte, reduceCtorEq, Nat.reduceEqDiff, Nat.reduceAdd, Nat.reduceMul, Nat.reduceBEq, Nat.reduceLT, Nat.reduceLeDiff, Int.reduceEq, Int.reduceLT, Int.reduceLE, Int.reduceNeg, Int.reduceToNat, Int.reduceAdd, Nat.reduceDiv, Nat.reduceSub, Nat.reduceMod, encL, MC0, MC1, MC2, h, fill1, fill2, MOper.len, V.cells] | refine condVn_of (fun h => ?_) (fun h => ?_) <;> simp only [VC0, VC1, VC2, VC3, VC4, VC5, VC6, VC7, VC8, VC9, reduceIte, reduceCtorEq, Nat.reduceEqDiff, Nat.reduceAdd, Nat.reduceMul, Nat.reduceBEq, Nat.reduceLT, Nat.reduceLeDiff, Int.reduceEq, Int.reduceLT, Int.reduceLE, Int.reduceNeg, Int.reduceToNat, Int.reduceAdd, Nat.reduceDiv, Nat.reduceSub, Nat.reduceMod, encL, MC0, MC1, MC2, h, fill1, fill2, MOper.len, V.cells] | refine condV_of (fun h => ?_) (fun h => ?_) <;> simp only [VC0, VC1, VC2, VC3, VC4, VC5, VC6, VC7, VC8, VC9, reduceIte, reduceCtorEq, Nat.reduceEqDiff, Nat.reduceAdd, Nat.reduceMul, Nat.reduceBEq, Nat.reduceLT, Nat.reduceLeDiff, Int.reduceEq, Int.reduceLT, Int.reduceLE, Int.reduceNeg, Int.reduceToNat, Int.reduceAdd, Nat.reduceDiv, Nat.reduceSub, Nat.reduceMod, encL, MC0, MC1, MC2, h, fill1, fill2, MOper.len, V.cells] | refine gdDn_of (fun h => ?_) (fun h => ?_) <;> simp only [VC0, VC1, VC2, VC3, VC4, VC5, VC6, VC7, VC8, VC9, reduceIte, reduceCtorEq, Nat.reduceEqDiff, Nat.reduceAdd, Nat.reduceMul, Nat.reduceBEq, Nat.reduceLT, Nat.reduceLeDiff, Int.reduceEq, Int.reduceLT, Int.reduceLE, Int.reduceNeg, Int.reduceToNat, Int.reduceAdd, Nat.reduceDiv, Nat.reduceSub, Nat.reduceMod, encL, MC0, MC1, MC2, h, fill1, fill2, MOper.len, V.cells] | refine gdD_of (fun h => ?_) (fun h => ?_) <;> simp only [VC0, VC1, VC2, VC3, VC4, VC5, VC6, VC7, VC8, VC9, reduceIte, reduceCtorEq, Nat.reduceEqDiff, Nat.reduceAdd, Nat.reduceMul, Nat.reduceBEq, Nat.reduceLT, Nat.reduceLeDiff, Int.reduceEq, Int.reduceLT, Int.reduceLE, Int.reduceNeg, Int.reduceToNat, Int.reduceAdd, Nat.reduceDiv, Nat.reduceSub, Nat.reduceMod, encL, MC0, MC1, MC2, h, fill1, fill2, MOper.len, V.cells] | refine gdVMn_of (fun h => ?_) (fun h => ?_) <;> simp only [VC0, VC1, VC2, VC3, VC4, VC5, VC6, VC7, VC8, VC9, reduceIte, reduceCtorEq, Nat.reduceEqDiff, Nat.reduceAdd, Nat.reduceMul, Nat.reduceBEq, Nat.reduceLT, Nat.reduceLeDiff, Int.reduceEq, Int.reduceLT, Int.reduceLE, Int.reduceNeg, Int.reduceToNat, Int.reduceAdd, Nat.reduceDiv, Nat.reduceSub, Nat.reduceMod, encL, MC0, MC1, MC2, h, fill1, fill2, MOper.len, V.cells] | refine gdVM_of (fun h => ?_) (fun h => ?_) <;> simp only [VC0, VC1, VC2, VC3, VC4, VC5, VC6, VC7, VC8, VC9, reduceIte, reduceCtorEq, Nat.reduceEqDiff, Nat.reduceAdd, Nat.reduceMul, Nat.reduceBEq, Nat.reduceLT, Nat.reduceLeDiff, Int.reduceEq, Int.reduceLT, Int.reduceLE, Int.reduceNeg, Int.reduceToNat, Int.reduceAdd, Nat.reduceDiv, Nat.reduceSub, Nat.reduceMod, encL, MC0, MC1, MC2, h, fill1, fill2, MOper.len, V.cells] | refine gpDn_of (fun h => ?_) (fun h => ?_) <;> simp only [VC0, VC1, VC2, VC3, VC4, VC5, VC6, VC7, VC8, VC9, reduceIte, reduceCtorEq, Nat.reduceEqDiff, Nat.reduceAdd, Nat.reduceMul, Nat.reduceBEq, Nat.reduceLT, Nat.reduceLeDiff, Int.reduceEq, Int.reduceLT, Int.reduceLE, Int.reduceNeg, Int.reduceToNat, Int.reduceAdd, Nat.reduceDiv, Nat.reduceSub, Nat.reduceMod, encL, MC0, MC1, MC2, h, fill1, fill2, MOper.len, V.cells] | refine gpD_of (fun h => ?_) (fun h => ?_) <;> simp only [VC0, VC1, VC2, VC3, VC4, VC5, VC6, VC7, VC8, VC9, reduceIte, reduceCtorEq, Nat.reduceEqDiff, Nat.reduceAdd, Nat.reduceMul, Nat.reduceBEq, Nat.reduceLT, Nat.reduceLeDiff, Int.reduceEq, Int.reduceLT, Int.reduceLE, Int.reduceNeg, Int.reduceToNat, Int.reduceAdd, Nat.reduceDiv, Nat.reduceSub, Nat.reduceMod, encL, MC0, MC1, MC2, h, fill1, fill2, MOper.len, V.cells] | refine gdVn_of (fun h => ?_) (fun h => ?_) <;> simp only [VC0, VC1, VC2, VC3, VC4, VC5, VC6, VC7, VC8, VC9, reduceIte, reduceCtorEq, Nat.reduceEqDiff, Nat.reduceAdd, Nat.reduceMul, Nat.reduceBEq, Nat.reduceLT, Nat.reduceLeDiff, Int.reduceEq, Int.reduceLT, Int.reduceLE, Int.reduceNeg, Int.reduceToNat, Int.reduceAdd, Nat.reduceDiv, Nat.reduceSub, Nat.reduceMod, encL, MC0, MC1, MC2, h, fill1, fill2, MOper.len, V.cells] | refine gdV_of (fun h => ?_) (fun h => ?_) <;> simp only [VC0, VC1, VC2, VC3, VC4, VC5, VC6, VC7, VC8, VC9, reduceIte, reduceCtorEq, Nat.reduceEqDiff, Nat.reduceAdd, Nat.reduceMul, Nat.reduceBEq, Nat.reduceLT, Nat.reduceLeDiff, Int.reduceEq, Int.reduceLT, Int.reduceLE, Int.reduceNeg, Int.reduceToNat, Int.reduceAdd, Nat.reduceDiv, Nat.reduceSub, Nat.reduceMod, encL, MC0, MC1, MC2, h, fill1, fill2, MOper.len, V.cells] | (unfold InI64; omega) | refine And.intro ?_ ?_)
  all_goals simp [opersL, fill1, fill2, encL, MOper.len, V.cells, partsOk, fillL, V.known, *]
  exact ⟨List.all_eq_true.1 (MOper.imvc _ 2), List.all_eq_true.1 (MOper.imvc _ 2)⟩

theorem opersL_len (v : MVal) (hv : v.ok) : (opersL v).length ≤ 9223372036854775807 := by
  obtain ⟨_, _, _, _, _, _, _, _, ha, _⟩ := hv
  rw [maxLen_eq] at ha
  unfold opersL
  split
  · simp
  · split
    · simp
    · split
      · exact ha
      · simp

theorem operB_eq (o : MOper) (n : Int) : operB o n = (!decide (o.kind < 1) && !decide (4 < o.kind) && (!namedB o || inB o.path.loc n)) := by
  unfold operB namedB
  by_cases h1 : o.kind = 1 ∨ o.kind = 2
  · rw [if_pos h1]
    rcases h1 with h | h <;> simp [h]
  · rw [if_neg h1]
    by_cases h2 : o.kind = 3 ∨ o.kind = 4
    · rw [if_pos h2]
      rcases h2 with h | h <;> simp [h]
    · rw [if_neg h2]
      simp
      omega

theorem valB_eq (v : MVal) (n r : Int) : valB v n r = ((opersL v).all (fun o => operB o n) && (if v.kind = 2 ∨ v.kind = 3 then inB v.path.loc n && inB v.region r else (if v.kind = 6 ∨ v.kind = 7 then v.regions.all (fun i => inB i r) else true) && decide (1 ≤ v.kind) && decide (v.kind ≤ 7))) := by
  unfold valB opersL
  by_cases h1 : v.kind = 2 ∨ v.kind = 3
  · have : ¬ (v.kind = 1 ∨ v.kind = 4) := by omega
    have h5 : ¬ v.kind = 5 := by omega
    have h6 : ¬ (v.kind = 6 ∨ v.kind = 7) := by omega
    simp only [h1, this, h5, h6, if_true, if_false, List.all_nil, Bool.true_and]
  · by_cases h5 : v.kind = 5
    · simp [h5, Bool.and_comm]
    · by_cases h4 : v.kind = 1 ∨ v.kind = 4
      · rcases h4 with h | h <;> simp [h]
      · by_cases h6 : v.kind = 6 ∨ v.kind = 7
        · rcases h6 with h | h <;> simp [h, Bool.and_comm]
        · simp [h1, h5, h4, h6]
          omega

theorem value16_ret (v : MVal) (hv : v.ok) (m : Mir) : PRet Tryz.prog 43 [.agg v.cells, .agg m.cells] (.bool (valB v m.locals.length m.regions)) := by
  have hol := opersL_len v hv
  obtain ⟨_, _, _, _, _, _, _, ⟨hr, _⟩, ha, _⟩ := hv
  rw [maxLen_eq] at ha hr
  refine pret_intro fd43 (by simp) ?_
  simp only [lc43, VC0, VC1, VC2, VC3, VC4, VC5, VC6, VC7, VC8, VC9, reduceIte, reduceCtorEq, Nat.reduceEqDiff, Nat.reduceAdd, Nat.reduceMul, Nat.reduceBEq, Nat.reduceLT, Nat.reduceLeDiff, Int.reduceEq, Int.reduceLT, Int.reduceLE, Int.reduceNeg, Int.reduceToNat, Int.reduceAdd, Nat.reduceDiv, Nat.reduceSub, Nat.reduceMod, encL, MC0, MC1, MC2]
  refine callX_of (opers_ret v) (.inl rfl) ?_
  simp only [VC0, VC1, VC2, VC3, VC4, VC5, VC6, VC7, VC8, VC9, reduceIte, reduceCtorEq, Nat.reduceEqDiff, Nat.reduceAdd, Nat.reduceMul, Nat.reduceBEq, Nat.reduceLT, Nat.reduceLeDiff, Int.reduceEq, Int.reduceLT, Int.reduceLE, Int.reduceNeg, Int.reduceToNat, Int.reduceAdd, Nat.reduceDiv, Nat.reduceSub, Nat.reduceMod, encL, MC0, MC1, MC2]
  refine loop_vcg (ι := Nat × (Nat → Nat)) (fun (k, c) => stO [(2, .box v.cells), (3, .box m.cells), (5, .val (encL MOper.cells (opersL v))), (6, .val (.int .i64 k))] c)
    (fun (k, _) => k ≤ (opersL v).length ∧ ((opersL v).drop k).all (fun o => operB o m.locals.length) = (opersL v).all (fun o => operB o m.locals.length)) (fun (k, _) => (opersL v).length - k) (0, _) ⟨by omega, rfl⟩ (ent_of _ [] rfl rfl (by simp only [VC0, VC1, VC2, VC3, VC4, VC5, VC6, VC7, VC8, VC9, reduceIte, reduceCtorEq, Nat.reduceEqDiff, Nat.reduceAdd, Nat.reduceMul, Nat.reduceBEq, Nat.reduceLT, Nat.reduceLeDiff, Int.reduceEq, Int.reduceLT, Int.reduceLE, Int.reduceNeg, Int.reduceToNat, Int.reduceAdd, Nat.reduceDiv, Nat.reduceSub, Nat.reduceMod, encL, MC0, MC1, MC2])) ?_
  rintro ⟨k, c⟩ ⟨hk, hb⟩
  simp only [VC0, VC1, VC2, VC3, VC4, VC5, VC6, VC7, VC8, VC9, reduceIte, reduceCtorEq, Nat.reduceEqDiff, Nat.reduceAdd, Nat.reduceMul, Nat.reduceBEq, Nat.reduceLT, Nat.reduceLeDiff, Int.reduceEq, Int.reduceLT, Int.reduceLE, Int.reduceNeg, Int.reduceToNat, Int.reduceAdd, Nat.reduceDiv, Nat.reduceSub, Nat.reduceMod, encL, MC0, MC1, MC2]
  refine condD_of (fun h => ?_) (fun h => ?_)
  · have hk' : k < (opersL v).length := by omega
    rw [all_drop _ _ _ hk'] at hb
    have hin : 0 ≤ (k : Int) ∧ (k : Int) < (opersL v).length := by omega
    simp only [VC0, VC1, VC2, VC3, VC4, VC5, VC6, VC7, VC8, VC9, reduceIte, reduceCtorEq, Nat.reduceEqDiff, Nat.reduceAdd, Nat.reduceMul, Nat.reduceBEq, Nat.reduceLT, Nat.reduceLeDiff, Int.reduceEq, Int.reduceLT, Int.reduceLE, Int.reduceNeg, Int.reduceToNat, Int.reduceAdd, Nat.reduceDiv, Nat.reduceSub, Nat.reduceMod, encL, MC0, MC1, MC2, hk', hin]
    repeat' (first | refine condDn_of (fun h => ?_) (fun h => ?_) <;> simp only [VC0, VC1, VC2, VC3, VC4, VC5, VC6, VC7, VC8, VC9, reduceIte, reduceCtorEq, Nat.reduceEqDiff, Nat.reduceAdd, Nat.reduceMul, Nat.reduceBEq, Nat.reduceLT, Nat.reduceLeDiff, Int.reduceEq, Int.reduceLT, Int.reduceLE, Int.reduceNeg, Int.reduceToNat, Int.reduceAdd, Nat.reduceDiv, Nat.reduceSub, Nat.reduceMod, encL, MC0, MC1, MC2, h, hk', hin] | refine condD_of (fun h => ?_) (fun h => ?_) <;> simp only [VC0, VC1, VC2, VC3, VC4, VC5, VC6, VC7, VC8, VC9, reduceIte, reduceCtorEq, Nat.reduceEqDiff, Nat.reduceAdd, Nat.reduceMul, Nat.reduceBEq, Nat.reduceLT, Nat.reduceLeDiff, Int.reduceEq, Int.reduceLT, Int.reduceLE, Int.reduceNeg, Int.reduceToNat, Int.reduceAdd, Nat.reduceDiv, Nat.reduceSub, Nat.reduceMod, encL, MC0, MC1, MC2, h, hk', hin] | refine condVn_of (fun h => ?_) (fun h => ?_) <;> simp only [VC0, VC1, VC2, VC3, VC4, VC5, VC6, VC7, VC8, VC9, reduceIte, reduceCtorEq, Nat.reduceEqDiff, Nat.reduceAdd, Nat.reduceMul, Nat.reduceBEq, Nat.reduceLT, Nat.reduceLeDiff, Int.reduceEq, Int.reduceLT, Int.reduceLE, Int.reduceNeg, Int.reduceToNat, Int.reduceAdd, Nat.reduceDiv, Nat.reduceSub, Nat.reduceMod, encL, MC0, MC1, MC2, h, hk', hin] | refine condV_of (fun h => ?_) (fun h => ?_) <;> simp only [VC0, VC1, VC2, VC3, VC4, VC5, VC6, VC7, VC8, VC9, reduceIte, reduceCtorEq, Nat.reduceEqDiff, Nat.reduceAdd, Nat.reduceMul, Nat.reduceBEq, Nat.reduceLT, Nat.reduceLeDiff, Int.reduceEq, Int.reduceLT, Int.reduceLE, Int.reduceNeg, Int.reduceToNat, Int.reduceAdd, Nat.reduceDiv, Nat.reduceSub, Nat.reduceMod, encL, MC0, MC1, MC2, h, hk', hin] | refine gdDn_of (fun h => ?_) (fun h => ?_) <;> simp only [VC0, VC1, VC2, VC3, VC4, VC5, VC6, VC7, VC8, VC9, reduceIte, reduceCtorEq, Nat.reduceEqDiff, Nat.reduceAdd, Nat.reduceMul, Nat.reduceBEq, Nat.reduceLT, Nat.reduceLeDiff, Int.reduceEq, Int.reduceLT, Int.reduceLE, Int.reduceNeg, Int.reduceToNat, Int.reduceAdd, Nat.reduceDiv, Nat.reduceSub, Nat.reduceMod, encL, MC0, MC1, MC2, h, hk', hin] | refine gdD_of (fun h => ?_) (fun h => ?_) <;> simp only [VC0, VC1, VC2, VC3, VC4, VC5, VC6, VC7, VC8, VC9, reduceIte, reduceCtorEq, Nat.reduceEqDiff, Nat.reduceAdd, Nat.reduceMul, Nat.reduceBEq, Nat.reduceLT, Nat.reduceLeDiff, Int.reduceEq, Int.reduceLT, Int.reduceLE, Int.reduceNeg, Int.reduceToNat, Int.reduceAdd, Nat.reduceDiv, Nat.reduceSub, Nat.reduceMod, encL, MC0, MC1, MC2, h, hk', hin] | refine gdVMn_of (fun h => ?_) (fun h => ?_) <;> simp only [VC0, VC1, VC2, VC3, VC4, VC5, VC6, VC7, VC8, VC9, reduceIte, reduceCtorEq, Nat.reduceEqDiff, Nat.reduceAdd, Nat.reduceMul, Nat.reduceBEq, Nat.reduceLT, Nat.reduceLeDiff, Int.reduceEq, Int.reduceLT, Int.reduceLE, Int.reduceNeg, Int.reduceToNat, Int.reduceAdd, Nat.reduceDiv, Nat.reduceSub, Nat.reduceMod, encL, MC0, MC1, MC2, h, hk', hin] | refine gdVM_of (fun h => ?_) (fun h => ?_) <;> simp only [VC0, VC1, VC2, VC3, VC4, VC5, VC6, VC7, VC8, VC9, reduceIte, reduceCtorEq, Nat.reduceEqDiff, Nat.reduceAdd, Nat.reduceMul, Nat.reduceBEq, Nat.reduceLT, Nat.reduceLeDiff, Int.reduceEq, Int.reduceLT, Int.reduceLE, Int.reduceNeg, Int.reduceToNat, Int.reduceAdd, Nat.reduceDiv, Nat.reduceSub, Nat.reduceMod, encL, MC0, MC1, MC2, h, hk', hin] | refine gpDn_of (fun h => ?_) (fun h => ?_) <;> simp only [VC0, VC1, VC2, VC3, VC4, VC5, VC6, VC7, VC8, VC9, reduceIte, reduceCtorEq, Nat.reduceEqDiff, Nat.reduceAdd, Nat.reduceMul, Nat.reduceBEq, Nat.reduceLT, Nat.reduceLeDiff, Int.reduceEq, Int.reduceLT, Int.reduceLE, Int.reduceNeg, Int.reduceToNat, Int.reduceAdd, Nat.reduceDiv, Nat.reduceSub, Nat.reduceMod, encL, MC0, MC1, MC2, h, hk', hin] | refine gpD_of (fun h => ?_) (fun h => ?_) <;> simp only [VC0, VC1, VC2, VC3, VC4, VC5, VC6, VC7, VC8, VC9, reduceIte, reduceCtorEq, Nat.reduceEqDiff, Nat.reduceAdd, Nat.reduceMul, Nat.reduceBEq, Nat.reduceLT, Nat.reduceLeDiff, Int.reduceEq, Int.reduceLT, Int.reduceLE, Int.reduceNeg, Int.reduceToNat, Int.reduceAdd, Nat.reduceDiv, Nat.reduceSub, Nat.reduceMod, encL, MC0, MC1, MC2, h, hk', hin] | refine gdVn_of (fun h => ?_) (fun h => ?_) <;> simp only [VC0, VC1, VC2, VC3, VC4, VC5, VC6, VC7, VC8, VC9, reduceIte, reduceCtorEq, Nat.reduceEqDiff, Nat.reduceAdd, Nat.reduceMul, Nat.reduceBEq, Nat.reduceLT, Nat.reduceLeDiff, Int.reduceEq, Int.reduceLT, Int.reduceLE, Int.reduceNeg, Int.reduceToNat, Int.reduceAdd, Nat.reduceDiv, Nat.reduceSub, Nat.reduceMod, encL, MC0, MC1, MC2, h, hk', hin] | refine gdV_of (fun h => ?_) (fun h => ?_) <;> simp only [VC0, VC1, VC2, VC3, VC4, VC5, VC6, VC7, VC8, VC9, reduceIte, reduceCtorEq, Nat.reduceEqDiff, Nat.reduceAdd, Nat.reduceMul, Nat.reduceBEq, Nat.reduceLT, Nat.reduceLeDiff, Int.reduceEq, Int.reduceLT, Int.reduceLE, Int.reduceNeg, Int.reduceToNat, Int.reduceAdd, Nat.reduceDiv, Nat.reduceSub, Nat.reduceMod, encL, MC0, MC1, MC2, h, hk', hin] | refine callV_of (named_ret _) (by first | exact Or.inr rfl | exact Or.inl rfl) ?_ <;> simp only [VC0, VC1, VC2, VC3, VC4, VC5, VC6, VC7, VC8, VC9, reduceIte, reduceCtorEq, Nat.reduceEqDiff, Nat.reduceAdd, Nat.reduceMul, Nat.reduceBEq, Nat.reduceLT, Nat.reduceLeDiff, Int.reduceEq, Int.reduceLT, Int.reduceLE, Int.reduceNeg, Int.reduceToNat, Int.reduceAdd, Nat.reduceDiv, Nat.reduceSub, Nat.reduceMod, encL, MC0, MC1, MC2, hk', hin] | refine callV_of (local_ret _ m) (by first | exact Or.inr rfl | exact Or.inl rfl) ?_ <;> simp only [VC0, VC1, VC2, VC3, VC4, VC5, VC6, VC7, VC8, VC9, reduceIte, reduceCtorEq, Nat.reduceEqDiff, Nat.reduceAdd, Nat.reduceMul, Nat.reduceBEq, Nat.reduceLT, Nat.reduceLeDiff, Int.reduceEq, Int.reduceLT, Int.reduceLE, Int.reduceNeg, Int.reduceToNat, Int.reduceAdd, Nat.reduceDiv, Nat.reduceSub, Nat.reduceMod, encL, MC0, MC1, MC2, hk', hin] | (unfold InI64; omega) | refine And.intro ?_ ?_)
    all_goals first
      | (have hop : operB (opersL v)[k] m.locals.length = false := by (rw [operB_eq]; clear hb; simp [*])
         rw [hop] at hb
         rw [valB_eq, ← hb, Bool.false_and, Bool.false_and]; done)
      | (have hop : operB (opersL v)[k] m.locals.length = true := by (rw [operB_eq]; clear hb; simp [*])
         rw [hop] at hb
         exact backTo_of (k + 1, _) ⟨by omega, hb⟩ (by simp only []; omega) (ent_of _ [] rfl rfl (by simp only [VC0, VC1, VC2, VC3, VC4, VC5, VC6, VC7, VC8, VC9, reduceIte, reduceCtorEq, Nat.reduceEqDiff, Nat.reduceAdd, Nat.reduceMul, Nat.reduceBEq, Nat.reduceLT, Nat.reduceLeDiff, Int.reduceEq, Int.reduceLT, Int.reduceLE, Int.reduceNeg, Int.reduceToNat, Int.reduceAdd, Nat.reduceDiv, Nat.reduceSub, Nat.reduceMod, encL, MC0, MC1, MC2])))
  · have hk' : k = (opersL v).length := by omega
    subst hk'
    simp only [List.drop_length, List.all_nil] at hb
    simp only [VC0, VC1, VC2, VC3, VC4, VC5, VC6, VC7, VC8, VC9, reduceIte, reduceCtorEq, Nat.reduceEqDiff, Nat.reduceAdd, Nat.reduceMul, Nat.reduceBEq, Nat.reduceLT, Nat.reduceLeDiff, Int.reduceEq, Int.reduceLT, Int.reduceLE, Int.reduceNeg, Int.reduceToNat, Int.reduceAdd, Nat.reduceDiv, Nat.reduceSub, Nat.reduceMod, encL, MC0, MC1, MC2]
    clear h hk
    have hall := hb.symm
    clear hb
    rw [valB_eq, hall, Bool.true_and]
    clear hall
    repeat' (first | refine condDn_of (fun h => ?_) (fun h => ?_) <;> simp only [VC0, VC1, VC2, VC3, VC4, VC5, VC6, VC7, VC8, VC9, reduceIte, reduceCtorEq, Nat.reduceEqDiff, Nat.reduceAdd, Nat.reduceMul, Nat.reduceBEq, Nat.reduceLT, Nat.reduceLeDiff, Int.reduceEq, Int.reduceLT, Int.reduceLE, Int.reduceNeg, Int.reduceToNat, Int.reduceAdd, Nat.reduceDiv, Nat.reduceSub, Nat.reduceMod, encL, MC0, MC1, MC2, h] | refine condD_of (fun h => ?_) (fun h => ?_) <;> simp only [VC0, VC1, VC2, VC3, VC4, VC5, VC6, VC7, VC8, VC9, reduceIte, reduceCtorEq, Nat.reduceEqDiff, Nat.reduceAdd, Nat.reduceMul, Nat.reduceBEq, Nat.reduceLT, Nat.reduceLeDiff, Int.reduceEq, Int.reduceLT, Int.reduceLE, Int.reduceNeg, Int.reduceToNat, Int.reduceAdd, Nat.reduceDiv, Nat.reduceSub, Nat.reduceMod, encL, MC0, MC1, MC2, h] | refine condVn_of (fun h => ?_) (fun h => ?_) <;> simp only [VC0, VC1, VC2, VC3, VC4, VC5, VC6, VC7, VC8, VC9, reduceIte, reduceCtorEq, Nat.reduceEqDiff, Nat.reduceAdd, Nat.reduceMul, Nat.reduceBEq, Nat.reduceLT, Nat.reduceLeDiff, Int.reduceEq, Int.reduceLT, Int.reduceLE, Int.reduceNeg, Int.reduceToNat, Int.reduceAdd, Nat.reduceDiv, Nat.reduceSub, Nat.reduceMod, encL, MC0, MC1, MC2, h] | refine condV_of (fun h => ?_) (fun h => ?_) <;> simp only [VC0, VC1, VC2, VC3, VC4, VC5, VC6, VC7, VC8, VC9, reduceIte, reduceCtorEq, Nat.reduceEqDiff, Nat.reduceAdd, Nat.reduceMul, Nat.reduceBEq, Nat.reduceLT, Nat.reduceLeDiff, Int.reduceEq, Int.reduceLT, Int.reduceLE, Int.reduceNeg, Int.reduceToNat, Int.reduceAdd, Nat.reduceDiv, Nat.reduceSub, Nat.reduceMod, encL, MC0, MC1, MC2, h] | refine gdDn_of (fun h => ?_) (fun h => ?_) <;> simp only [VC0, VC1, VC2, VC3, VC4, VC5, VC6, VC7, VC8, VC9, reduceIte, reduceCtorEq, Nat.reduceEqDiff, Nat.reduceAdd, Nat.reduceMul, Nat.reduceBEq, Nat.reduceLT, Nat.reduceLeDiff, Int.reduceEq, Int.reduceLT, Int.reduceLE, Int.reduceNeg, Int.reduceToNat, Int.reduceAdd, Nat.reduceDiv, Nat.reduceSub, Nat.reduceMod, encL, MC0, MC1, MC2, h] | refine gdD_of (fun h => ?_) (fun h => ?_) <;> simp only [VC0, VC1, VC2, VC3, VC4, VC5, VC6, VC7, VC8, VC9, reduceIte, reduceCtorEq, Nat.reduceEqDiff, Nat.reduceAdd, Nat.reduceMul, Nat.reduceBEq, Nat.reduceLT, Nat.reduceLeDiff, Int.reduceEq, Int.reduceLT, Int.reduceLE, Int.reduceNeg, Int.reduceToNat, Int.reduceAdd, Nat.reduceDiv, Nat.reduceSub, Nat.reduceMod, encL, MC0, MC1, MC2, h] | refine gdVMn_of (fun h => ?_) (fun h => ?_) <;> simp only [VC0, VC1, VC2, VC3, VC4, VC5, VC6, VC7, VC8, VC9, reduceIte, reduceCtorEq, Nat.reduceEqDiff, Nat.reduceAdd, Nat.reduceMul, Nat.reduceBEq, Nat.reduceLT, Nat.reduceLeDiff, Int.reduceEq, Int.reduceLT, Int.reduceLE, Int.reduceNeg, Int.reduceToNat, Int.reduceAdd, Nat.reduceDiv, Nat.reduceSub, Nat.reduceMod, encL, MC0, MC1, MC2, h] | refine gdVM_of (fun h => ?_) (fun h => ?_) <;> simp only [VC0, VC1, VC2, VC3, VC4, VC5, VC6, VC7, VC8, VC9, reduceIte, reduceCtorEq, Nat.reduceEqDiff, Nat.reduceAdd, Nat.reduceMul, Nat.reduceBEq, Nat.reduceLT, Nat.reduceLeDiff, Int.reduceEq, Int.reduceLT, Int.reduceLE, Int.reduceNeg, Int.reduceToNat, Int.reduceAdd, Nat.reduceDiv, Nat.reduceSub, Nat.reduceMod, encL, MC0, MC1, MC2, h] | refine gpDn_of (fun h => ?_) (fun h => ?_) <;> simp only [VC0, VC1, VC2, VC3, VC4, VC5, VC6, VC7, VC8, VC9, reduceIte, reduceCtorEq, Nat.reduceEqDiff, Nat.reduceAdd, Nat.reduceMul, Nat.reduceBEq, Nat.reduceLT, Nat.reduceLeDiff, Int.reduceEq, Int.reduceLT, Int.reduceLE, Int.reduceNeg, Int.reduceToNat, Int.reduceAdd, Nat.reduceDiv, Nat.reduceSub, Nat.reduceMod, encL, MC0, MC1, MC2, h] | refine gpD_of (fun h => ?_) (fun h => ?_) <;> simp only [VC0, VC1, VC2, VC3, VC4, VC5, VC6, VC7, VC8, VC9, reduceIte, reduceCtorEq, Nat.reduceEqDiff, Nat.reduceAdd, Nat.reduceMul, Nat.reduceBEq, Nat.reduceLT, Nat.reduceLeDiff, Int.reduceEq, Int.reduceLT, Int.reduceLE, Int.reduceNeg, Int.reduceToNat, Int.reduceAdd, Nat.reduceDiv, Nat.reduceSub, Nat.reduceMod, encL, MC0, MC1, MC2, h] | refine gdVn_of (fun h => ?_) (fun h => ?_) <;> simp only [VC0, VC1, VC2, VC3, VC4, VC5, VC6, VC7, VC8, VC9, reduceIte, reduceCtorEq, Nat.reduceEqDiff, Nat.reduceAdd, Nat.reduceMul, Nat.reduceBEq, Nat.reduceLT, Nat.reduceLeDiff, Int.reduceEq, Int.reduceLT, Int.reduceLE, Int.reduceNeg, Int.reduceToNat, Int.reduceAdd, Nat.reduceDiv, Nat.reduceSub, Nat.reduceMod, encL, MC0, MC1, MC2, h] | refine gdV_of (fun h => ?_) (fun h => ?_) <;> simp only [VC0, VC1, VC2, VC3, VC4, VC5, VC6, VC7, VC8, VC9, reduceIte, reduceCtorEq, Nat.reduceEqDiff, Nat.reduceAdd, Nat.reduceMul, Nat.reduceBEq, Nat.reduceLT, Nat.reduceLeDiff, Int.reduceEq, Int.reduceLT, Int.reduceLE, Int.reduceNeg, Int.reduceToNat, Int.reduceAdd, Nat.reduceDiv, Nat.reduceSub, Nat.reduceMod, encL, MC0, MC1, MC2, h] | refine callX_of (local_ret _ m) (by first | exact Or.inr rfl | exact Or.inl rfl) ?_ <;> simp only [VC0, VC1, VC2, VC3, VC4, VC5, VC6, VC7, VC8, VC9, reduceIte, reduceCtorEq, Nat.reduceEqDiff, Nat.reduceAdd, Nat.reduceMul, Nat.reduceBEq, Nat.reduceLT, Nat.reduceLeDiff, Int.reduceEq, Int.reduceLT, Int.reduceLE, Int.reduceNeg, Int.reduceToNat, Int.reduceAdd, Nat.reduceDiv, Nat.reduceSub, Nat.reduceMod, encL, MC0, MC1, MC2] | (unfold InI64; omega) | refine And.intro ?_ ?_)
    all_goals try (simp [inB, *]; done)
    all_goals try (simp [inB, *]; omega)
    all_goals
      have h67 : v.kind = 6 ∨ v.kind = 7 := by omega
      have h23 : ¬ (v.kind = 2 ∨ v.kind = 3) := by omega
      have h17 : decide (1 ≤ v.kind) = true ∧ decide (v.kind ≤ 7) = true := ⟨decide_eq_true (by omega), decide_eq_true (by omega)⟩
      try simp only [h23, h67, h17, if_true, if_false, Bool.and_true]
      clear h
      refine loop_vcg (ι := Nat × (Nat → Nat)) (fun (k, c) => stO [(2, .box v.cells), (3, .box m.cells), (7, .val (.int .i64 k))] c)
        (fun (k, _) => k ≤ v.regions.length ∧ (v.regions.drop k).all (fun i => inB i m.regions) = v.regions.all (fun i => inB i m.regions)) (fun (k, _) => v.regions.length - k) (0, _) ⟨by omega, rfl⟩ (ent_of _ [] rfl rfl (by simp only [VC0, VC1, VC2, VC3, VC4, VC5, VC6, VC7, VC8, VC9, reduceIte, reduceCtorEq, Nat.reduceEqDiff, Nat.reduceAdd, Nat.reduceMul, Nat.reduceBEq, Nat.reduceLT, Nat.reduceLeDiff, Int.reduceEq, Int.reduceLT, Int.reduceLE, Int.reduceNeg, Int.reduceToNat, Int.reduceAdd, Nat.reduceDiv, Nat.reduceSub, Nat.reduceMod, encL, MC0, MC1, MC2])) ?_
      rintro ⟨k, c⟩ ⟨hk, hb⟩
      simp only [VC0, VC1, VC2, VC3, VC4, VC5, VC6, VC7, VC8, VC9, reduceIte, reduceCtorEq, Nat.reduceEqDiff, Nat.reduceAdd, Nat.reduceMul, Nat.reduceBEq, Nat.reduceLT, Nat.reduceLeDiff, Int.reduceEq, Int.reduceLT, Int.reduceLE, Int.reduceNeg, Int.reduceToNat, Int.reduceAdd, Nat.reduceDiv, Nat.reduceSub, Nat.reduceMod, encL, MC0, MC1, MC2]
      refine condD_of (fun h => ?_) (fun h => ?_)
      · have hk' : k < v.regions.length := by omega
        rw [all_drop _ _ _ hk'] at hb
        have hin : 0 ≤ (k : Int) ∧ (k : Int) < v.regions.length := by omega
        simp only [VC0, VC1, VC2, VC3, VC4, VC5, VC6, VC7, VC8, VC9, reduceIte, reduceCtorEq, Nat.reduceEqDiff, Nat.reduceAdd, Nat.reduceMul, Nat.reduceBEq, Nat.reduceLT, Nat.reduceLeDiff, Int.reduceEq, Int.reduceLT, Int.reduceLE, Int.reduceNeg, Int.reduceToNat, Int.reduceAdd, Nat.reduceDiv, Nat.reduceSub, Nat.reduceMod, encL, MC0, MC1, MC2, hk', hin]
        repeat' (first | refine condDn_of (fun h => ?_) (fun h => ?_) <;> simp only [VC0, VC1, VC2, VC3, VC4, VC5, VC6, VC7, VC8, VC9, reduceIte, reduceCtorEq, Nat.reduceEqDiff, Nat.reduceAdd, Nat.reduceMul, Nat.reduceBEq, Nat.reduceLT, Nat.reduceLeDiff, Int.reduceEq, Int.reduceLT, Int.reduceLE, Int.reduceNeg, Int.reduceToNat, Int.reduceAdd, Nat.reduceDiv, Nat.reduceSub, Nat.reduceMod, encL, MC0, MC1, MC2, h, hk', hin] | refine condD_of (fun h => ?_) (fun h => ?_) <;> simp only [VC0, VC1, VC2, VC3, VC4, VC5, VC6, VC7, VC8, VC9, reduceIte, reduceCtorEq, Nat.reduceEqDiff, Nat.reduceAdd, Nat.reduceMul, Nat.reduceBEq, Nat.reduceLT, Nat.reduceLeDiff, Int.reduceEq, Int.reduceLT, Int.reduceLE, Int.reduceNeg, Int.reduceToNat, Int.reduceAdd, Nat.reduceDiv, Nat.reduceSub, Nat.reduceMod, encL, MC0, MC1, MC2, h, hk', hin] | refine condVn_of (fun h => ?_) (fun h => ?_) <;> simp only [VC0, VC1, VC2, VC3, VC4, VC5, VC6, VC7, VC8, VC9, reduceIte, reduceCtorEq, Nat.reduceEqDiff, Nat.reduceAdd, Nat.reduceMul, Nat.reduceBEq, Nat.reduceLT, Nat.reduceLeDiff, Int.reduceEq, Int.reduceLT, Int.reduceLE, Int.reduceNeg, Int.reduceToNat, Int.reduceAdd, Nat.reduceDiv, Nat.reduceSub, Nat.reduceMod, encL, MC0, MC1, MC2, h, hk', hin] | refine condV_of (fun h => ?_) (fun h => ?_) <;> simp only [VC0, VC1, VC2, VC3, VC4, VC5, VC6, VC7, VC8, VC9, reduceIte, reduceCtorEq, Nat.reduceEqDiff, Nat.reduceAdd, Nat.reduceMul, Nat.reduceBEq, Nat.reduceLT, Nat.reduceLeDiff, Int.reduceEq, Int.reduceLT, Int.reduceLE, Int.reduceNeg, Int.reduceToNat, Int.reduceAdd, Nat.reduceDiv, Nat.reduceSub, Nat.reduceMod, encL, MC0, MC1, MC2, h, hk', hin] | refine gdDn_of (fun h => ?_) (fun h => ?_) <;> simp only [VC0, VC1, VC2, VC3, VC4, VC5, VC6, VC7, VC8, VC9, reduceIte, reduceCtorEq, Nat.reduceEqDiff, Nat.reduceAdd, Nat.reduceMul, Nat.reduceBEq, Nat.reduceLT, Nat.reduceLeDiff, Int.reduceEq, Int.reduceLT, Int.reduceLE, Int.reduceNeg, Int.reduceToNat, Int.reduceAdd, Nat.reduceDiv, Nat.reduceSub, Nat.reduceMod, encL, MC0, MC1, MC2, h, hk', hin] | refine gdD_of (fun h => ?_) (fun h => ?_) <;> simp only [VC0, VC1, VC2, VC3, VC4, VC5, VC6, VC7, VC8, VC9, reduceIte, reduceCtorEq, Nat.reduceEqDiff, Nat.reduceAdd, Nat.reduceMul, Nat.reduceBEq, Nat.reduceLT, Nat.reduceLeDiff, Int.reduceEq, Int.reduceLT, Int.reduceLE, Int.reduceNeg, Int.reduceToNat, Int.reduceAdd, Nat.reduceDiv, Nat.reduceSub, Nat.reduceMod, encL, MC0, MC1, MC2, h, hk', hin] | refine gdVMn_of (fun h => ?_) (fun h => ?_) <;> simp only [VC0, VC1, VC2, VC3, VC4, VC5, VC6, VC7, VC8, VC9, reduceIte, reduceCtorEq, Nat.reduceEqDiff, Nat.reduceAdd, Nat.reduceMul, Nat.reduceBEq, Nat.reduceLT, Nat.reduceLeDiff, Int.reduceEq, Int.reduceLT, Int.reduceLE, Int.reduceNeg, Int.reduceToNat, Int.reduceAdd, Nat.reduceDiv, Nat.reduceSub, Nat.reduceMod, encL, MC0, MC1, MC2, h, hk', hin] | refine gdVM_of (fun h => ?_) (fun h => ?_) <;> simp only [VC0, VC1, VC2, VC3, VC4, VC5, VC6, VC7, VC8, VC9, reduceIte, reduceCtorEq, Nat.reduceEqDiff, Nat.reduceAdd, Nat.reduceMul, Nat.reduceBEq, Nat.reduceLT, Nat.reduceLeDiff, Int.reduceEq, Int.reduceLT, Int.reduceLE, Int.reduceNeg, Int.reduceToNat, Int.reduceAdd, Nat.reduceDiv, Nat.reduceSub, Nat.reduceMod, encL, MC0, MC1, MC2, h, hk', hin] | refine gpDn_of (fun h => ?_) (fun h => ?_) <;> simp only [VC0, VC1, VC2, VC3, VC4, VC5, VC6, VC7, VC8, VC9, reduceIte, reduceCtorEq, Nat.reduceEqDiff, Nat.reduceAdd, Nat.reduceMul, Nat.reduceBEq, Nat.reduceLT, Nat.reduceLeDiff, Int.reduceEq, Int.reduceLT, Int.reduceLE, Int.reduceNeg, Int.reduceToNat, Int.reduceAdd, Nat.reduceDiv, Nat.reduceSub, Nat.reduceMod, encL, MC0, MC1, MC2, h, hk', hin] | refine gpD_of (fun h => ?_) (fun h => ?_) <;> simp only [VC0, VC1, VC2, VC3, VC4, VC5, VC6, VC7, VC8, VC9, reduceIte, reduceCtorEq, Nat.reduceEqDiff, Nat.reduceAdd, Nat.reduceMul, Nat.reduceBEq, Nat.reduceLT, Nat.reduceLeDiff, Int.reduceEq, Int.reduceLT, Int.reduceLE, Int.reduceNeg, Int.reduceToNat, Int.reduceAdd, Nat.reduceDiv, Nat.reduceSub, Nat.reduceMod, encL, MC0, MC1, MC2, h, hk', hin] | refine gdVn_of (fun h => ?_) (fun h => ?_) <;> simp only [VC0, VC1, VC2, VC3, VC4, VC5, VC6, VC7, VC8, VC9, reduceIte, reduceCtorEq, Nat.reduceEqDiff, Nat.reduceAdd, Nat.reduceMul, Nat.reduceBEq, Nat.reduceLT, Nat.reduceLeDiff, Int.reduceEq, Int.reduceLT, Int.reduceLE, Int.reduceNeg, Int.reduceToNat, Int.reduceAdd, Nat.reduceDiv, Nat.reduceSub, Nat.reduceMod, encL, MC0, MC1, MC2, h, hk', hin] | refine gdV_of (fun h => ?_) (fun h => ?_) <;> simp only [VC0, VC1, VC2, VC3, VC4, VC5, VC6, VC7, VC8, VC9, reduceIte, reduceCtorEq, Nat.reduceEqDiff, Nat.reduceAdd, Nat.reduceMul, Nat.reduceBEq, Nat.reduceLT, Nat.reduceLeDiff, Int.reduceEq, Int.reduceLT, Int.reduceLE, Int.reduceNeg, Int.reduceToNat, Int.reduceAdd, Nat.reduceDiv, Nat.reduceSub, Nat.reduceMod, encL, MC0, MC1, MC2, h, hk', hin] | (unfold InI64; omega) | refine And.intro ?_ ?_)
        all_goals first
          | omega
          | (have hop : inB v.regions[k] m.regions = false := by (clear hb; simp only [inB]; simp; omega)
             rw [hop] at hb
             simp [← hb]; done)
          | (have hop : inB v.regions[k] m.regions = true := by (clear hb; simp only [inB]; simp; omega)
             rw [hop] at hb
             exact backTo_of (k + 1, _) ⟨by omega, hb⟩ (by simp only []; omega) (ent_of _ [] rfl rfl (by simp only [VC0, VC1, VC2, VC3, VC4, VC5, VC6, VC7, VC8, VC9, reduceIte, reduceCtorEq, Nat.reduceEqDiff, Nat.reduceAdd, Nat.reduceMul, Nat.reduceBEq, Nat.reduceLT, Nat.reduceLeDiff, Int.reduceEq, Int.reduceLT, Int.reduceLE, Int.reduceNeg, Int.reduceToNat, Int.reduceAdd, Nat.reduceDiv, Nat.reduceSub, Nat.reduceMod, encL, MC0, MC1, MC2])))
      · have hk' : k = v.regions.length := by omega
        subst hk'
        simp only [List.drop_length, List.all_nil] at hb
        simp only [VC0, VC1, VC2, VC3, VC4, VC5, VC6, VC7, VC8, VC9, reduceIte, reduceCtorEq, Nat.reduceEqDiff, Nat.reduceAdd, Nat.reduceMul, Nat.reduceBEq, Nat.reduceLT, Nat.reduceLeDiff, Int.reduceEq, Int.reduceLT, Int.reduceLE, Int.reduceNeg, Int.reduceToNat, Int.reduceAdd, Nat.reduceDiv, Nat.reduceSub, Nat.reduceMod, encL, MC0, MC1, MC2]
        repeat' (first | refine condDn_of (fun h => ?_) (fun h => ?_) <;> simp only [VC0, VC1, VC2, VC3, VC4, VC5, VC6, VC7, VC8, VC9, reduceIte, reduceCtorEq, Nat.reduceEqDiff, Nat.reduceAdd, Nat.reduceMul, Nat.reduceBEq, Nat.reduceLT, Nat.reduceLeDiff, Int.reduceEq, Int.reduceLT, Int.reduceLE, Int.reduceNeg, Int.reduceToNat, Int.reduceAdd, Nat.reduceDiv, Nat.reduceSub, Nat.reduceMod, encL, MC0, MC1, MC2, h] | refine condD_of (fun h => ?_) (fun h => ?_) <;> simp only [VC0, VC1, VC2, VC3, VC4, VC5, VC6, VC7, VC8, VC9, reduceIte, reduceCtorEq, Nat.reduceEqDiff, Nat.reduceAdd, Nat.reduceMul, Nat.reduceBEq, Nat.reduceLT, Nat.reduceLeDiff, Int.reduceEq, Int.reduceLT, Int.reduceLE, Int.reduceNeg, Int.reduceToNat, Int.reduceAdd, Nat.reduceDiv, Nat.reduceSub, Nat.reduceMod, encL, MC0, MC1, MC2, h] | refine condVn_of (fun h => ?_) (fun h => ?_) <;> simp only [VC0, VC1, VC2, VC3, VC4, VC5, VC6, VC7, VC8, VC9, reduceIte, reduceCtorEq, Nat.reduceEqDiff, Nat.reduceAdd, Nat.reduceMul, Nat.reduceBEq, Nat.reduceLT, Nat.reduceLeDiff, Int.reduceEq, Int.reduceLT, Int.reduceLE, Int.reduceNeg, Int.reduceToNat, Int.reduceAdd, Nat.reduceDiv, Nat.reduceSub, Nat.reduceMod, encL, MC0, MC1, MC2, h] | refine condV_of (fun h => ?_) (fun h => ?_) <;> simp only [VC0, VC1, VC2, VC3, VC4, VC5, VC6, VC7, VC8, VC9, reduceIte, reduceCtorEq, Nat.reduceEqDiff, Nat.reduceAdd, Nat.reduceMul, Nat.reduceBEq, Nat.reduceLT, Nat.reduceLeDiff, Int.reduceEq, Int.reduceLT, Int.reduceLE, Int.reduceNeg, Int.reduceToNat, Int.reduceAdd, Nat.reduceDiv, Nat.reduceSub, Nat.reduceMod, encL, MC0, MC1, MC2, h] | refine gdDn_of (fun h => ?_) (fun h => ?_) <;> simp only [VC0, VC1, VC2, VC3, VC4, VC5, VC6, VC7, VC8, VC9, reduceIte, reduceCtorEq, Nat.reduceEqDiff, Nat.reduceAdd, Nat.reduceMul, Nat.reduceBEq, Nat.reduceLT, Nat.reduceLeDiff, Int.reduceEq, Int.reduceLT, Int.reduceLE, Int.reduceNeg, Int.reduceToNat, Int.reduceAdd, Nat.reduceDiv, Nat.reduceSub, Nat.reduceMod, encL, MC0, MC1, MC2, h] | refine gdD_of (fun h => ?_) (fun h => ?_) <;> simp only [VC0, VC1, VC2, VC3, VC4, VC5, VC6, VC7, VC8, VC9, reduceIte, reduceCtorEq, Nat.reduceEqDiff, Nat.reduceAdd, Nat.reduceMul, Nat.reduceBEq, Nat.reduceLT, Nat.reduceLeDiff, Int.reduceEq, Int.reduceLT, Int.reduceLE, Int.reduceNeg, Int.reduceToNat, Int.reduceAdd, Nat.reduceDiv, Nat.reduceSub, Nat.reduceMod, encL, MC0, MC1, MC2, h] | refine gdVMn_of (fun h => ?_) (fun h => ?_) <;> simp only [VC0, VC1, VC2, VC3, VC4, VC5, VC6, VC7, VC8, VC9, reduceIte, reduceCtorEq, Nat.reduceEqDiff, Nat.reduceAdd, Nat.reduceMul, Nat.reduceBEq, Nat.reduceLT, Nat.reduceLeDiff, Int.reduceEq, Int.reduceLT, Int.reduceLE, Int.reduceNeg, Int.reduceToNat, Int.reduceAdd, Nat.reduceDiv, Nat.reduceSub, Nat.reduceMod, encL, MC0, MC1, MC2, h] | refine gdVM_of (fun h => ?_) (fun h => ?_) <;> simp only [VC0, VC1, VC2, VC3, VC4, VC5, VC6, VC7, VC8, VC9, reduceIte, reduceCtorEq, Nat.reduceEqDiff, Nat.reduceAdd, Nat.reduceMul, Nat.reduceBEq, Nat.reduceLT, Nat.reduceLeDiff, Int.reduceEq, Int.reduceLT, Int.reduceLE, Int.reduceNeg, Int.reduceToNat, Int.reduceAdd, Nat.reduceDiv, Nat.reduceSub, Nat.reduceMod, encL, MC0, MC1, MC2, h] | refine gpDn_of (fun h => ?_) (fun h => ?_) <;> simp only [VC0, VC1, VC2, VC3, VC4, VC5, VC6, VC7, VC8, VC9, reduceIte, reduceCtorEq, Nat.reduceEqDiff, Nat.reduceAdd, Nat.reduceMul, Nat.reduceBEq, Nat.reduceLT, Nat.reduceLeDiff, Int.reduceEq, Int.reduceLT, Int.reduceLE, Int.reduceNeg, Int.reduceToNat, Int.reduceAdd, Nat.reduceDiv, Nat.reduceSub, Nat.reduceMod, encL, MC0, MC1, MC2, h] | refine gpD_of (fun h => ?_) (fun h => ?_) <;> simp only [VC0, VC1, VC2, VC3, VC4, VC5, VC6, VC7, VC8, VC9, reduceIte, reduceCtorEq, Nat.reduceEqDiff, Nat.reduceAdd, Nat.reduceMul, Nat.reduceBEq, Nat.reduceLT, Nat.reduceLeDiff, Int.reduceEq, Int.reduceLT, Int.reduceLE, Int.reduceNeg, Int.reduceToNat, Int.reduceAdd, Nat.reduceDiv, Nat.reduceSub, Nat.reduceMod, encL, MC0, MC1, MC2, h] | refine gdVn_of (fun h => ?_) (fun h => ?_) <;> simp only [VC0, VC1, VC2, VC3, VC4, VC5, VC6, VC7, VC8, VC9, reduceIte, reduceCtorEq, Nat.reduceEqDiff, Nat.reduceAdd, Nat.reduceMul, Nat.reduceBEq, Nat.reduceLT, Nat.reduceLeDiff, Int.reduceEq, Int.reduceLT, Int.reduceLE, Int.reduceNeg, Int.reduceToNat, Int.reduceAdd, Nat.reduceDiv, Nat.reduceSub, Nat.reduceMod, encL, MC0, MC1, MC2, h] | refine gdV_of (fun h => ?_) (fun h => ?_) <;> simp only [VC0, VC1, VC2, VC3, VC4, VC5, VC6, VC7, VC8, VC9, reduceIte, reduceCtorEq, Nat.reduceEqDiff, Nat.reduceAdd, Nat.reduceMul, Nat.reduceBEq, Nat.reduceLT, Nat.reduceLeDiff, Int.reduceEq, Int.reduceLT, Int.reduceLE, Int.reduceNeg, Int.reduceToNat, Int.reduceAdd, Nat.reduceDiv, Nat.reduceSub, Nat.reduceMod, encL, MC0, MC1, MC2, h] | (unfold InI64; omega) | refine And.intro ?_ ?_)
        all_goals (simp [← hb]; try omega)

theorem typ_ret (regions : Int) : ∀ (d : Nat) (t : RT), t.ok → d ≤ 64 → PRet Tryz.prog 42 [.agg t.cells, .int .i64 regions, .int .i64 (65 - d : Nat)] (.bool (rtB regions d t)) := by
  intro d
  induction d with
  | zero =>
    intro t ht hd
    refine pret_intro fd42 (by simp) ?_
    simp [lc42, VC0, VC1, VC2, VC3, VC4, VC5, VC6, VC7, VC8, VC9, reduceIte, reduceCtorEq, Nat.reduceEqDiff, Nat.reduceAdd, Nat.reduceMul, Nat.reduceBEq, Nat.reduceLT, Nat.reduceLeDiff, Int.reduceEq, Int.reduceLT, Int.reduceLE, Int.reduceNeg, Int.reduceToNat, Int.reduceAdd, Nat.reduceDiv, Nat.reduceSub, Nat.reduceMod, encL, MC0, MC1, MC2, rtB]
  | succ d ih =>
    intro t ht hd
    rw [RT.ok_iff] at ht
    obtain ⟨_, _, ⟨hr, _⟩, he, hok⟩ := ht
    rw [maxLen_eq] at he hr
    have h0 : ¬ ((64 : Int) < ((65 - (d + 1) : Nat) : Int)) := by omega
    have h2 : (((65 - (d + 1) : Nat) : Int) + 1) = ((65 - d : Nat) : Int) := by omega
    have kind3 : (0 ≤ t.kind ∧ t.kind ≤ 3) ↔ (¬ t.kind < 0 ∧ ¬ 5 < t.kind ∧ ¬ t.kind = 4 ∧ ¬ t.kind = 5) := by omega
    refine pret_intro fd42 (by simp) ?_
    simp only [lc42, VC0, VC1, VC2, VC3, VC4, VC5, VC6, VC7, VC8, VC9, reduceIte, reduceCtorEq, Nat.reduceEqDiff, Nat.reduceAdd, Nat.reduceMul, Nat.reduceBEq, Nat.reduceLT, Nat.reduceLeDiff, Int.reduceEq, Int.reduceLT, Int.reduceLE, Int.reduceNeg, Int.reduceToNat, Int.reduceAdd, Nat.reduceDiv, Nat.reduceSub, Nat.reduceMod, encL, MC0, MC1, MC2, h0]
    refine loop_vcg (ι := Nat × (Nat → Nat)) (fun (k, c) => stO [(1, .val (.int .i64 regions)), (2, .val (.int .i64 (65 - (d + 1) : Nat))), (3, .box t.cells), (7, .val (.int .i64 k))] c)
      (fun (k, _) => k ≤ t.regions.length ∧ (t.regions.drop k).all (fun i => inB i regions) = t.regions.all (fun i => inB i regions)) (fun (k, _) => t.regions.length - k) (0, _) ⟨by omega, rfl⟩ (ent_of _ [] rfl rfl (by simp only [VC0, VC1, VC2, VC3, VC4, VC5, VC6, VC7, VC8, VC9, reduceIte, reduceCtorEq, Nat.reduceEqDiff, Nat.reduceAdd, Nat.reduceMul, Nat.reduceBEq, Nat.reduceLT, Nat.reduceLeDiff, Int.reduceEq, Int.reduceLT, Int.reduceLE, Int.reduceNeg, Int.reduceToNat, Int.reduceAdd, Nat.reduceDiv, Nat.reduceSub, Nat.reduceMod, encL, MC0, MC1, MC2])) ?_
    rintro ⟨k, c⟩ ⟨hk, hb⟩
    simp only [VC0, VC1, VC2, VC3, VC4, VC5, VC6, VC7, VC8, VC9, reduceIte, reduceCtorEq, Nat.reduceEqDiff, Nat.reduceAdd, Nat.reduceMul, Nat.reduceBEq, Nat.reduceLT, Nat.reduceLeDiff, Int.reduceEq, Int.reduceLT, Int.reduceLE, Int.reduceNeg, Int.reduceToNat, Int.reduceAdd, Nat.reduceDiv, Nat.reduceSub, Nat.reduceMod, encL, MC0, MC1, MC2]
    refine condD_of (fun h => ?_) (fun h => ?_)
    · have hk' : k < t.regions.length := by omega
      rw [all_drop _ _ _ hk'] at hb
      have hin : 0 ≤ (k : Int) ∧ (k : Int) < t.regions.length := by omega
      simp only [VC0, VC1, VC2, VC3, VC4, VC5, VC6, VC7, VC8, VC9, reduceIte, reduceCtorEq, Nat.reduceEqDiff, Nat.reduceAdd, Nat.reduceMul, Nat.reduceBEq, Nat.reduceLT, Nat.reduceLeDiff, Int.reduceEq, Int.reduceLT, Int.reduceLE, Int.reduceNeg, Int.reduceToNat, Int.reduceAdd, Nat.reduceDiv, Nat.reduceSub, Nat.reduceMod, encL, MC0, MC1, MC2, hk', hin]
      repeat' (first | refine condDn_of (fun h => ?_) (fun h => ?_) <;> simp only [VC0, VC1, VC2, VC3, VC4, VC5, VC6, VC7, VC8, VC9, reduceIte, reduceCtorEq, Nat.reduceEqDiff, Nat.reduceAdd, Nat.reduceMul, Nat.reduceBEq, Nat.reduceLT, Nat.reduceLeDiff, Int.reduceEq, Int.reduceLT, Int.reduceLE, Int.reduceNeg, Int.reduceToNat, Int.reduceAdd, Nat.reduceDiv, Nat.reduceSub, Nat.reduceMod, encL, MC0, MC1, MC2, h, hk', hin] | refine condD_of (fun h => ?_) (fun h => ?_) <;> simp only [VC0, VC1, VC2, VC3, VC4, VC5, VC6, VC7, VC8, VC9, reduceIte, reduceCtorEq, Nat.reduceEqDiff, Nat.reduceAdd, Nat.reduceMul, Nat.reduceBEq, Nat.reduceLT, Nat.reduceLeDiff, Int.reduceEq, Int.reduceLT, Int.reduceLE, Int.reduceNeg, Int.reduceToNat, Int.reduceAdd, Nat.reduceDiv, Nat.reduceSub, Nat.reduceMod, encL, MC0, MC1, MC2, h, hk', hin] | refine condVn_of (fun h => ?_) (fun h => ?_) <;> simp only [VC0, VC1, VC2, VC3, VC4, VC5, VC6, VC7, VC8, VC9, reduceIte, reduceCtorEq, Nat.reduceEqDiff, Nat.reduceAdd, Nat.reduceMul, Nat.reduceBEq, Nat.reduceLT, Nat.reduceLeDiff, Int.reduceEq, Int.reduceLT, Int.reduceLE, Int.reduceNeg, Int.reduceToNat, Int.reduceAdd, Nat.reduceDiv, Nat.reduceSub, Nat.reduceMod, encL, MC0, MC1, MC2, h, hk', hin] | refine condV_of (fun h => ?_) (fun h => ?_) <;> simp only [VC0, VC1, VC2, VC3, VC4, VC5, VC6, VC7, VC8, VC9, reduceIte, reduceCtorEq, Nat.reduceEqDiff, Nat.reduceAdd, Nat.reduceMul, Nat.reduceBEq, Nat.reduceLT, Nat.reduceLeDiff, Int.reduceEq, Int.reduceLT, Int.reduceLE, Int.reduceNeg, Int.reduceToNat, Int.reduceAdd, Nat.reduceDiv, Nat.reduceSub, Nat.reduceMod, encL, MC0, MC1, MC2, h, hk', hin] | refine gdDn_of (fun h => ?_) (fun h => ?_) <;> simp only [VC0, VC1, VC2, VC3, VC4, VC5, VC6, VC7, VC8, VC9, reduceIte, reduceCtorEq, Nat.reduceEqDiff, Nat.reduceAdd, Nat.reduceMul, Nat.reduceBEq, Nat.reduceLT, Nat.reduceLeDiff, Int.reduceEq, Int.reduceLT, Int.reduceLE, Int.reduceNeg, Int.reduceToNat, Int.reduceAdd, Nat.reduceDiv, Nat.reduceSub, Nat.reduceMod, encL, MC0, MC1, MC2, h, hk', hin] | refine gdD_of (fun h => ?_) (fun h => ?_) <;> simp only [VC0, VC1, VC2, VC3, VC4, VC5, VC6, VC7, VC8, VC9, reduceIte, reduceCtorEq, Nat.reduceEqDiff, Nat.reduceAdd, Nat.reduceMul, Nat.reduceBEq, Nat.reduceLT, Nat.reduceLeDiff, Int.reduceEq, Int.reduceLT, Int.reduceLE, Int.reduceNeg, Int.reduceToNat, Int.reduceAdd, Nat.reduceDiv, Nat.reduceSub, Nat.reduceMod, encL, MC0, MC1, MC2, h, hk', hin] | refine gdVMn_of (fun h => ?_) (fun h => ?_) <;> simp only [VC0, VC1, VC2, VC3, VC4, VC5, VC6, VC7, VC8, VC9, reduceIte, reduceCtorEq, Nat.reduceEqDiff, Nat.reduceAdd, Nat.reduceMul, Nat.reduceBEq, Nat.reduceLT, Nat.reduceLeDiff, Int.reduceEq, Int.reduceLT, Int.reduceLE, Int.reduceNeg, Int.reduceToNat, Int.reduceAdd, Nat.reduceDiv, Nat.reduceSub, Nat.reduceMod, encL, MC0, MC1, MC2, h, hk', hin] | refine gdVM_of (fun h => ?_) (fun h => ?_) <;> simp only [VC0, VC1, VC2, VC3, VC4, VC5, VC6, VC7, VC8, VC9, reduceIte, reduceCtorEq, Nat.reduceEqDiff, Nat.reduceAdd, Nat.reduceMul, Nat.reduceBEq, Nat.reduceLT, Nat.reduceLeDiff, Int.reduceEq, Int.reduceLT, Int.reduceLE, Int.reduceNeg, Int.reduceToNat, Int.reduceAdd, Nat.reduceDiv, Nat.reduceSub, Nat.reduceMod, encL, MC0, MC1, MC2, h, hk', hin] | refine gpDn_of (fun h => ?_) (fun h => ?_) <;> simp only [VC0, VC1, VC2, VC3, VC4, VC5, VC6, VC7, VC8, VC9, reduceIte, reduceCtorEq, Nat.reduceEqDiff, Nat.reduceAdd, Nat.reduceMul, Nat.reduceBEq, Nat.reduceLT, Nat.reduceLeDiff, Int.reduceEq, Int.reduceLT, Int.reduceLE, Int.reduceNeg, Int.reduceToNat, Int.reduceAdd, Nat.reduceDiv, Nat.reduceSub, Nat.reduceMod, encL, MC0, MC1, MC2, h, hk', hin] | refine gpD_of (fun h => ?_) (fun h => ?_) <;> simp only [VC0, VC1, VC2, VC3, VC4, VC5, VC6, VC7, VC8, VC9, reduceIte, reduceCtorEq, Nat.reduceEqDiff, Nat.reduceAdd, Nat.reduceMul, Nat.reduceBEq, Nat.reduceLT, Nat.reduceLeDiff, Int.reduceEq, Int.reduceLT, Int.reduceLE, Int.reduceNeg, Int.reduceToNat, Int.reduceAdd, Nat.reduceDiv, Nat.reduceSub, Nat.reduceMod, encL, MC0, MC1, MC2, h, hk', hin] | refine gdVn_of (fun h => ?_) (fun h => ?_) <;> simp only [VC0, VC1, VC2, VC3, VC4, VC5, VC6, VC7, VC8, VC9, reduceIte, reduceCtorEq, Nat.reduceEqDiff, Nat.reduceAdd, Nat.reduceMul, Nat.reduceBEq, Nat.reduceLT, Nat.reduceLeDiff, Int.reduceEq, Int.reduceLT, Int.reduceLE, Int.reduceNeg, Int.reduceToNat, Int.reduceAdd, Nat.reduceDiv, Nat.reduceSub, Nat.reduceMod, encL, MC0, MC1, MC2, h, hk', hin] | refine gdV_of (fun h => ?_) (fun h => ?_) <;> simp only [VC0, VC1, VC2, VC3, VC4, VC5, VC6, VC7, VC8, VC9, reduceIte, reduceCtorEq, Nat.reduceEqDiff, Nat.reduceAdd, Nat.reduceMul, Nat.reduceBEq, Nat.reduceLT, Nat.reduceLeDiff, Int.reduceEq, Int.reduceLT, Int.reduceLE, Int.reduceNeg, Int.reduceToNat, Int.reduceAdd, Nat.reduceDiv, Nat.reduceSub, Nat.reduceMod, encL, MC0, MC1, MC2, h, hk', hin] | (unfold InI64; omega) | refine And.intro ?_ ?_)
      all_goals first
        | omega
        | (have hop : inB t.regions[k] regions = false := by (clear hb; simp only [inB]; simp; omega)
           rw [hop] at hb
           rw [rtB, ← hb, Bool.false_and, Bool.false_and]; done)
        | (have hop : inB t.regions[k] regions = true := by (clear hb; simp only [inB]; simp; omega)
           rw [hop] at hb
           exact backTo_of (k + 1, _) ⟨by omega, hb⟩ (by simp only []; omega) (ent_of _ [] rfl rfl (by simp only [VC0, VC1, VC2, VC3, VC4, VC5, VC6, VC7, VC8, VC9, reduceIte, reduceCtorEq, Nat.reduceEqDiff, Nat.reduceAdd, Nat.reduceMul, Nat.reduceBEq, Nat.reduceLT, Nat.reduceLeDiff, Int.reduceEq, Int.reduceLT, Int.reduceLE, Int.reduceNeg, Int.reduceToNat, Int.reduceAdd, Nat.reduceDiv, Nat.reduceSub, Nat.reduceMod, encL, MC0, MC1, MC2])))
    · have hk' : k = t.regions.length := by omega
      subst hk'
      simp only [List.drop_length, List.all_nil] at hb
      rw [rtB, ← hb, Bool.true_and]
      simp only [kind3]
      clear hb h hk
      by_cases h1 : t.elem.length = 1
      · have hp : 0 < t.elem.length := by omega
        have hall : t.elem.all (rtB regions d) = rtB regions d t.elem[0] := all_one _ h1
        rw [hall]
        simp only [VC0, VC1, VC2, VC3, VC4, VC5, VC6, VC7, VC8, VC9, reduceIte, reduceCtorEq, Nat.reduceEqDiff, Nat.reduceAdd, Nat.reduceMul, Nat.reduceBEq, Nat.reduceLT, Nat.reduceLeDiff, Int.reduceEq, Int.reduceLT, Int.reduceLE, Int.reduceNeg, Int.reduceToNat, Int.reduceAdd, Nat.reduceDiv, Nat.reduceSub, Nat.reduceMod, encL, MC0, MC1, MC2]
        repeat' (first | refine condDn_of (fun h => ?_) (fun h => ?_) <;> simp only [VC0, VC1, VC2, VC3, VC4, VC5, VC6, VC7, VC8, VC9, reduceIte, reduceCtorEq, Nat.reduceEqDiff, Nat.reduceAdd, Nat.reduceMul, Nat.reduceBEq, Nat.reduceLT, Nat.reduceLeDiff, Int.reduceEq, Int.reduceLT, Int.reduceLE, Int.reduceNeg, Int.reduceToNat, Int.reduceAdd, Nat.reduceDiv, Nat.reduceSub, Nat.reduceMod, encL, MC0, MC1, MC2, h, h1, h2, rt_first hp] | refine condD_of (fun h => ?_) (fun h => ?_) <;> simp only [VC0, VC1, VC2, VC3, VC4, VC5, VC6, VC7, VC8, VC9, reduceIte, reduceCtorEq, Nat.reduceEqDiff, Nat.reduceAdd, Nat.reduceMul, Nat.reduceBEq, Nat.reduceLT, Nat.reduceLeDiff, Int.reduceEq, Int.reduceLT, Int.reduceLE, Int.reduceNeg, Int.reduceToNat, Int.reduceAdd, Nat.reduceDiv, Nat.reduceSub, Nat.reduceMod, encL, MC0, MC1, MC2, h, h1, h2, rt_first hp] | refine condVn_of (fun h => ?_) (fun h => ?_) <;> simp only [VC0, VC1, VC2, VC3, VC4, VC5, VC6, VC7, VC8, VC9, reduceIte, reduceCtorEq, Nat.reduceEqDiff, Nat.reduceAdd, Nat.reduceMul, Nat.reduceBEq, Nat.reduceLT, Nat.reduceLeDiff, Int.reduceEq, Int.reduceLT, Int.reduceLE, Int.reduceNeg, Int.reduceToNat, Int.reduceAdd, Nat.reduceDiv, Nat.reduceSub, Nat.reduceMod, encL, MC0, MC1, MC2, h, h1, h2, rt_first hp] | refine condV_of (fun h => ?_) (fun h => ?_) <;> simp only [VC0, VC1, VC2, VC3, VC4, VC5, VC6, VC7, VC8, VC9, reduceIte, reduceCtorEq, Nat.reduceEqDiff, Nat.reduceAdd, Nat.reduceMul, Nat.reduceBEq, Nat.reduceLT, Nat.reduceLeDiff, Int.reduceEq, Int.reduceLT, Int.reduceLE, Int.reduceNeg, Int.reduceToNat, Int.reduceAdd, Nat.reduceDiv, Nat.reduceSub, Nat.reduceMod, encL, MC0, MC1, MC2, h, h1, h2, rt_first hp] | refine gdDn_of (fun h => ?_) (fun h => ?_) <;> simp only [VC0, VC1, VC2, VC3, VC4, VC5, VC6, VC7, VC8, VC9, reduceIte, reduceCtorEq, Nat.reduceEqDiff, Nat.reduceAdd, Nat.reduceMul, Nat.reduceBEq, Nat.reduceLT, Nat.reduceLeDiff, Int.reduceEq, Int.reduceLT, Int.reduceLE, Int.reduceNeg, Int.reduceToNat, Int.reduceAdd, Nat.reduceDiv, Nat.reduceSub, Nat.reduceMod, encL, MC0, MC1, MC2, h, h1, h2, rt_first hp] | refine gdD_of (fun h => ?_) (fun h => ?_) <;> simp only [VC0, VC1, VC2, VC3, VC4, VC5, VC6, VC7, VC8, VC9, reduceIte, reduceCtorEq, Nat.reduceEqDiff, Nat.reduceAdd, Nat.reduceMul, Nat.reduceBEq, Nat.reduceLT, Nat.reduceLeDiff, Int.reduceEq, Int.reduceLT, Int.reduceLE, Int.reduceNeg, Int.reduceToNat, Int.reduceAdd, Nat.reduceDiv, Nat.reduceSub, Nat.reduceMod, encL, MC0, MC1, MC2, h, h1, h2, rt_first hp] | refine gdVMn_of (fun h => ?_) (fun h => ?_) <;> simp only [VC0, VC1, VC2, VC3, VC4, VC5, VC6, VC7, VC8, VC9, reduceIte, reduceCtorEq, Nat.reduceEqDiff, Nat.reduceAdd, Nat.reduceMul, Nat.reduceBEq, Nat.reduceLT, Nat.reduceLeDiff, Int.reduceEq, Int.reduceLT, Int.reduceLE, Int.reduceNeg, Int.reduceToNat, Int.reduceAdd, Nat.reduceDiv, Nat.reduceSub, Nat.reduceMod, encL, MC0, MC1, MC2, h, h1, h2, rt_first hp] | refine gdVM_of (fun h => ?_) (fun h => ?_) <;> simp only [VC0, VC1, VC2, VC3, VC4, VC5, VC6, VC7, VC8, VC9, reduceIte, reduceCtorEq, Nat.reduceEqDiff, Nat.reduceAdd, Nat.reduceMul, Nat.reduceBEq, Nat.reduceLT, Nat.reduceLeDiff, Int.reduceEq, Int.reduceLT, Int.reduceLE, Int.reduceNeg, Int.reduceToNat, Int.reduceAdd, Nat.reduceDiv, Nat.reduceSub, Nat.reduceMod, encL, MC0, MC1, MC2, h, h1, h2, rt_first hp] | refine gpDn_of (fun h => ?_) (fun h => ?_) <;> simp only [VC0, VC1, VC2, VC3, VC4, VC5, VC6, VC7, VC8, VC9, reduceIte, reduceCtorEq, Nat.reduceEqDiff, Nat.reduceAdd, Nat.reduceMul, Nat.reduceBEq, Nat.reduceLT, Nat.reduceLeDiff, Int.reduceEq, Int.reduceLT, Int.reduceLE, Int.reduceNeg, Int.reduceToNat, Int.reduceAdd, Nat.reduceDiv, Nat.reduceSub, Nat.reduceMod, encL, MC0, MC1, MC2, h, h1, h2, rt_first hp] | refine gpD_of (fun h => ?_) (fun h => ?_) <;> simp only [VC0, VC1, VC2, VC3, VC4, VC5, VC6, VC7, VC8, VC9, reduceIte, reduceCtorEq, Nat.reduceEqDiff, Nat.reduceAdd, Nat.reduceMul, Nat.reduceBEq, Nat.reduceLT, Nat.reduceLeDiff, Int.reduceEq, Int.reduceLT, Int.reduceLE, Int.reduceNeg, Int.reduceToNat, Int.reduceAdd, Nat.reduceDiv, Nat.reduceSub, Nat.reduceMod, encL, MC0, MC1, MC2, h, h1, h2, rt_first hp] | refine gdVn_of (fun h => ?_) (fun h => ?_) <;> simp only [VC0, VC1, VC2, VC3, VC4, VC5, VC6, VC7, VC8, VC9, reduceIte, reduceCtorEq, Nat.reduceEqDiff, Nat.reduceAdd, Nat.reduceMul, Nat.reduceBEq, Nat.reduceLT, Nat.reduceLeDiff, Int.reduceEq, Int.reduceLT, Int.reduceLE, Int.reduceNeg, Int.reduceToNat, Int.reduceAdd, Nat.reduceDiv, Nat.reduceSub, Nat.reduceMod, encL, MC0, MC1, MC2, h, h1, h2, rt_first hp] | refine gdV_of (fun h => ?_) (fun h => ?_) <;> simp only [VC0, VC1, VC2, VC3, VC4, VC5, VC6, VC7, VC8, VC9, reduceIte, reduceCtorEq, Nat.reduceEqDiff, Nat.reduceAdd, Nat.reduceMul, Nat.reduceBEq, Nat.reduceLT, Nat.reduceLeDiff, Int.reduceEq, Int.reduceLT, Int.reduceLE, Int.reduceNeg, Int.reduceToNat, Int.reduceAdd, Nat.reduceDiv, Nat.reduceSub, Nat.reduceMod, encL, MC0, MC1, MC2, h, h1, h2, rt_first hp] | refine callX_of (ih t.elem[0] (hok _ (List.getElem_mem hp)) (by omega)) (by first | exact Or.inr rfl | exact Or.inl rfl) ?_ <;> simp only [VC0, VC1, VC2, VC3, VC4, VC5, VC6, VC7, VC8, VC9, reduceIte, reduceCtorEq, Nat.reduceEqDiff, Nat.reduceAdd, Nat.reduceMul, Nat.reduceBEq, Nat.reduceLT, Nat.reduceLeDiff, Int.reduceEq, Int.reduceLT, Int.reduceLE, Int.reduceNeg, Int.reduceToNat, Int.reduceAdd, Nat.reduceDiv, Nat.reduceSub, Nat.reduceMod, encL, MC0, MC1, MC2, h1, h2, rt_first hp] | (unfold InI64; omega) | refine And.intro ?_ ?_)
        all_goals first
          | omega
          | (simp [*]; done)
          | (simp [*]; omega)
      · have h1' : ¬ ((t.elem.length : Int) = 1) := by omega
        simp only [VC0, VC1, VC2, VC3, VC4, VC5, VC6, VC7, VC8, VC9, reduceIte, reduceCtorEq, Nat.reduceEqDiff, Nat.reduceAdd, Nat.reduceMul, Nat.reduceBEq, Nat.reduceLT, Nat.reduceLeDiff, Int.reduceEq, Int.reduceLT, Int.reduceLE, Int.reduceNeg, Int.reduceToNat, Int.reduceAdd, Nat.reduceDiv, Nat.reduceSub, Nat.reduceMod, encL, MC0, MC1, MC2]
        repeat' (first | refine condDn_of (fun h => ?_) (fun h => ?_) <;> simp only [VC0, VC1, VC2, VC3, VC4, VC5, VC6, VC7, VC8, VC9, reduceIte, reduceCtorEq, Nat.reduceEqDiff, Nat.reduceAdd, Nat.reduceMul, Nat.reduceBEq, Nat.reduceLT, Nat.reduceLeDiff, Int.reduceEq, Int.reduceLT, Int.reduceLE, Int.reduceNeg, Int.reduceToNat, Int.reduceAdd, Nat.reduceDiv, Nat.reduceSub, Nat.reduceMod, encL, MC0, MC1, MC2, h, h1'] | refine condD_of (fun h => ?_) (fun h => ?_) <;> simp only [VC0, VC1, VC2, VC3, VC4, VC5, VC6, VC7, VC8, VC9, reduceIte, reduceCtorEq, Nat.reduceEqDiff, Nat.reduceAdd, Nat.reduceMul, Nat.reduceBEq, Nat.reduceLT, Nat.reduceLeDiff, Int.reduceEq, Int.reduceLT, Int.reduceLE, Int.reduceNeg, Int.reduceToNat, Int.reduceAdd, Nat.reduceDiv, Nat.reduceSub, Nat.reduceMod, encL, MC0, MC1, MC2, h, h1'] | refine condVn_of (fun h => ?_) (fun h => ?_) <;> simp only [VC0, VC1, VC2, VC3, VC4, VC5, VC6, VC7, VC8, VC9, reduceIte, reduceCtorEq, Nat.reduceEqDiff, Nat.reduceAdd, Nat.reduceMul, Nat.reduceBEq, Nat.reduceLT, Nat.reduceLeDiff, Int.reduceEq, Int.reduceLT, Int.reduceLE, Int.reduceNeg, Int.reduceToNat, Int.reduceAdd, Nat.reduceDiv, Nat.reduceSub, Nat.reduceMod, encL, MC0, MC1, MC2, h, h1'] | refine condV_of (fun h => ?_) (fun h => ?_) <;> simp only [VC0, VC1, VC2, VC3, VC4, VC5, VC6, VC7, VC8, VC9, reduceIte, reduceCtorEq, Nat.reduceEqDiff, Nat.reduceAdd, Nat.reduceMul, Nat.reduceBEq, Nat.reduceLT, Nat.reduceLeDiff, Int.reduceEq, Int.reduceLT, Int.reduceLE, Int.reduceNeg, Int.reduceToNat, Int.reduceAdd, Nat.reduceDiv, Nat.reduceSub, Nat.reduceMod, encL, MC0, MC1, MC2, h, h1'] | refine gdDn_of (fun h => ?_) (fun h => ?_) <;> simp only [VC0, VC1, VC2, VC3, VC4, VC5, VC6, VC7, VC8, VC9, reduceIte, reduceCtorEq, Nat.reduceEqDiff, Nat.reduceAdd, Nat.reduceMul, Nat.reduceBEq, Nat.reduceLT, Nat.reduceLeDiff, Int.reduceEq, Int.reduceLT, Int.reduceLE, Int.reduceNeg, Int.reduceToNat, Int.reduceAdd, Nat.reduceDiv, Nat.reduceSub, Nat.reduceMod, encL, MC0, MC1, MC2, h, h1'] | refine gdD_of (fun h => ?_) (fun h => ?_) <;> simp only [VC0, VC1, VC2, VC3, VC4, VC5, VC6, VC7, VC8, VC9, reduceIte, reduceCtorEq, Nat.reduceEqDiff, Nat.reduceAdd, Nat.reduceMul, Nat.reduceBEq, Nat.reduceLT, Nat.reduceLeDiff, Int.reduceEq, Int.reduceLT, Int.reduceLE, Int.reduceNeg, Int.reduceToNat, Int.reduceAdd, Nat.reduceDiv, Nat.reduceSub, Nat.reduceMod, encL, MC0, MC1, MC2, h, h1'] | refine gdVMn_of (fun h => ?_) (fun h => ?_) <;> simp only [VC0, VC1, VC2, VC3, VC4, VC5, VC6, VC7, VC8, VC9, reduceIte, reduceCtorEq, Nat.reduceEqDiff, Nat.reduceAdd, Nat.reduceMul, Nat.reduceBEq, Nat.reduceLT, Nat.reduceLeDiff, Int.reduceEq, Int.reduceLT, Int.reduceLE, Int.reduceNeg, Int.reduceToNat, Int.reduceAdd, Nat.reduceDiv, Nat.reduceSub, Nat.reduceMod, encL, MC0, MC1, MC2, h, h1'] | refine gdVM_of (fun h => ?_) (fun h => ?_) <;> simp only [VC0, VC1, VC2, VC3, VC4, VC5, VC6, VC7, VC8, VC9, reduceIte, reduceCtorEq, Nat.reduceEqDiff, Nat.reduceAdd, Nat.reduceMul, Nat.reduceBEq, Nat.reduceLT, Nat.reduceLeDiff, Int.reduceEq, Int.reduceLT, Int.reduceLE, Int.reduceNeg, Int.reduceToNat, Int.reduceAdd, Nat.reduceDiv, Nat.reduceSub, Nat.reduceMod, encL, MC0, MC1, MC2, h, h1'] | refine gpDn_of (fun h => ?_) (fun h => ?_) <;> simp only [VC0, VC1, VC2, VC3, VC4, VC5, VC6, VC7, VC8, VC9, reduceIte, reduceCtorEq, Nat.reduceEqDiff, Nat.reduceAdd, Nat.reduceMul, Nat.reduceBEq, Nat.reduceLT, Nat.reduceLeDiff, Int.reduceEq, Int.reduceLT, Int.reduceLE, Int.reduceNeg, Int.reduceToNat, Int.reduceAdd, Nat.reduceDiv, Nat.reduceSub, Nat.reduceMod, encL, MC0, MC1, MC2, h, h1'] | refine gpD_of (fun h => ?_) (fun h => ?_) <;> simp only [VC0, VC1, VC2, VC3, VC4, VC5, VC6, VC7, VC8, VC9, reduceIte, reduceCtorEq, Nat.reduceEqDiff, Nat.reduceAdd, Nat.reduceMul, Nat.reduceBEq, Nat.reduceLT, Nat.reduceLeDiff, Int.reduceEq, Int.reduceLT, Int.reduceLE, Int.reduceNeg, Int.reduceToNat, Int.reduceAdd, Nat.reduceDiv, Nat.reduceSub, Nat.reduceMod, encL, MC0, MC1, MC2, h, h1'] | refine gdVn_of (fun h => ?_) (fun h => ?_) <;> simp only [VC0, VC1, VC2, VC3, VC4, VC5, VC6, VC7, VC8, VC9, reduceIte, reduceCtorEq, Nat.reduceEqDiff, Nat.reduceAdd, Nat.reduceMul, Nat.reduceBEq, Nat.reduceLT, Nat.reduceLeDiff, Int.reduceEq, Int.reduceLT, Int.reduceLE, Int.reduceNeg, Int.reduceToNat, Int.reduceAdd, Nat.reduceDiv, Nat.reduceSub, Nat.reduceMod, encL, MC0, MC1, MC2, h, h1'] | refine gdV_of (fun h => ?_) (fun h => ?_) <;> simp only [VC0, VC1, VC2, VC3, VC4, VC5, VC6, VC7, VC8, VC9, reduceIte, reduceCtorEq, Nat.reduceEqDiff, Nat.reduceAdd, Nat.reduceMul, Nat.reduceBEq, Nat.reduceLT, Nat.reduceLeDiff, Int.reduceEq, Int.reduceLT, Int.reduceLE, Int.reduceNeg, Int.reduceToNat, Int.reduceAdd, Nat.reduceDiv, Nat.reduceSub, Nat.reduceMod, encL, MC0, MC1, MC2, h, h1'] | (unfold InI64; omega) | refine And.intro ?_ ?_)
        all_goals first
          | omega
          | (simp [*]; done)
          | (simp [*]; omega)

end Go.Proofs.YtlkdcgfjmhjjpaaGreat

set_option linter.unusedSimpArgs false
set_option linter.unusedVariables false
namespace Go.Proofs.YtlkdcgfjmhjjpaaGreat
open Go Go.Lg Go.RowKit
set_option linter.unusedVariables false
set_option linter.unusedSimpArgs false
set_option maxRecDepth 20000

theorem idxS_ret (l : List ByteArray) (s : ByteArray) (hl : l.length ≤ 4611686018427387904) : PRet Tryz.prog 62 [encL cS l, .str s] (.int .i64 (idx (fun x => decide (s = x)) l 0)) := by
  refine pret_intro fdg62 (by simp) ?_
  simp only [lcg62, VCA, simprocAttr, encL, MCA]
  refine loop_vcg (ι := Nat × (Nat → Nat)) (fun y => stO [(0, .val (encL cS l)), (1, .val (.str s)), (7, .val (.int .i64 l.length)), (8, .val (.int .i64 y.1))] y.2)
    (fun y => y.1 ≤ l.length ∧ idx (fun x => decide (s = x)) l 0 = idx (fun x => decide (s = x)) (l.drop y.1) y.1) (fun y => l.length - y.1) (0, _) ⟨Nat.zero_le _, rfl⟩ (ent_of _ [] rfl rfl (by simp only [VCA, simprocAttr, encL, MCA])) ?_
  rintro ⟨k, c⟩ hk
  obtain ⟨hk, hb⟩ : k ≤ l.length ∧ idx (fun x => decide (s = x)) l 0 = idx (fun x => decide (s = x)) (l.drop k) k := hk
  simp only [VCA, simprocAttr, encL, MCA]
  refine condD_of (fun h => ?_) (fun h => ?_)
  · have hk' : k < l.length := by omega
    have i1 : 0 ≤ (k : Int) ∧ (k : Int) < l.length := by omega
    have i3 : InI64 ((k : Int) + 1) := by unfold InI64; omega
    rw [drop_idx _ hk'] at hb
    simp only [VCA, simprocAttr, encL, MCA, hk', i1, i3, txt_eq]
    cases b1 : decide (s = l[k]) <;> simp only [VCA, simprocAttr, encL, MCA, b1, i3]
    · rw [if_neg (by rw [b1]; decide)] at hb
      exact backTo_of (k + 1, _) ⟨hk', hb⟩ (by simp only []; omega) (ent_of _ [] rfl rfl (by simp only [VCA, simprocAttr, encL, MCA]))
    · rw [if_pos b1] at hb
      rw [hb]
  · have hk' : k = l.length := by omega
    subst hk'
    simp only [VCA, simprocAttr, encL, MCA]
    rw [hb, List.drop_length]; rfl
theorem hasS_ret (l : List ByteArray) (s : ByteArray) (hl : l.length ≤ 4611686018427387904) : PRet Tryz.prog 35 [encL cS l, .str s] (.bool (l.any fun x => decide (s = x))) := by
  refine pret_intro fdg35 (by simp) ?_
  simp only [lcg35, VCA, simprocAttr, encL, MCA]
  refine callX_of (idxS_ret l s hl) (.inr rfl) ?_
  simp only [VCA, simprocAttr, encL, idx_any _ l 0 (by decide)]
theorem star_eq (p : MPath) : (p.steps.any fun x => decide ((⟨#[42]⟩ : ByteArray) = x)) = starS p := by
  unfold starS
  congr 1; funext x
  rw [Bool.eq_iff_iff, decide_eq_true_eq, decide_eq_true_eq]; exact eq_comm
theorem same_ret (a b : MPath) (ha : smallP a) (hb : smallP b) : PRet Tryz.prog 37 [.agg a.cells, .agg b.cells] (.bool (prefS a b && prefS b a)) := by
  have h1 : a.steps.length ≤ 4611686018427387904 := by unfold smallP at ha; omega
  have h2 : b.steps.length ≤ 4611686018427387904 := by unfold smallP at hb; omega
  refine pret_intro fdg37 (by simp) ?_
  simp only [lcg37, VCA, simprocAttr, encL, MCA]
  refine callX_of (pref_ret a b h1) (.inr rfl) ?_
  cases b1 : prefS a b <;> simp only [VCA, simprocAttr, encL, MCA, b1, Bool.false_and, Bool.true_and]
  refine callX_of (pref_ret b a h2) (.inr rfl) ?_
  simp only [VCA, simprocAttr, encL, MCA]
theorem put1_ret (x p : MPath) (hx : smallP x) (hp : smallP p) : PRet Tryz.prog 36 [.agg x.cells, .ip p.cells 0] (.bool (prefS x p && !prefS p x)) := by
  have h1 : x.steps.length ≤ 4611686018427387904 := by unfold smallP at hx; omega
  refine pret_intro fdg36 (by simp) ?_
  simp only [lcg36, VCA, simprocAttr, encL, MCA]
  refine callX_of (pref_ret x p h1) (.inr rfl) ?_
  cases b1 : prefS x p <;> simp only [VCA, simprocAttr, encL, MCA, b1, Bool.false_and, Bool.true_and]
  refine callX_of (same_ret x p hx hp) (.inr rfl) ?_
  simp only [VCA, simprocAttr, encL, MCA, b1, Bool.true_and]
theorem put_own (l : List MPath) (p : MPath) (hl : l.length ≤ 1000000) (hp : smallP p) (hx : ∀ x ∈ l, smallP x) :
    PRetM Tryz.prog 13 [encL MPath.cells l, .agg p.cells] 2 (putS l p).length ((putS l p).flatMap MPath.cells) := by
  have hps : p.steps.length ≤ 4611686018427387904 := by unfold smallP at hp; omega
  refine pretM_intro fdg13 (by simp) (mp_len _) ?_
  simp only [lcg13, VCA, simprocAttr, encL, MCA]
  refine callX_of (hasS_ret p.steps _ hps) (.inr rfl) ?_
  rw [star_eq]
  cases b1 : starS p <;> simp only [VCA, simprocAttr, encL, MCA, b1]
  case true =>
    have e : putS l p = l := by rw [putS, b1, Bool.true_or, if_pos rfl]
    rw [e]
    refine callX_own (all_own l hl hx) (.inl rfl) ?_
    simp only [VCA, simprocAttr, encL, MCA, ownR, mp_len, mp_snap]
  refine callX_of (containsP_ret l _ [.ip p.cells 0] (fun x => prefS x p && !prefS p x) (by rw [maxLen_eq]; omega) (fun H => rfl) (fun H => rfl) (fun H => rfl) (fun H => rfl) (fun x h => put1_ret x p (hx x h) hp)) (.inr rfl) ?_
  cases b2 : l.any (fun x => prefS x p && !prefS p x) <;> simp only [VCA, simprocAttr, encL, MCA, b2]
  case true =>
    have e : putS l p = l := by rw [putS, b1, b2, Bool.false_or, if_pos rfl]
    rw [e]
    refine callX_own (all_own l hl hx) (.inl rfl) ?_
    simp only [VCA, simprocAttr, encL, MCA, ownR, mp_len, mp_snap]
  have e : putS l p = l.filter fun x => !prefS p x := by rw [putS, b1, b2, Bool.false_or, if_neg (by decide)]
  rw [e]
  refine callX_own (without_own l p hl hp hx) (.inl rfl) ?_
  simp only [VCA, simprocAttr, encL, MCA, ownR, mp_len, mp_snap]
end Go.Proofs.YtlkdcgfjmhjjpaaGreat

set_option linter.unusedSimpArgs false
set_option linter.unusedVariables false
namespace Go.Lg
open Go Go.RowKit
/-- What is gone behind operands. -/
def movS (l : List MPath) : List MOper → List MPath
  | [] => l
  | o :: r => movS (if o.kind = 4 then addS l o.path else l) r
theorem movS_srt : ∀ (os : List MOper) {l : List MPath}, Srt l → Srt (movS l os)
  | [], _, h => h
  | o :: r, l, h => by
    rw [movS]
    refine movS_srt r ?_
    split
    · exact srt_add h
    · exact h
theorem ins_len {p : MPath} : ∀ {l : List MPath}, (insP p l).length = l.length + 1
  | [] => rfl
  | x :: l => by rw [insP]; split <;> simp [ins_len (l := l)]
theorem add_len (l : List MPath) (p : MPath) : (addS l p).length ≤ l.length + 1 := by
  unfold addS
  split
  · omega
  · rw [ins_len]
    have := List.length_filter_le (fun x => !prefS p x) l
    omega
theorem movS_len : ∀ (os : List MOper) (l : List MPath), (movS l os).length ≤ l.length + os.length
  | [], _ => Nat.le_refl _
  | o :: r, l => by
    rw [movS]
    have h := movS_len r (if o.kind = 4 then addS l o.path else l)
    have : (if o.kind = 4 then addS l o.path else l).length ≤ l.length + 1 := by
      split
      · exact add_len l o.path
      · omega
    simp only [List.length_cons]; omega
theorem movS_mem : ∀ (os : List MOper) {l : List MPath} {x : MPath}, x ∈ movS l os → x ∈ l ∨ ∃ o ∈ os, o.kind = 4 ∧ x = o.path
  | [], _, _, h => .inl h
  | o :: r, l, x, h => by
    rw [movS] at h
    rcases movS_mem r h with h | ⟨q, h1, h2⟩
    · split at h
      · rename_i hk
        rcases mem_add_or h with h | h
        · exact .inl h
        · exact .inr ⟨o, List.mem_cons_self .., hk, h⟩
      · exact .inl h
    · exact .inr ⟨q, List.mem_cons_of_mem _ h1, h2⟩
theorem movS_app : ∀ (a b : List MOper) (l : List MPath), movS l (a ++ b) = movS (movS l a) b
  | [], _, _ => rfl
  | o :: a, b, l => by rw [List.cons_append, movS, movS, movS_app a b]
theorem mo_set (a b c e : V) (o : MOper) : setCells [a, b, c, e] 0 o.cells = o.cells := setCells_all (by rw [MOper.len]; rfl)
end Go.Lg
namespace Go.Proofs.YtlkdcgfjmhjjpaaGreat
open Go Go.Lg Go.RowKit
set_option linter.unusedVariables false
set_option linter.unusedSimpArgs false
set_option maxRecDepth 20000

/-- What is gone behind a point. -/
def aftS (l : List MPath) (x : MInst) : List MPath :=
  if x.kind = 1 then (if x.has = true then putS (movS l (opersL x.val)) x.to else movS l (opersL x.val))
  else if x.kind = 3 then addS l x.to
  else if x.kind = 2 then addS l ⟨x.to.loc, []⟩
  else l

theorem opersG_ret (v : MVal) : PRet Tryz.prog 63 [.agg v.cells] (encL MOper.cells (opersL v)) := by
  refine pret_intro_l fdg63 (by simp) ?_
  simp only [lcg63, VCA, simprocAttr, encL, MCA]
  repeat' (first | refine condDn_of (fun h => ?_) (fun h => ?_) <;> simp only [VCA, simprocAttr, encL, MCA, h, fill1, fill2, MOper.len, V.cells] | refine condD_of (fun h => ?_) (fun h => ?_) <;> simp only [VCA, simprocAttr, encL, MCA, h, fill1, fill2, MOper.len, V.cells] | refine condVn_of (fun h => ?_) (fun h => ?_) <;> simp only [VCA, simprocAttr, encL, MCA, h, fill1, fill2, MOper.len, V.cells] | refine condV_of (fun h => ?_) (fun h => ?_) <;> simp only [VCA, simprocAttr, encL, MCA, h, fill1, fill2, MOper.len, V.cells] | refine gdDn_of (fun h => ?_) (fun h => ?_) <;> simp only [VCA, simprocAttr, encL, MCA, h, fill1, fill2, MOper.len, V.cells] | refine gdD_of (fun h => ?_) (fun h => ?_) <;> simp only [VCA, simprocAttr, encL, MCA, h, fill1, fill2, MOper.len, V.cells] | refine gdVMn_of (fun h => ?_) (fun h => ?_) <;> simp only [VCA, simprocAttr, encL, MCA, h, fill1, fill2, MOper.len, V.cells] | refine gdVM_of (fun h => ?_) (fun h => ?_) <;> simp only [VCA, simprocAttr, encL, MCA, h, fill1, fill2, MOper.len, V.cells] | refine gpDn_of (fun h => ?_) (fun h => ?_) <;> simp only [VCA, simprocAttr, encL, MCA, h, fill1, fill2, MOper.len, V.cells] | refine gpD_of (fun h => ?_) (fun h => ?_) <;> simp only [VCA, simprocAttr, encL, MCA, h, fill1, fill2, MOper.len, V.cells] | refine gdVn_of (fun h => ?_) (fun h => ?_) <;> simp only [VCA, simprocAttr, encL, MCA, h, fill1, fill2, MOper.len, V.cells] | refine gdV_of (fun h => ?_) (fun h => ?_) <;> simp only [VCA, simprocAttr, encL, MCA, h, fill1, fill2, MOper.len, V.cells] | (unfold InI64; omega) | refine And.intro ?_ ?_)
  all_goals simp [opersL, fill1, fill2, encL, MOper.len, V.cells, partsOk, fillL, V.known, *]
  all_goals first | exact ⟨List.all_eq_true.1 (MOper.imvc _ 2), List.all_eq_true.1 (MOper.imvc _ 2)⟩ | skip

/-- The moves among operands are small. -/
def smallO (os : List MOper) : Prop := ∀ o ∈ os, smallP o.path
theorem moved_ret (hS : SortsP) (l : List MPath) (v : MVal) (hs : Srt l) (hl : l.length ≤ 900000) (hx : ∀ x ∈ l, smallP x) (hn : (opersL v).length ≤ 100000) (ho : smallO (opersL v)) :
    PRet Tryz.prog 40 [encL MPath.cells l, .agg v.cells, .nilf] (encL MPath.cells (movS l (opersL v))) := by
  refine pret_intro fdg40 (by simp) ?_
  simp only [lcg40, VCA, simprocAttr, encL, MCA]
  refine callX_of (opersG_ret v) (.inl rfl) ?_
  simp only [VCA, simprocAttr, encL, MCA]
  generalize opersL v = os at *
  refine loop_vcg (ι := Nat × (Nat → Nat)) (fun y => stO [(0, .val (encL MPath.cells (movS l (os.take y.1)))), (2, .val .nilf), (10, .val (encL MOper.cells os)), (11, .val (.int .i64 os.length)), (12, .val (.int .i64 y.1))] y.2)
    (fun y => y.1 ≤ os.length) (fun y => os.length - y.1) (0, _) (Nat.zero_le _) (ent_of _ [] rfl rfl (by simp only [VCA, simprocAttr, encL, MCA, List.take_zero, movS])) ?_
  rintro ⟨k, c⟩ hk
  have hk : k ≤ os.length := hk
  simp only [VCA, simprocAttr, encL, MCA]
  refine condD_of (fun h => ?_) (fun h => ?_)
  · have hk' : k < os.length := by omega
    have i1 : 0 ≤ (k : Int) ∧ (k : Int) < os.length := by omega
    have i2 : InI64 ((k : Int) + 1) := by unfold InI64; omega
    have e : os.take (k + 1) = os.take k ++ [os[k]] := by rw [List.take_add_one, List.getElem?_eq_getElem hk']; rfl
    have hlen := movS_len (os.take k) l
    have hmem := fun x => movS_mem (os.take k) (l := l) (x := x)
    have hsr := movS_srt (os.take k) hs
    have hsm : ∀ x ∈ movS l (os.take k), smallP x := by
      intro x h
      rcases hmem x h with h | ⟨o, h1, _, rfl⟩
      · exact hx x h
      · exact ho o (List.mem_of_mem_take h1)
    rw [List.length_take] at hlen
    simp only [VCA, simprocAttr, encL, MCA, hk', i1, mo_set, leqf]
    cases b1 : decide (os[k].kind = 4) <;> simp only [VCA, simprocAttr, encL, MCA, b1, i2]
    · refine backTo_of (k + 1, _) hk' (by simp only []; omega) (ent_of _ [] rfl rfl ?_)
      simp only [VCA, simprocAttr, encL, MCA, e, movS_app, movS, if_neg (of_decide_eq_false b1)]
    · refine callX_of (add_own hS _ _ hsr (by omega) (ho _ (List.getElem_mem hk')) hsm).ret (.inl rfl) ?_
      simp only [VCA, simprocAttr, encL, MCA, i2]
      refine backTo_of (k + 1, _) hk' (by simp only []; omega) (ent_of _ [] rfl rfl ?_)
      simp only [VCA, simprocAttr, encL, MCA, e, movS_app, movS, if_pos (of_decide_eq_true b1)]
  · have hk' : k = os.length := by omega
    subst hk'
    simp only [VCA, simprocAttr, encL, MCA, List.take_length]
end Go.Proofs.YtlkdcgfjmhjjpaaGreat

set_option linter.unusedSimpArgs false
set_option linter.unusedVariables false
namespace Go.Proofs.YtlkdcgfjmhjjpaaGreat
open Go Go.Lg Go.RowKit
set_option linter.unusedVariables false
set_option linter.unusedSimpArgs false
set_option maxRecDepth 20000

theorem mo_nz (d : Nat) (l : List MPath) : (l.flatMap MPath.cells).map (nz (d + 2)) = l.flatMap MPath.cells := by
  have h1 : ∀ m : List ByteArray, (m.flatMap cS).map (nz (d + 1)) = m.flatMap cS := by
    intro m
    induction m with
    | nil => rfl
    | cons x m ih => rw [List.flatMap_cons, List.map_append, ih]; rfl
  induction l with
  | nil => rfl
  | cons x r ih => rw [List.flatMap_cons, List.map_append, ih, mp_c]; simp [nz, h1]
theorem front0 (n : Int) (l : List MPath) : List.map (nz 6) [.sl l.length (l.flatMap MPath.cells), .agg [.int .i64 n, .e0]] = [encL MPath.cells l, .agg (MPath.mk n []).cells] := by
  simp only [List.map_cons, List.map_nil, nz, mo_nz, mp_c, encL, List.length_nil, List.flatMap_nil]
theorem mp_setA (a b c : V) : setCells [a, b] 0 [c] = [c, b] := rfl
theorem aft_ret (hS : SortsP) (l : List MPath) (x : MInst) (hs : Srt l) (hl : l.length ≤ 800000) (hx : ∀ y ∈ l, smallP y) (hn : (opersL x.val).length ≤ 100000) (ho : smallO (opersL x.val)) (ht : smallP x.to) :
    PRet Tryz.prog 15 [encL MPath.cells l, .agg x.cells] (encL MPath.cells (aftS l x)) := by
  have hm := movS_len (opersL x.val) l
  have hmx : ∀ y ∈ movS l (opersL x.val), smallP y := by
    intro y h
    rcases movS_mem _ h with h | ⟨o, h1, _, rfl⟩
    · exact hx y h
    · exact ho o h1
  have hms := movS_srt (opersL x.val) hs
  refine pret_intro fdg15 (by simp) ?_
  simp only [lcg15, VCA, simprocAttr, encL, MCA]
  unfold aftS
  cases b1 : decide (x.kind = 1) <;> simp only [VCA, simprocAttr, encL, MCA, b1]
  · rw [if_neg (of_decide_eq_false b1)]
    cases b3 : decide (x.kind = 3) <;> simp only [VCA, simprocAttr, encL, MCA, b3]
    · rw [if_neg (of_decide_eq_false b3)]
      cases b2 : decide (x.kind = 2) <;> simp only [VCA, simprocAttr, encL, MCA, b2, mp_setA, List.all_cons, List.all_nil, Bool.and_true, List.map_cons, List.map_nil]
      · rw [if_neg (of_decide_eq_false b2)]
        refine callX_of (all_own l (by omega) hx).ret (.inl rfl) ?_
        simp only [VCA, simprocAttr, encL, MCA]
      · rw [if_pos (of_decide_eq_true b2)]
        refine callX_of ((add_own hS l ⟨x.to.loc, []⟩ hs (by omega) (by unfold smallP; simp) hx).ret.nz 6 (front0 _ _)) (.inl rfl) ?_
        simp only [VCA, simprocAttr, encL, MCA]
    · rw [if_pos (of_decide_eq_true b3)]
      refine callX_of (add_own hS l x.to hs (by omega) ht hx).ret (.inl rfl) ?_
      simp only [VCA, simprocAttr, encL, MCA]
  · rw [if_pos (of_decide_eq_true b1)]
    refine callX_of (moved_ret hS l x.val hs (by omega) hx hn ho) (.inl rfl) ?_
    cases b2 : x.has <;> simp only [VCA, simprocAttr, encL, MCA, b2]
    · refine callX_of (all_own _ (by omega) hmx).ret (.inl rfl) ?_
      simp only [VCA, simprocAttr, encL, MCA]
    · refine callX_of (put_own _ x.to (by omega) ht hmx).ret (.inl rfl) ?_
      simp only [VCA, simprocAttr, encL, MCA]
end Go.Proofs.YtlkdcgfjmhjjpaaGreat

set_option linter.unusedSimpArgs false
set_option linter.unusedVariables false
namespace Go.Lg
open Go Go.RowKit
theorem ins_none {p : MPath} : ∀ {G r : List MPath}, G.any (fun y => ltP p y) = false → insP p (G ++ r) = G ++ insP p r
  | [], _, _ => rfl
  | x :: G, r, h => by
    rw [List.any_cons, Bool.or_eq_false_iff] at h
    rw [List.cons_append, insP, if_neg (by rw [h.1]; decide), ins_none h.2]; rfl
theorem ins_some {p : MPath} : ∀ {G r : List MPath}, G.any (fun y => ltP p y) = true → insP p (G ++ r) = insP p G ++ r
  | x :: G, r, h => by
    rw [List.cons_append, insP, insP]
    by_cases e : ltP p x = true
    · rw [if_pos e, if_pos e]; rfl
    · rw [if_neg e, if_neg e]
      rw [List.any_cons, Bool.or_eq_true] at h
      rw [ins_some (h.resolve_left e)]; rfl
end Go.Lg
namespace Go.Proofs.YtlkdcgfjmhjjpaaGreat
open Go Go.Lg Go.RowKit
set_option linter.unusedVariables false
set_option linter.unusedSimpArgs false
set_option maxRecDepth 20000

/-- The text's front: so many steps as stand ahead of the first star. -/
def frontN : List ByteArray → Nat
  | [] => 0
  | x :: r => if x = ⟨#[42]⟩ then 0 else frontN r + 1
def frontP (p : MPath) : MPath := ⟨p.loc, p.steps.take (frontN p.steps)⟩
theorem frontN_le : ∀ l : List ByteArray, frontN l ≤ l.length
  | [] => Nat.le_refl _
  | x :: r => by rw [frontN]; split <;> simp only [List.length_cons] <;> have := frontN_le r <;> omega
theorem frontN_star : ∀ l : List ByteArray, (frontN l != l.length) = l.any fun s => decide (s = ⟨#[42]⟩)
  | [] => rfl
  | x :: r => by
    have ih := frontN_star r
    have hle := frontN_le r
    rw [frontN, List.any_cons]
    by_cases e : x = ⟨#[42]⟩
    · rw [if_pos e, decide_eq_true e, Bool.true_or]; simp
    · rw [if_neg e, decide_eq_false e, Bool.false_or, ← ih]
      simp [bne]
theorem frontN_drop : ∀ (l : List ByteArray) (k : Nat), k ≤ frontN l → frontN l = k + frontN (l.drop k)
  | l, 0, _ => by simp
  | [], k + 1, h => by simp [frontN] at h
  | x :: r, k + 1, h => by
    rw [frontN] at h ⊢
    by_cases e : x = ⟨#[42]⟩
    · rw [if_pos e] at h; omega
    · rw [if_neg e] at h ⊢
      rw [List.drop_succ_cons, frontN_drop r k (by omega)]; omega
theorem mp_set2 (a b c d : V) : setCells [a, b] 0 [c, d] = [c, d] := rfl
theorem mp_set01 (a b c d : V) : setCells (setCells [a, b] 0 [c]) 1 [d] = [c, d] := rfl
theorem front_ret (p : MPath) (hp : p.steps.length ≤ 4611686018427387904) : PRet Tryz.prog 19 [.agg p.cells] (.agg (frontP p).cells) := by
  refine pret_intro fdg19 (by simp) ?_
  simp only [lcg19, VCA, simprocAttr, encL, MCA]
  refine loop_vcg (ι := Nat × (Nat → Nat)) (fun y => stO [(1, .box p.cells), (2, .box [.int .i64 0, .e0]), (3, .val (.int .i64 y.1))] y.2)
    (fun y => y.1 ≤ frontN p.steps) (fun y => p.steps.length - y.1) (0, _) (Nat.zero_le _) (ent_of _ [] rfl rfl (by simp only [VCA, simprocAttr, encL, MCA])) ?_
  rintro ⟨k, c⟩ hk
  have hk : k ≤ frontN p.steps := hk
  have hfl := frontN_le p.steps
  have hd := frontN_drop p.steps k hk
  simp only [VCA, simprocAttr, encL, MCA]
  refine condD_of (fun h => ?_) (fun h => ?_)
  · have hk' : k < p.steps.length := by omega
    have i1 : 0 ≤ (k : Int) ∧ (k : Int) < p.steps.length := by omega
    have i2 : InI64 ((k : Int) + 1) := by unfold InI64; omega
    rw [List.drop_eq_getElem_cons hk', frontN] at hd
    simp only [VCA, simprocAttr, encL, MCA, hk', i1, txt_eq]
    cases b1 : decide (p.steps[k] = ⟨#[42]⟩) <;> simp only [VCA, simprocAttr, encL, MCA, b1, i2]
    · rw [if_neg (of_decide_eq_false b1)] at hd
      exact backTo_of (k + 1, _) (by show k + 1 ≤ _; omega) (by simp only []; omega) (ent_of _ [] rfl rfl (by simp only [VCA, simprocAttr, encL, MCA]))
    · rw [if_pos (of_decide_eq_true b1)] at hd
      have e : frontP p = ⟨p.loc, p.steps.take k⟩ := by unfold frontP; rw [hd]; rfl
      have hl : (p.steps.take k).length = k := by simp; omega
      simp only [VCA, simprocAttr, encL, MCA, e, mp_set01, mp_set2, mp_ld, mp_c, hl, ls_tk, List.all_cons, List.all_nil, List.length_cons, List.length_nil, Bool.and_true, List.map_cons, List.map_nil]
      omega
  · have hk' : k = p.steps.length := by omega
    have e : frontP p = p := path_ext rfl (by show p.steps.take _ = _; rw [List.take_of_length_le]; omega)
    simp only [VCA, simprocAttr, encL, MCA, e, mp_set0]

/-- So far. -/
def outA (p : MPath) (G : List MPath) : List MPath := if G.any (fun y => ltP p y) = true then insP p G else G
theorem outA_len (p : MPath) (G : List MPath) : (outA p G).length ≤ G.length + 1 := by
  unfold outA
  split
  · rw [ins_len]; omega
  · omega
theorem outA_new {p x : MPath} {G : List MPath} (h : G.any (fun y => ltP p y) = false) (hx : ltP p x = true) : outA p (G ++ [x]) = outA p G ++ [p] ++ [x] := by
  unfold outA
  rw [if_pos (by rw [List.any_append, Bool.or_eq_true]; right; simp [hx]), if_neg (by rw [h]; decide), ins_none h, insP, if_pos hx]; simp
theorem outA_old {p x : MPath} {G : List MPath} (h : G.any (fun y => ltP p y) = true ∨ ltP p x = false) : outA p (G ++ [x]) = outA p G ++ [x] := by
  unfold outA
  cases hg : G.any fun y => ltP p y with
  | true => rw [if_pos (by rw [List.any_append, hg, Bool.true_or]), if_pos rfl, ins_some hg]
  | false =>
    have hx : ltP p x = false := h.resolve_left (by rw [hg]; decide)
    rw [if_neg (by rw [List.any_append, hg]; simp [hx]), if_neg (by decide)]
theorem any_next {l : List MPath} {k : Nat} (h : k < l.length) (f : MPath → Bool) : (l.take (k + 1)).any f = ((l.take k).any f || f l[k]) := by
  have e : l.take (k + 1) = l.take k ++ [l[k]] := by rw [List.take_add_one, List.getElem?_eq_getElem h]; rfl
  rw [e, List.any_append]; simp
set_option maxHeartbeats 1000000 in
theorem add18_ret (l : List MPath) (p : MPath) (hl : l.length ≤ 1000000) (hp : smallP p) (hx : ∀ x ∈ l, smallP x) : PRet Tryz.prog 12 [encL MPath.cells l, .agg p.cells] (encL MPath.cells (addS l p)) := by
  have hps : p.steps.length ≤ 4611686018427387904 := by unfold smallP at hp; omega
  refine pret_intro fdg12 (by simp) ?_
  simp only [lcg12, VCA, simprocAttr, encL, MCA]
  refine loop_vcg (ι := Nat × (Nat → Nat)) (fun y => stO [(0, .val (encL MPath.cells l)), (3, .box p.cells), (5, .own 2 (outA p ((l.take y.1).filter fun x => !prefS p x)).length ((outA p ((l.take y.1).filter fun x => !prefS p x)).flatMap MPath.cells)),
      (6, .val (.bool (((l.take y.1).filter fun x => !prefS p x).any fun x => ltP p x))), (7, .val (.int .i64 y.1))] y.2)
    (fun y => y.1 ≤ l.length ∧ (l.take y.1).any (fun x => prefS x p) = false) (fun y => l.length - y.1) (0, _) ⟨Nat.zero_le _, rfl⟩ (ent_of _ [] rfl rfl (by simp only [VCA, simprocAttr, encL, MCA, List.take_zero, List.filter_nil, outA, List.any_nil, mp_e0])) ?_
  rintro ⟨k, c⟩ hk
  obtain ⟨hk, hnp⟩ : k ≤ l.length ∧ (l.take k).any (fun x => prefS x p) = false := hk
  simp only [VCA, simprocAttr, encL, MCA]
  have hF := filt_len l k fun x => !prefS p x
  have hO := outA_len p ((l.take k).filter fun x => !prefS p x)
  refine condD_of (fun h => ?_) (fun h => ?_)
  · have hk' : k < l.length := by omega
    have i1 : 0 ≤ (k : Int) ∧ (k : Int) < l.length := by omega
    have i2 : InI64 ((k : Int) + 1) := by unfold InI64; omega
    have e := filt_take hk' fun x => !prefS p x
    have en := any_next hk' fun x => prefS x p
    have hxk : l[k].steps.length ≤ 4611686018427387904 := by have := hx _ (List.getElem_mem hk'); unfold smallP at this; omega
    simp only [VCA, simprocAttr, encL, MCA, hk', i1]
    refine callV_of (pref16_ret l[k] p hxk) (.inr rfl) ?_
    cases b1 : prefS l[k] p <;> simp only [VCA, simprocAttr, encL, MCA, b1, hk', i1]
    case true =>
      have e2 : addS l p = l := by rw [addS, if_pos (List.any_eq_true.2 ⟨l[k], List.getElem_mem hk', b1⟩)]
      rw [e2]
      exact ⟨rfl, rfl⟩
    rw [hnp, b1, Bool.false_or] at en
    refine callV_of (pref16_ret p l[k] hps) (.inr rfl) ?_
    cases b2 : prefS p l[k] <;> simp only [VCA, simprocAttr, encL, MCA, b2, hk', i1, i2]
    · rw [b2, Bool.not_false, if_pos rfl] at e
      generalize hG : (l.take k).filter (fun x => !prefS p x) = G at *
      have fin : ∀ (c' : Nat → Nat), outA p (G ++ [l[k]]) = outA p G ++ [p] ++ [l[k]] ∨ True := fun _ => .inr trivial
      cases b3 : G.any (fun x => ltP p x) <;> simp only [VCA, simprocAttr, encL, MCA, b3, hk', i1, i2, mp_set1, mp_set0, mp_ld, mp_len, List.all_cons, List.all_nil, List.length_cons, List.length_nil, Bool.and_true]
      · refine callV_of (less16_ret p l[k] hps) (.inr rfl) ?_
        cases b4 : ltP p l[k] <;> simp only [VCA, simprocAttr, encL, MCA, b4, hk', i1, i2, mp_set1, mp_set0, mp_ld, mp_len, List.all_cons, List.all_nil, List.length_cons, List.length_nil, Bool.and_true]
        · refine ⟨⟨by omega, by omega⟩, backTo_of (k + 1, _) ⟨hk', en⟩ (by simp only []; omega) (ent_of _ [] rfl rfl ?_)⟩
          simp only [VCA, simprocAttr, encL, MCA, e, outA_old (.inr b4), mp_imv, mp_app, List.length_append, List.length_cons, List.length_nil, List.any_append, List.any_cons, List.any_nil, b3, b4, Bool.or_false]
        · refine ⟨⟨by omega, by omega⟩, ⟨by omega, by omega⟩, backTo_of (k + 1, _) ⟨hk', en⟩ (by simp only []; omega) (ent_of _ [] rfl rfl ?_)⟩
          simp only [VCA, simprocAttr, encL, MCA, e, outA_new b3 b4, mp_imv, mp_app, List.length_append, List.length_cons, List.length_nil, List.any_append, List.any_cons, List.any_nil, b3, b4, Bool.or_false, Bool.false_or]
      · refine ⟨⟨by omega, by omega⟩, backTo_of (k + 1, _) ⟨hk', en⟩ (by simp only []; omega) (ent_of _ [] rfl rfl ?_)⟩
        simp only [VCA, simprocAttr, encL, MCA, e, outA_old (.inl b3), mp_imv, mp_app, List.length_append, List.length_cons, List.length_nil, List.any_append, List.any_cons, List.any_nil, b3, Bool.true_or]
    · rw [b2, Bool.not_true, if_neg (by decide), List.append_nil] at e
      refine backTo_of (k + 1, _) ⟨hk', en⟩ (by simp only []; omega) (ent_of _ [] rfl rfl ?_)
      simp only [VCA, simprocAttr, encL, MCA, e, mp_imv]
  · have hk' : k = l.length := by omega
    subst hk'
    rw [List.take_length] at *
    have ea : addS l p = insP p (l.filter fun x => !prefS p x) := by rw [addS, if_neg (by rw [hnp]; decide)]
    rw [ea]
    generalize hG : l.filter (fun x => !prefS p x) = G at *
    cases b3 : G.any (fun x => ltP p x) <;> simp only [VCA, simprocAttr, encL, MCA, b3, mp_set1, mp_set0, mp_ld, mp_len, List.all_cons, List.all_nil, List.length_cons, List.length_nil, Bool.and_true]
    · have e1 : outA p G = G := by rw [outA, if_neg (by rw [b3]; decide)]
      have e2 : insP p G = G ++ [p] := by
        have := ins_none (p := p) (r := []) b3
        rwa [List.append_nil] at this
      rw [e1] at hO ⊢
      refine ⟨⟨by omega, by omega⟩, ?_⟩
      rw [if_pos (by omega), mp_app, mp_take (by simp), mp_snap, e2]; simp
    · have e1 : outA p G = insP p G := by rw [outA, if_pos b3]
      rw [e1, mp_take (Nat.le_refl _), mp_snap]
      exact ⟨rfl, rfl⟩
end Go.Proofs.YtlkdcgfjmhjjpaaGreat

set_option linter.unusedSimpArgs false
set_option linter.unusedVariables false
namespace Go.Proofs.YtlkdcgfjmhjjpaaGreat
open Go Go.Lg Go.RowKit
set_option linter.unusedVariables false
set_option linter.unusedSimpArgs false
set_option maxRecDepth 20000

theorem frontP_star (p : MPath) : ((frontP p).steps.length != p.steps.length) = starS p := by
  have h := frontN_star p.steps
  have hle := frontN_le p.steps
  rw [starS, ← h]
  have : (frontP p).steps.length = frontN p.steps := by show (p.steps.take _).length = _; rw [List.length_take]; omega
  rw [this]
theorem starred_ret (p : MPath) (hp : smallP p) : PRet Tryz.prog 38 [.agg p.cells] (.bool (starS p)) := by
  have hps : p.steps.length ≤ 4611686018427387904 := by unfold smallP at hp; omega
  refine pret_intro fdg38 (by simp) ?_
  simp only [lcg38, VCA, simprocAttr, encL, MCA]
  refine callV_of (front_ret p hps) (.inl rfl) ?_
  simp only [VCA, simprocAttr, encL, MCA]
  rw [← frontP_star]
  have e : (!decide (((frontP p).steps.length : Int) = p.steps.length)) = ((frontP p).steps.length != p.steps.length) := by
    rw [bne, Bool.not_inj_iff, Bool.eq_iff_iff, decide_eq_true_eq, beq_iff_eq]; omega
  rw [e]
theorem partly18_ret (l : List MPath) (p : MPath) (hl : l.length ≤ 1000000) (hx : ∀ x ∈ l, smallP x) : PRet Tryz.prog 39 [encL MPath.cells l, .agg p.cells] (.bool (l.any fun x => prefS x p && decide (x.steps.length < p.steps.length))) := by
  refine pret_intro fdg39 (by simp) ?_
  simp only [lcg39, VCA, simprocAttr, encL, MCA]
  refine loop_vcg (ι := Nat × (Nat → Nat)) (fun y => stO [(0, .val (encL MPath.cells l)), (3, .box p.cells), (5, .val (.int .i64 y.1))] y.2)
    (fun y => y.1 ≤ l.length ∧ (l.drop y.1).any (fun x => prefS x p && decide (x.steps.length < p.steps.length)) = l.any fun x => prefS x p && decide (x.steps.length < p.steps.length)) (fun y => l.length - y.1) (0, _) ⟨Nat.zero_le _, rfl⟩ (ent_of _ [] rfl rfl (by simp only [VCA, simprocAttr, encL, MCA])) ?_
  rintro ⟨k, c⟩ hk
  obtain ⟨hk, hb⟩ : k ≤ l.length ∧ (l.drop k).any (fun x => prefS x p && decide (x.steps.length < p.steps.length)) = l.any fun x => prefS x p && decide (x.steps.length < p.steps.length) := hk
  simp only [VCA, simprocAttr, encL, MCA]
  refine condD_of (fun h => ?_) (fun h => ?_)
  · have hk' : k < l.length := by omega
    have i1 : 0 ≤ (k : Int) ∧ (k : Int) < l.length := by omega
    have i2 : InI64 ((k : Int) + 1) := by unfold InI64; omega
    have hxk : l[k].steps.length ≤ 4611686018427387904 := by have := hx _ (List.getElem_mem hk'); unfold smallP at this; omega
    rw [List.drop_eq_getElem_cons hk', List.any_cons] at hb
    simp only [VCA, simprocAttr, encL, MCA, hk', i1]
    refine callV_of (pref16_ret l[k] p hxk) (.inr rfl) ?_
    cases b1 : prefS l[k] p <;> simp only [VCA, simprocAttr, encL, MCA, b1, hk', i1, i2]
    · rw [b1, Bool.false_and, Bool.false_or] at hb
      exact backTo_of (k + 1, _) ⟨hk', hb⟩ (by simp only []; omega) (ent_of _ [] rfl rfl (by simp only [VCA, simprocAttr, encL, MCA]))
    · rw [b1, Bool.true_and] at hb
      cases b2 : decide ((l[k].steps.length : Int) < p.steps.length) <;> simp only [VCA, simprocAttr, encL, MCA, b2, hk', i1, i2]
      · rw [decide_eq_false (by have := of_decide_eq_false b2; omega), Bool.false_or] at hb
        exact backTo_of (k + 1, _) ⟨hk', hb⟩ (by simp only []; omega) (ent_of _ [] rfl rfl (by simp only [VCA, simprocAttr, encL, MCA]))
      · rw [decide_eq_true (by have := of_decide_eq_true b2; omega), Bool.true_or] at hb
        rw [← hb]
  · have hk' : k = l.length := by omega
    subst hk'
    rw [List.drop_length] at hb
    simp only [VCA, simprocAttr, encL, MCA, ← hb, List.any_nil]
theorem part_eq (x p : MPath) : (prefS x p && decide (x.steps.length < p.steps.length)) = (prefS x p && !prefS p x) := by
  cases e : prefS x p with
  | false => rfl
  | true =>
    rw [Bool.true_and, Bool.true_and, Bool.eq_iff_iff, decide_eq_true_eq, Bool.not_eq_true']
    have hp := prefS_iff.1 e
    constructor
    · intro h
      cases e2 : prefS p x with
      | false => rfl
      | true => have := (prefS_iff.1 e2).2.length_le; omega
    · intro h
      have := hp.2.length_le
      rcases Nat.lt_or_ge x.steps.length p.steps.length with h1 | h1
      · exact h1
      · have e3 : x = p := path_ext hp.1 (hp.2.eq_of_length_le h1)
        rw [e3, prefS_refl] at h; cases h
set_option maxHeartbeats 1000000 in
theorem put18_ret (l : List MPath) (p : MPath) (hl : l.length ≤ 1000000) (hp : smallP p) (hx : ∀ x ∈ l, smallP x) : PRet Tryz.prog 14 [encL MPath.cells l, .agg p.cells] (encL MPath.cells (putS l p)) := by
  have hps : p.steps.length ≤ 4611686018427387904 := by unfold smallP at hp; omega
  refine pret_intro fdg14 (by simp) ?_
  simp only [lcg14, VCA, simprocAttr, encL, MCA]
  refine callX_of (starred_ret p hp) (.inr rfl) ?_
  have hq : (l.any fun x => prefS x p && decide (x.steps.length < p.steps.length)) = l.any fun x => prefS x p && !prefS p x := by simp only [part_eq]
  cases b1 : starS p <;> simp only [VCA, simprocAttr, encL, MCA, b1]
  case true =>
    have e : putS l p = l := by rw [putS, b1, Bool.true_or, if_pos rfl]
    rw [e]; exact ⟨rfl, rfl⟩
  refine callX_of (partly18_ret l p hl hx) (.inr rfl) ?_
  rw [hq]
  cases b2 : l.any (fun x => prefS x p && !prefS p x) <;> simp only [VCA, simprocAttr, encL, MCA, b2]
  case true =>
    have e : putS l p = l := by rw [putS, b1, b2, Bool.false_or, if_pos rfl]
    rw [e]; exact ⟨rfl, rfl⟩
  have e : putS l p = l.filter fun x => !prefS p x := by rw [putS, b1, b2, Bool.false_or, if_neg (by decide)]
  rw [e]
  refine loop_vcg (ι := Nat × (Nat → Nat)) (fun y => stO [(0, .val (encL MPath.cells l)), (3, .box p.cells), (5, .own 2 ((l.take y.1).filter fun x => !prefS p x).length (((l.take y.1).filter fun x => !prefS p x).flatMap MPath.cells)), (6, .val (.int .i64 y.1))] y.2)
    (fun y => y.1 ≤ l.length) (fun y => l.length - y.1) (0, _) (Nat.zero_le _) (ent_of _ [] rfl rfl (by simp only [VCA, simprocAttr, encL, MCA, List.take_zero, mp_e0, List.filter_nil])) ?_
  rintro ⟨k, c⟩ hk
  have hk : k ≤ l.length := hk
  simp only [VCA, simprocAttr, encL, MCA]
  refine condD_of (fun h => ?_) (fun h => ?_)
  · have hk' : k < l.length := by omega
    have i1 : 0 ≤ (k : Int) ∧ (k : Int) < l.length := by omega
    have i2 : InI64 ((k : Int) + 1) := by unfold InI64; omega
    have hlen := filt_len l k fun x => !prefS p x
    have e := filt_take hk' fun x => !prefS p x
    simp only [VCA, simprocAttr, encL, MCA, hk', i1]
    refine callV_of (pref16_ret p l[k] hps) (.inr rfl) ?_
    cases b3 : prefS p l[k] <;> simp only [VCA, simprocAttr, encL, MCA, b3, hk', i1, i2, mp_set1, mp_set0, mp_ld, mp_len, List.all_cons, List.all_nil, List.length_cons, List.length_nil, Bool.and_true]
    · refine ⟨⟨by omega, by omega⟩, backTo_of (k + 1, _) hk' (by simp only []; omega) (ent_of _ [] rfl rfl ?_)⟩
      simp only [VCA, simprocAttr, encL, MCA, e, b3, Bool.not_false, if_true, mp_imv, mp_app, List.length_append, List.length_cons, List.length_nil]
    · refine backTo_of (k + 1, _) hk' (by simp only []; omega) (ent_of _ [] rfl rfl ?_)
      simp only [VCA, simprocAttr, encL, MCA, e, b3, Bool.not_true, Bool.false_eq_true, if_false, List.append_nil, mp_imv]
  · have hk' : k = l.length := by omega
    subst hk'
    simp only [VCA, simprocAttr, encL, MCA, List.take_length, mp_take (Nat.le_refl _), mp_snap]
    rw [if_pos (by rw [mp_len]; exact Nat.le_refl _)]
end Go.Proofs.YtlkdcgfjmhjjpaaGreat

set_option linter.unusedSimpArgs false
set_option linter.unusedVariables false
namespace Go.Proofs.YtlkdcgfjmhjjpaaGreat
open Go Go.Lg Go.RowKit
set_option linter.unusedVariables false
set_option linter.unusedSimpArgs false
set_option maxRecDepth 20000
set_option maxHeartbeats 1000000 in
theorem after18_ret (l : List MPath) (x : MInst) (hl : l.length ≤ 800000) (hx : ∀ y ∈ l, smallP y) (hn : (opersL x.val).length ≤ 100000) (ho : smallO (opersL x.val)) (ht : smallP x.to) :
    PRet Tryz.prog 16 [encL MPath.cells l, .agg x.cells] (encL MPath.cells (aftS l x)) := by
  have hm := movS_len (opersL x.val) l
  have hmx : ∀ y ∈ movS l (opersL x.val), smallP y := by
    intro y h
    rcases movS_mem _ h with h | ⟨o, h1, _, rfl⟩
    · exact hx y h
    · exact ho o h1
  refine pret_intro fdg16 (by simp) ?_
  simp only [lcg16, VCA, simprocAttr, encL, MCA]
  unfold aftS
  cases b1 : decide (x.kind = 1) <;> simp only [VCA, simprocAttr, encL, MCA, b1]
  · rw [if_neg (of_decide_eq_false b1)]
    cases b3 : decide (x.kind = 3) <;> simp only [VCA, simprocAttr, encL, MCA, b3]
    · rw [if_neg (of_decide_eq_false b3)]
      cases b2 : decide (x.kind = 2) <;> simp only [VCA, simprocAttr, encL, MCA, b2, mp_setA, List.all_cons, List.all_nil, Bool.and_true, List.map_cons, List.map_nil]
      · rw [if_neg (of_decide_eq_false b2)]
        first | done | exact ⟨rfl, rfl⟩
      · rw [if_pos (of_decide_eq_true b2)]
        refine callX_of ((add18_ret l ⟨x.to.loc, []⟩ (by omega) (by unfold smallP; simp) hx).nz 6 (front0 _ _)) (.inl rfl) ?_
        simp only [VCA, simprocAttr, encL, MCA]
    · rw [if_pos (of_decide_eq_true b3)]
      refine callX_of (add18_ret l x.to (by omega) ht hx) (.inl rfl) ?_
      simp only [VCA, simprocAttr, encL, MCA]
  · rw [if_pos (of_decide_eq_true b1)]
    refine callX_of (opers_ret x.val) (.inl rfl) ?_
    simp only [VCA, simprocAttr, encL, MCA]
    generalize opersL x.val = os at *
    refine loop_vcg (ι := Nat × (Nat → Nat)) (fun y => stO [(0, .val (encL MPath.cells (movS l (os.take y.1)))), (3, .box x.cells), (5, .val (encL MOper.cells os)), (6, .val (.int .i64 y.1))] y.2)
      (fun y => y.1 ≤ os.length) (fun y => os.length - y.1) (0, _) (Nat.zero_le _) (ent_of _ [] rfl rfl (by simp only [VCA, simprocAttr, encL, MCA, List.take_zero, movS])) ?_
    rintro ⟨k, c⟩ hk
    have hk : k ≤ os.length := hk
    simp only [VCA, simprocAttr, encL, MCA]
    refine condD_of (fun h => ?_) (fun h => ?_)
    · have hk' : k < os.length := by omega
      have i1 : 0 ≤ (k : Int) ∧ (k : Int) < os.length := by omega
      have i2 : InI64 ((k : Int) + 1) := by unfold InI64; omega
      have e : os.take (k + 1) = os.take k ++ [os[k]] := by rw [List.take_add_one, List.getElem?_eq_getElem hk']; rfl
      have hlen := movS_len (os.take k) l
      have hsm : ∀ x ∈ movS l (os.take k), smallP x := by
        intro x h
        rcases movS_mem (os.take k) h with h | ⟨o, h1, _, rfl⟩
        · exact hx x h
        · exact ho o (List.mem_of_mem_take h1)
      rw [List.length_take] at hlen
      simp only [VCA, simprocAttr, encL, MCA, hk', i1]
      cases b1 : decide (os[k].kind = 4) <;> simp only [VCA, simprocAttr, encL, MCA, b1, hk', i1, i2]
      · refine backTo_of (k + 1, _) hk' (by simp only []; omega) (ent_of _ [] rfl rfl ?_)
        simp only [VCA, simprocAttr, encL, MCA, e, movS_app, movS, if_neg (of_decide_eq_false b1)]
      · refine callX_of (add18_ret _ _ (by omega) (ho _ (List.getElem_mem hk')) hsm) (.inl rfl) ?_
        simp only [VCA, simprocAttr, encL, MCA, i2]
        refine backTo_of (k + 1, _) hk' (by simp only []; omega) (ent_of _ [] rfl rfl ?_)
        simp only [VCA, simprocAttr, encL, MCA, e, movS_app, movS, if_pos (of_decide_eq_true b1)]
    · have hk' : k = os.length := by omega
      subst hk'
      simp only [VCA, simprocAttr, encL, MCA, List.take_length]
      cases b2 : x.has <;> simp only [VCA, simprocAttr, encL, MCA, b2]
      refine callX_of (put18_ret _ x.to (by omega) ht hmx) (.inl rfl) ?_
      simp only [VCA, simprocAttr, encL, MCA]
end Go.Proofs.YtlkdcgfjmhjjpaaGreat

set_option linter.unusedSimpArgs false
set_option linter.unusedVariables false
namespace Go.Lg
open Go Go.RowKit
/-- A list of paths as it lies: nil where there is none. -/
def encE (l : List MPath) : V := if l = [] then .e0 else encL MPath.cells l
theorem encE_nil : encE [] = .e0 := rfl
theorem encE_ne {l : List MPath} (h : l ≠ []) : encE l = encL MPath.cells l := if_neg h
theorem imv_encE (l : List MPath) (d : Nat) : imV d (encE l) = true := by
  unfold encE
  split
  · cases d <;> rfl
  · cases d <;> rfl
/-- What came of adding one behind the other. -/
def foldA (l : List MPath) (ps : List MPath) : List MPath := ps.foldl addS l
theorem foldA_app (l a b : List MPath) : foldA l (a ++ b) = foldA (foldA l a) b := List.foldl_append ..
theorem foldA_srt : ∀ (ps : List MPath) {l : List MPath}, Srt l → Srt (foldA l ps)
  | [], _, h => h
  | p :: ps, _, h => foldA_srt ps (srt_add h)
theorem foldA_len : ∀ (ps l : List MPath), (foldA l ps).length ≤ l.length + ps.length
  | [], l => Nat.le_refl _
  | p :: ps, l => by
    have h := foldA_len ps (addS l p)
    have := add_len l p
    simp only [foldA, List.foldl_cons, List.length_cons] at h ⊢; omega
theorem foldA_mem : ∀ (ps : List MPath) {l : List MPath} {x : MPath}, x ∈ foldA l ps → x ∈ l ∨ x ∈ ps
  | [], _, _, h => .inl h
  | p :: ps, l, x, h => by
    rcases foldA_mem ps h with h | h
    · rcases mem_add_or h with h | h
      · exact .inl h
      · rw [h]; exact .inr (List.mem_cons_self ..)
    · exact .inr (List.mem_cons_of_mem _ h)
theorem foldA_cov : ∀ (ps l : List MPath), Cov l (foldA l ps) ∧ Cov ps (foldA l ps)
  | [], l => ⟨Cov.rfl, fun x h => by cases h⟩
  | p :: ps, l => by
    obtain ⟨h1, h2⟩ := foldA_cov ps (addS l p)
    obtain ⟨h3, h4⟩ := cov_add l p
    refine ⟨h3.trans h1, fun x hx => ?_⟩
    rcases List.mem_cons.1 hx with rfl | hx
    · obtain ⟨y, hy, e⟩ := h4
      obtain ⟨z, hz, e2⟩ := h1 y hy
      exact ⟨z, hz, prefS_trans e2 e⟩
    · exact h2 x hx
end Go.Lg
namespace Go.Proofs.YtlkdcgfjmhjjpaaGreat
open Go Go.Lg Go.RowKit
set_option linter.unusedVariables false
set_option linter.unusedSimpArgs false
set_option maxRecDepth 20000

theorem nz_cells (p : MPath) : p.cells.map (nz 5) = p.cells := by
  have := mo_nz 3 [p]
  simpa using this
theorem argsE (l : List MPath) (p : MPath) : List.map (nz 6) [encE l, .agg p.cells] = [encL MPath.cells l, .agg p.cells] := by
  unfold encE
  split
  · rename_i e; subst e; simp only [List.map_cons, List.map_nil, nz, nz_cells]; rfl
  · simp only [List.map_cons, List.map_nil, nz, encL, mo_nz, nz_cells]
theorem snap_encE (H : Heap) (d : Nat) (l : List MPath) : snap H (d + 1) (encE l) = encE l := by
  unfold encE; split <;> rfl
theorem sok_encE (H : Heap) (d : Nat) (l : List MPath) : sok H (d + 1) (encE l) = true := by
  unfold encE; split <;> rfl
end Go.Proofs.YtlkdcgfjmhjjpaaGreat

set_option linter.unusedSimpArgs false
set_option linter.unusedVariables false
namespace Go.Lg
open Go Go.RowKit

/-- The least ones of a set: no other one is a part of them. -/
def Least (S : MPath → Prop) (x : MPath) : Prop := S x ∧ ∀ y, S y → prefS y x = true → y = x
structure Gone (l : List MPath) (S : MPath → Prop) : Prop where
  mem : ∀ x, x ∈ l ↔ Least S x
  cov : ∀ x, S x → ∃ y ∈ l, prefS y x = true
theorem Gone.nil : Gone [] fun _ => False := ⟨fun x => ⟨fun h => (by cases h), fun h => h.1.elim⟩, fun _ h => h.elim⟩
theorem Gone.add {l : List MPath} {S : MPath → Prop} (h : Gone l S) (p : MPath) : Gone (addS l p) fun x => S x ∨ x = p := by
  have hc : ∀ x, (S x ∨ x = p) → ∃ y ∈ addS l p, prefS y x = true := by
    obtain ⟨h1, h2⟩ := cov_add l p
    rintro x (hx | rfl)
    · obtain ⟨y, hy, e⟩ := h.cov x hx
      obtain ⟨z, hz, e2⟩ := h1 y hy
      exact ⟨z, hz, prefS_trans e2 e⟩
    · exact h2
  refine ⟨fun x => ?_, hc⟩
  rw [mem_add]
  cases ha : l.any fun y => prefS y p with
  | true =>
    obtain ⟨y, hy, e⟩ := List.any_eq_true.1 ha
    have hyS := ((h.mem y).1 hy).1
    simp only [true_and, Bool.true_eq_false, false_and, or_false, reduceCtorEq]
    rw [h.mem]
    constructor
    · rintro ⟨h1, h2⟩
      refine ⟨.inl h1, fun z hz hzx => ?_⟩
      rcases hz with hz | rfl
      · exact h2 z hz hzx
      · have := h2 y hyS (prefS_trans e hzx)
        subst this
        exact prefS_anti hzx e
    · rintro ⟨h1, h2⟩
      have hxS : S x := by
        rcases h1 with h1 | rfl
        · exact h1
        · have := h2 y (.inl hyS) e; exact this ▸ hyS
      exact ⟨hxS, fun z hz hzx => h2 z (.inl hz) hzx⟩
  | false =>
    have hno : ∀ s, S s → prefS s p = false := by
      intro s hs
      cases e : prefS s p with
      | false => rfl
      | true =>
        obtain ⟨y, hy, e2⟩ := h.cov s hs
        have := List.any_eq_false.1 ha y hy
        rw [prefS_trans e2 e] at this; exact absurd rfl this
    simp only [Bool.false_eq_true, false_and, true_and, false_or, reduceCtorEq]
    rw [h.mem]
    constructor
    · rintro (rfl | ⟨⟨h1, h2⟩, h3⟩)
      · refine ⟨.inr rfl, fun z hz hzx => ?_⟩
        rcases hz with hz | hz
        · rw [hno z hz] at hzx; cases hzx
        · exact hz
      · refine ⟨.inl h1, fun z hz hzx => ?_⟩
        rcases hz with hz | rfl
        · exact h2 z hz hzx
        · rw [h3] at hzx; cases hzx
    · rintro ⟨h1, h2⟩
      rcases h1 with h1 | h1
      · right
        refine ⟨⟨h1, fun z hz hzx => h2 z (.inl hz) hzx⟩, ?_⟩
        cases e : prefS p x with
        | false => rfl
        | true =>
          have := h2 p (.inr rfl) e
          subst this
          have := hno p h1
          rw [prefS_refl] at this; cases this
      · exact .inl h1
end Go.Lg

set_option linter.unusedSimpArgs false
set_option linter.unusedVariables false
namespace Go.Lg
open Go Go.RowKit

structure WS where
  seen : List Bool
  work : List Nat
  out : List (List MPath)
def WS.at (s : WS) (n : Nat) : List MPath := s.out.getD n []
/-- One way onward. -/
def pushS (b : List MPath) (s : WS) (n : Nat) : WS :=
  if (!(s.seen.getD n false) || !decide (foldA (s.at n) b = s.at n)) = true then
    ⟨s.seen, if s.work.contains n then s.work else s.work ++ [n], s.out.set n (foldA (s.at n) b)⟩ else s

/-! What is not covered yet. -/
def uncov (U l : List MPath) : Nat := U.countP fun u => !l.any fun y => prefS y u
def free (s : WS) (N : Nat) : Nat := (List.range N).countP fun n => !s.seen.getD n false && !s.work.contains n
def pot (U : List MPath) (N : Nat) (s : WS) : Nat := 2 * (s.out.map (uncov U)).sum + 2 * free s N + s.work.length

theorem add_same {l : List MPath} {p : MPath} (h : l.any (fun y => prefS y p) = true) : addS l p = l := if_pos h
theorem fold_cov {b l : List MPath} (h : ∀ p ∈ b, l.any (fun y => prefS y p) = true) : foldA l b = l := by
  induction b with
  | nil => rfl
  | cons p b ih =>
    show foldA (addS l p) b = l
    rw [add_same (h p (List.mem_cons_self ..))]
    exact ih fun q hq => h q (List.mem_cons_of_mem _ hq)
theorem uncov_le {U l m : List MPath} (h : Cov l m) : uncov U m ≤ uncov U l := by
  unfold uncov
  refine List.countP_mono_left fun u hu hm => ?_
  simp only [Bool.not_eq_true', List.any_eq_false] at hm ⊢
  intro y hy e
  obtain ⟨z, hz, e2⟩ := h y hy
  exact hm z hz (prefS_trans e2 e)
theorem countP_lt {α : Type} {p q : α → Bool} : ∀ {l : List α}, (∀ x ∈ l, p x = true → q x = true) → (∃ x ∈ l, p x = false ∧ q x = true) → l.countP p < l.countP q
  | [], _, h => by obtain ⟨x, hx, _⟩ := h; cases hx
  | x :: l, h1, h2 => by
    have hl : ∀ y ∈ l, p y = true → q y = true := fun y hy => h1 y (List.mem_cons_of_mem _ hy)
    obtain ⟨y, hy, e1, e2⟩ := h2
    rcases List.mem_cons.1 hy with rfl | hy
    · rw [List.countP_cons_of_neg (by rw [e1]; decide), List.countP_cons_of_pos e2]
      have := List.countP_mono_left hl
      omega
    · have ih := countP_lt hl ⟨y, hy, e1, e2⟩
      by_cases hp : p x = true
      · rw [List.countP_cons_of_pos hp, List.countP_cons_of_pos (h1 x (List.mem_cons_self ..) hp)]; omega
      · rw [List.countP_cons_of_neg hp]
        by_cases hq : q x = true
        · rw [List.countP_cons_of_pos hq]; omega
        · rw [List.countP_cons_of_neg hq]; omega
/-- A change covers more. -/
theorem uncov_lt {U l b : List MPath} (hb : ∀ p ∈ b, p ∈ U) (h : foldA l b ≠ l) : uncov U (foldA l b) < uncov U l := by
  have hex : ∃ p ∈ b, l.any (fun y => prefS y p) = false := by
    rcases Classical.em (∃ p ∈ b, l.any (fun y => prefS y p) = false) with h1 | h1
    · exact h1
    · refine absurd (fold_cov fun p hp => ?_) h
      cases e : l.any fun y => prefS y p with
      | true => rfl
      | false => exact absurd ⟨p, hp, e⟩ h1
  obtain ⟨p, hp, e⟩ := hex
  obtain ⟨h1, h2⟩ := foldA_cov b l
  refine countP_lt (fun u _ hm => ?_) ⟨p, hb p hp, ?_, ?_⟩
  · simp only [Bool.not_eq_true', List.any_eq_false] at hm ⊢
    intro y hy e
    obtain ⟨z, hz, e2⟩ := h1 y hy
    exact hm z hz (prefS_trans e2 e)
  · obtain ⟨z, hz, e2⟩ := h2 p hp
    rw [List.any_eq_true.2 ⟨z, hz, e2⟩]; rfl
  · rw [e]; rfl
theorem sum_set {l : List Nat} {n v : Nat} (h : n < l.length) : (l.set n v).sum + l[n] = l.sum + v := by
  induction l generalizing n with
  | nil => cases h
  | cons x l ih =>
    cases n with
    | zero => simp only [List.set_cons_zero, List.sum_cons, List.getElem_cons_zero]; omega
    | succ n =>
      have := ih (n := n) (by simpa using h)
      simp only [List.set_cons_succ, List.sum_cons, List.getElem_cons_succ]; omega

/-- The lists that a worklist holds are as many as there are points. -/
structure WS.ok (s : WS) (N : Nat) : Prop where
  seen : s.seen.length = N
  out : s.out.length = N
theorem push_ok {b : List MPath} {s : WS} {n N : Nat} (h : s.ok N) : (pushS b s n).ok N := by
  unfold pushS
  split
  · exact ⟨h.seen, by simpa using h.out⟩
  · exact h
theorem at_eq {s : WS} {N n : Nat} (h : s.ok N) (hn : n < N) : s.at n = s.out[n]'(by rw [h.out]; exact hn) := by
  unfold WS.at
  rw [List.getD_eq_getElem?_getD, List.getElem?_eq_getElem (by rw [h.out]; exact hn)]; rfl
theorem push_pot {U b : List MPath} {s : WS} {n N : Nat} (h : s.ok N) (hn : n < N) (hb : ∀ p ∈ b, p ∈ U) : pot U N (pushS b s n) ≤ pot U N s := by
  unfold pushS
  split
  · rename_i hc
    have hno : n < s.out.length := by rw [h.out]; exact hn
    have hsum : ((s.out.set n (foldA (s.at n) b)).map (uncov U)).sum + uncov U (s.at n) = (s.out.map (uncov U)).sum + uncov U (foldA (s.at n) b) := by
      rw [List.map_set]
      have := sum_set (l := s.out.map (uncov U)) (n := n) (v := uncov U (foldA (s.at n) b)) (by simpa using hno)
      rw [List.getElem_map, ← at_eq h hn] at this
      exact this
    have hle : uncov U (foldA (s.at n) b) ≤ uncov U (s.at n) := uncov_le (foldA_cov b (s.at n)).1
    unfold pot
    simp only []
    by_cases hw : s.work.contains n = true
    · simp only [hw, if_true]
      have : free ⟨s.seen, s.work, s.out.set n (foldA (s.at n) b)⟩ N = free s N := rfl
      rw [this]; omega
    · simp only [hw, Bool.false_eq_true, if_false]
      rw [List.length_append]
      simp only [List.length_cons, List.length_nil]
      have hfr : free ⟨s.seen, s.work ++ [n], s.out.set n (foldA (s.at n) b)⟩ N ≤ free s N := by
        unfold free
        refine List.countP_mono_left fun m _ hm => ?_
        simp only [Bool.and_eq_true, Bool.not_eq_true', List.contains_eq_mem, List.mem_append, decide_eq_false_iff_not, not_or] at hm ⊢
        exact ⟨hm.1, hm.2.1⟩
      by_cases hs : s.seen.getD n false = true
      · have hne : foldA (s.at n) b ≠ s.at n := by
          rw [hs] at hc
          simpa using hc
        have := uncov_lt hb hne
        omega
      · have hlt : free ⟨s.seen, s.work ++ [n], s.out.set n (foldA (s.at n) b)⟩ N < free s N := by
          unfold free
          refine countP_lt (fun m _ hm => ?_) ⟨n, List.mem_range.2 hn, ?_, ?_⟩
          · simp only [Bool.and_eq_true, Bool.not_eq_true', List.contains_eq_mem, List.mem_append, decide_eq_false_iff_not, not_or] at hm ⊢
            exact ⟨hm.1, hm.2.1⟩
          · simp
          · simp only [Bool.not_eq_true] at hs hw
            rw [hs, hw]; rfl
        omega
  · exact Nat.le_refl _
theorem push_all_pot {U b : List MPath} {N : Nat} (hb : ∀ p ∈ b, p ∈ U) : ∀ (ns : List Nat) {s : WS}, s.ok N → (∀ n ∈ ns, n < N) → pot U N (ns.foldl (pushS b) s) ≤ pot U N s ∧ (ns.foldl (pushS b) s).ok N
  | [], _, h, _ => ⟨Nat.le_refl _, h⟩
  | n :: ns, s, h, hn => by
    have ih := push_all_pot hb ns (push_ok (b := b) (n := n) h) fun m hm => hn m (List.mem_cons_of_mem _ hm)
    exact ⟨Nat.le_trans ih.1 (push_pot h (hn n (List.mem_cons_self ..)) hb), ih.2⟩
theorem pop_pot {U : List MPath} {N i : Nat} {w : List Nat} {s : WS} (h : s.ok N) (hw : s.work = i :: w) (hi : i < N) : pot U N ⟨s.seen.set i true, w, s.out⟩ < pot U N s := by
  have hfr : free ⟨s.seen.set i true, w, s.out⟩ N ≤ free s N := by
    unfold free
    refine List.countP_mono_left fun m hm hf => ?_
    have hm := List.mem_range.1 hm
    simp only [Bool.and_eq_true, Bool.not_eq_true', List.contains_eq_mem, decide_eq_false_iff_not] at hf ⊢
    have hne : i ≠ m := by
      rintro rfl
      have := hf.1
      rw [List.getD_eq_getElem?_getD, List.getElem?_set_self (by rw [h.seen]; exact hi)] at this
      cases this
    refine ⟨?_, ?_⟩
    · have := hf.1
      rwa [List.getD_eq_getElem?_getD, List.getElem?_set_ne hne, ← List.getD_eq_getElem?_getD] at this
    · rw [hw, List.mem_cons, not_or]
      exact ⟨Ne.symm hne, hf.2⟩
  unfold pot
  simp only [hw, List.length_cons]
  omega

/-! The worklist goes on until it is empty. 'af': what is gone behind a point; 'nx': its nexts. -/
section
variable (af : Nat → List MPath → List MPath) (nx : Nat → List Nat)
def stepS (s : WS) : WS := match s.work with
  | [] => s
  | i :: w => (nx i).foldl (pushS (af i (s.at i))) ⟨s.seen.set i true, w, s.out⟩
def runS : Nat → WS → WS
  | 0, s => s
  | f + 1, s => if s.work = [] then s else runS f (stepS af nx s)
/-- What holds of a worklist all along. -/
structure WOk (U : List MPath) (N : Nat) (s : WS) : Prop where
  ok : s.ok N
  work : ∀ i ∈ s.work, i < N
  mem : ∀ l ∈ s.out, ∀ p ∈ l, p ∈ U
  srt : ∀ l ∈ s.out, Srt l
variable {af nx} {U : List MPath} {N : Nat}
theorem WOk.at_mem {s : WS} (h : WOk U N s) (n : Nat) : (∀ p ∈ s.at n, p ∈ U) ∧ Srt (s.at n) := by
  unfold WS.at
  rw [List.getD_eq_getElem?_getD]
  cases e : s.out[n]? with
  | none => exact ⟨fun p hp => (by cases hp), List.Pairwise.nil⟩
  | some l => exact ⟨h.mem l (List.mem_of_getElem? e), h.srt l (List.mem_of_getElem? e)⟩
theorem WOk.push {s : WS} (h : WOk U N s) {b : List MPath} (hb : ∀ p ∈ b, p ∈ U) {n : Nat} (hn : n < N) : WOk U N (pushS b s n) := by
  refine ⟨push_ok h.ok, ?_, ?_, ?_⟩
  · unfold pushS
    split
    · intro i hi
      simp only at hi
      split at hi
      · exact h.work i hi
      · rcases List.mem_append.1 hi with hi | hi
        · exact h.work i hi
        · rw [List.mem_singleton.1 hi]; exact hn
    · exact h.work
  · unfold pushS
    split
    · intro l hl p hp
      rcases List.mem_or_eq_of_mem_set hl with hl | rfl
      · exact h.mem l hl p hp
      · rcases foldA_mem _ hp with hp | hp
        · exact (h.at_mem n).1 p hp
        · exact hb p hp
    · exact h.mem
  · unfold pushS
    split
    · intro l hl
      rcases List.mem_or_eq_of_mem_set hl with hl | rfl
      · exact h.srt l hl
      · exact foldA_srt _ (h.at_mem n).2
    · exact h.srt
theorem WOk.pushes {b : List MPath} (hb : ∀ p ∈ b, p ∈ U) : ∀ (ns : List Nat) {s : WS}, WOk U N s → (∀ n ∈ ns, n < N) → WOk U N (ns.foldl (pushS b) s)
  | [], _, h, _ => h
  | n :: ns, _, h, hn => WOk.pushes hb ns (h.push hb (hn n (List.mem_cons_self ..))) fun m hm => hn m (List.mem_cons_of_mem _ hm)
theorem WOk.pop {s : WS} (h : WOk U N s) {i : Nat} {w : List Nat} (hw : s.work = i :: w) : WOk U N ⟨s.seen.set i true, w, s.out⟩ :=
  ⟨⟨by simpa using h.ok.seen, h.ok.out⟩, fun j hj => h.work j (by rw [hw]; exact List.mem_cons_of_mem _ hj), h.mem, h.srt⟩
theorem step_pot (haf : ∀ i l, (∀ p ∈ l, p ∈ U) → ∀ p ∈ af i l, p ∈ U) (hnx : ∀ i < N, ∀ n ∈ nx i, n < N) {s : WS} (h : WOk U N s) (hne : s.work ≠ []) : WOk U N (stepS af nx s) ∧ pot U N (stepS af nx s) < pot U N s := by
  unfold stepS
  cases hw : s.work with
  | nil => exact absurd hw hne
  | cons i w =>
    simp only []
    have hi : i < N := h.work i (by rw [hw]; exact List.mem_cons_self ..)
    have hb := haf i (s.at i) (h.at_mem i).1
    have h1 := h.pop hw
    refine ⟨WOk.pushes hb _ h1 (hnx i hi), Nat.lt_of_le_of_lt (push_all_pot hb _ h1.ok (hnx i hi)).1 (pop_pot h.ok hw hi)⟩
theorem run_end (haf : ∀ i l, (∀ p ∈ l, p ∈ U) → ∀ p ∈ af i l, p ∈ U) (hnx : ∀ i < N, ∀ n ∈ nx i, n < N) : ∀ (f : Nat) {s : WS}, WOk U N s → pot U N s < f → (runS af nx f s).work = [] ∧ WOk U N (runS af nx f s)
  | 0, _, _, h => absurd h (Nat.not_lt_zero _)
  | f + 1, s, hs, h => by
    rw [runS]
    split
    · rename_i e; exact ⟨e, hs⟩
    · rename_i e
      obtain ⟨h1, h2⟩ := step_pot haf hnx hs e
      exact run_end haf hnx f h1 (by omega)
end
end Go.Lg

set_option linter.unusedSimpArgs false
set_option linter.unusedVariables false
namespace Go.Lg
open Go Go.RowKit
section
variable {af : Nat → List MPath → List MPath} {nx : Nat → List Nat} {N : Nat}

theorem push_at {b : List MPath} {s : WS} {n : Nat} (h : s.ok N) (hn : n < N) (m : Nat) : (pushS b s n).at m = if m = n ∧ (!(s.seen.getD n false) || !decide (foldA (s.at n) b = s.at n)) = true then foldA (s.at n) b else s.at m := by
  unfold pushS
  by_cases hc : (!(s.seen.getD n false) || !decide (foldA (s.at n) b = s.at n)) = true
  · rw [if_pos hc]
    unfold WS.at
    simp only []
    by_cases e : m = n
    · subst e
      rw [if_pos ⟨rfl, hc⟩, List.getD_eq_getElem?_getD, List.getElem?_set_self (by rw [h.out]; exact hn)]; rfl
    · rw [if_neg (fun h => e h.1), List.getD_eq_getElem?_getD, List.getElem?_set_ne (Ne.symm e), ← List.getD_eq_getElem?_getD]
  · rw [if_neg hc, if_neg (fun h => hc h.2)]
theorem push_grow {b : List MPath} {s : WS} {n : Nat} (h : s.ok N) (hn : n < N) (m : Nat) : Cov (s.at m) ((pushS b s n).at m) := by
  rw [push_at h hn]
  split
  · rename_i e; rw [e.1]; exact (foldA_cov b _).1
  · exact Cov.rfl
theorem push_work {b : List MPath} {s : WS} {n : Nat} {m : Nat} (h : m ∈ s.work) : m ∈ (pushS b s n).work := by
  unfold pushS
  split
  · simp only []; split
    · exact h
    · exact List.mem_append_left _ h
  · exact h
theorem push_seen (b : List MPath) (s : WS) (n : Nat) : (pushS b s n).seen = s.seen := by unfold pushS; split <;> rfl
/-- What is not queued did not change. -/
theorem push_still {b : List MPath} {s : WS} {n m : Nat} (h : s.ok N) (hn : n < N) (hm : m ∉ (pushS b s n).work) : (pushS b s n).at m = s.at m := by
  rw [push_at h hn]
  split
  · rename_i e
    exfalso
    apply hm
    unfold pushS
    rw [if_pos e.2, e.1]
    simp only []
    split
    · rename_i h1; simpa using h1
    · exact List.mem_append_right _ (List.mem_singleton.2 rfl)
  · rfl
/-- The one that was pushed to has all. -/
theorem push_has {b : List MPath} {s : WS} {n : Nat} (h : s.ok N) (hn : n < N) : Cov b ((pushS b s n).at n) ∧ (s.seen.getD n false = true ∨ n ∈ (pushS b s n).work) := by
  by_cases hc : (!(s.seen.getD n false) || !decide (foldA (s.at n) b = s.at n)) = true
  · refine ⟨?_, .inr ?_⟩
    · rw [push_at h hn, if_pos ⟨rfl, hc⟩]; exact (foldA_cov b _).2
    · unfold pushS
      rw [if_pos hc]
      simp only []
      split
      · rename_i h1; simpa using h1
      · exact List.mem_append_right _ (List.mem_singleton.2 rfl)
  · simp only [Bool.not_eq_true, Bool.or_eq_false_iff, Bool.not_eq_false', decide_eq_true_eq] at hc
    refine ⟨?_, .inl hc.1⟩
    rw [push_at h hn, if_neg (by rintro ⟨_, h⟩; rw [hc.1, decide_eq_true hc.2] at h; cases h), ← hc.2]
    exact (foldA_cov b _).2

/-- Each point that was come to, but one, and that waits not: its nexts hold what is gone behind it. -/
def ClsX (af : Nat → List MPath → List MPath) (nx : Nat → List Nat) (s : WS) (x : Nat → Prop) : Prop := ∀ i, ¬ x i → s.seen.getD i false = true → i ∉ s.work → ∀ n ∈ nx i, Cov (af i (s.at i)) (s.at n) ∧ (s.seen.getD n false = true ∨ n ∈ s.work)
theorem ClsX.push {s : WS} {x : Nat → Prop} (h : ClsX af nx s x) (hok : s.ok N) {b : List MPath} {n : Nat} (hn : n < N) : ClsX af nx (pushS b s n) x := by
  intro i hx hs hw m hm
  rw [push_seen] at hs
  have hw' : i ∉ s.work := fun hh => hw (push_work hh)
  obtain ⟨h1, h2⟩ := h i hx hs hw' m hm
  rw [push_still hok hn hw, push_seen]
  exact ⟨h1.trans (push_grow hok hn m), h2.imp id push_work⟩
theorem push_fold {b l0 : List MPath} {i0 : Nat} {x : Nat → Prop} : ∀ (ns done : List Nat) {s : WS}, s.ok N → (∀ n ∈ ns, n < N) → ClsX af nx s x →
    (i0 ∉ s.work → s.at i0 = l0 ∧ ∀ n ∈ done, Cov b (s.at n) ∧ (s.seen.getD n false = true ∨ n ∈ s.work)) →
    ClsX af nx (ns.foldl (pushS b) s) x ∧ (i0 ∉ (ns.foldl (pushS b) s).work → (ns.foldl (pushS b) s).at i0 = l0 ∧ ∀ n ∈ done ++ ns, Cov b ((ns.foldl (pushS b) s).at n) ∧ ((ns.foldl (pushS b) s).seen.getD n false = true ∨ n ∈ (ns.foldl (pushS b) s).work)) ∧
    (ns.foldl (pushS b) s).seen = s.seen
  | [], done, s, _, _, h1, h2 => ⟨h1, by simpa using h2, rfl⟩
  | n :: ns, done, s, hok, hn, h1, h2 => by
    have hn0 := hn n (List.mem_cons_self ..)
    have ih := push_fold ns (done ++ [n]) (s := pushS b s n) (push_ok hok) (fun m hm => hn m (List.mem_cons_of_mem _ hm)) (h1.push hok hn0) (fun hw => by
      have hw' : i0 ∉ s.work := fun hh => hw (push_work hh)
      obtain ⟨g1, g2⟩ := h2 hw'
      refine ⟨by rw [push_still hok hn0 hw, g1], fun m hm => ?_⟩
      rw [push_seen]
      rcases List.mem_append.1 hm with hm | hm
      · obtain ⟨c1, c2⟩ := g2 m hm
        exact ⟨c1.trans (push_grow hok hn0 m), c2.imp id push_work⟩
      · rw [List.mem_singleton.1 hm]
        exact push_has hok hn0)
    refine ⟨ih.1, ?_, by rw [List.foldl_cons, ih.2.2, push_seen]⟩
    have := ih.2.1
    rwa [List.append_assoc] at this
theorem step_cls {s : WS} (hok : s.ok N) (hnx : ∀ i < N, ∀ n ∈ nx i, n < N) (hwk : ∀ i ∈ s.work, i < N) (h : ClsX af nx s fun _ => False) : ClsX af nx (stepS af nx s) fun _ => False := by
  unfold stepS
  cases hw : s.work with
  | nil => simpa using h
  | cons i w =>
    simp only []
    have hi : i < N := hwk i (by rw [hw]; exact List.mem_cons_self ..)
    have h1 : ClsX af nx ⟨s.seen.set i true, w, s.out⟩ fun k => k = i := by
      intro k hk hs hkw n hn
      have hs' : s.seen.getD k false = true := by
        rwa [List.getD_eq_getElem?_getD, List.getElem?_set_ne (Ne.symm hk), ← List.getD_eq_getElem?_getD] at hs
      have hkw' : k ∉ s.work := by rw [hw, List.mem_cons, not_or]; exact ⟨hk, hkw⟩
      obtain ⟨g1, g2⟩ := h k (fun h => h) hs' hkw' n hn
      refine ⟨g1, ?_⟩
      by_cases e : i = n
      · subst e
        left
        rw [List.getD_eq_getElem?_getD, List.getElem?_set_self (by rw [hok.seen]; exact hi)]; rfl
      · rcases g2 with g2 | g2
        · left
          rw [List.getD_eq_getElem?_getD, List.getElem?_set_ne e, ← List.getD_eq_getElem?_getD]; exact g2
        · rw [hw, List.mem_cons] at g2
          exact .inr (g2.resolve_left (Ne.symm e))
    have hok1 : (WS.mk (s.seen.set i true) w s.out).ok N := ⟨by simpa using hok.seen, hok.out⟩
    obtain ⟨r1, r2, r3⟩ := push_fold (b := af i (s.at i)) (l0 := s.at i) (i0 := i) (nx i) [] hok1 (hnx i hi) h1 (fun _ => ⟨rfl, fun n hn => by cases hn⟩)
    intro k _ hs hkw n hn
    by_cases e : k = i
    · subst e
      obtain ⟨g1, g2⟩ := r2 hkw
      rw [g1]
      exact g2 n (by simpa using hn)
    · exact r1 k e hs hkw n hn

theorem fold_grow {b : List MPath} : ∀ (ns : List Nat) {s : WS}, s.ok N → (∀ n ∈ ns, n < N) → ∀ m, Cov (s.at m) ((ns.foldl (pushS b) s).at m) ∧ (m ∈ s.work → m ∈ (ns.foldl (pushS b) s).work)
  | [], _, _, _, m => ⟨Cov.rfl, id⟩
  | n :: ns, s, h, hn, m => by
    have ih := fold_grow (b := b) ns (push_ok (b := b) (n := n) h) (fun k hk => hn k (List.mem_cons_of_mem _ hk)) m
    exact ⟨(push_grow h (hn n (List.mem_cons_self ..)) m).trans ih.1, fun hm => ih.2 (push_work hm)⟩
/-- The first point, and what was known of a point, stay. -/
theorem step_keep {s : WS} (hok : s.ok N) (hnx : ∀ i < N, ∀ n ∈ nx i, n < N) (hwk : ∀ i ∈ s.work, i < N) (m : Nat) (hm : m < N) :
    Cov (s.at m) ((stepS af nx s).at m) ∧ ((s.seen.getD m false = true ∨ m ∈ s.work) → (stepS af nx s).seen.getD m false = true ∨ m ∈ (stepS af nx s).work) := by
  unfold stepS
  cases hw : s.work with
  | nil => simp only [hw]; exact ⟨Cov.rfl, id⟩
  | cons i w =>
    simp only []
    have hi : i < N := hwk i (by rw [hw]; exact List.mem_cons_self ..)
    have hok1 : (WS.mk (s.seen.set i true) w s.out).ok N := ⟨by simpa using hok.seen, hok.out⟩
    have g := fold_grow (b := af i (s.at i)) (nx i) hok1 (hnx i hi) m
    have hsn : ∀ (ns : List Nat) (t : WS), (ns.foldl (pushS (af i (s.at i))) t).seen = t.seen := by
      intro ns
      induction ns with
      | nil => intro t; rfl
      | cons n ns ih => intro t; rw [List.foldl_cons, ih, push_seen]
    refine ⟨g.1, fun h => ?_⟩
    rw [hsn]
    by_cases e : i = m
    · subst e
      left
      show (s.seen.set i true).getD i false = true
      rw [List.getD_eq_getElem?_getD, List.getElem?_set_self (by rw [hok.seen]; exact hi)]; rfl
    · rcases h with h | h
      · left
        show (s.seen.set i true).getD m false = true
        rw [List.getD_eq_getElem?_getD, List.getElem?_set_ne e, ← List.getD_eq_getElem?_getD]; exact h
      · right
        rcases List.mem_cons.1 h with h | h
        · exact absurd h.symm e
        · exact g.2 h

theorem run_cls {U : List MPath} (haf : ∀ i l, (∀ p ∈ l, p ∈ U) → ∀ p ∈ af i l, p ∈ U) (hnx : ∀ i < N, ∀ n ∈ nx i, n < N) (h0 : 0 < N) : ∀ (f : Nat) {s : WS}, WOk U N s → ClsX af nx s (fun _ => False) → (s.seen.getD 0 false = true ∨ 0 ∈ s.work) →
    ClsX af nx (runS af nx f s) (fun _ => False) ∧ ((runS af nx f s).seen.getD 0 false = true ∨ 0 ∈ (runS af nx f s).work) ∧ Cov (s.at 0) ((runS af nx f s).at 0)
  | 0, s, _, h1, h2 => ⟨h1, h2, Cov.rfl⟩
  | f + 1, s, hs, h1, h2 => by
    rw [runS]
    split
    · exact ⟨h1, h2, Cov.rfl⟩
    · rename_i hne
      have hk := step_keep (af := af) hs.ok hnx hs.work 0 h0
      have ih := run_cls haf hnx h0 f (step_pot haf hnx hs hne).1 (step_cls hs.ok hnx hs.work h1) (hk.2 h2)
      exact ⟨ih.1, ih.2.1, hk.1.trans ih.2.2⟩
/-- What is gone along each way is within what the worklist leaves. -/
theorem run_ways {U : List MPath} (haf : ∀ i l, (∀ p ∈ l, p ∈ U) → ∀ p ∈ af i l, p ∈ U) (hnx : ∀ i < N, ∀ n ∈ nx i, n < N) (h0 : 0 < N) {f : Nat} {s : WS} (hs : WOk U N s) (hcl : ClsX af nx s fun _ => False) (hz : s.seen.getD 0 false = true ∨ 0 ∈ s.work) (hf : pot U N s < f) :
    (runS af nx f s).seen.getD 0 false = true ∧ Cov (s.at 0) ((runS af nx f s).at 0) ∧
    ∀ i < N, (runS af nx f s).seen.getD i false = true → ∀ n ∈ nx i, (runS af nx f s).seen.getD n false = true ∧ Cov (af i ((runS af nx f s).at i)) ((runS af nx f s).at n) := by
  obtain ⟨e1, e2⟩ := run_end haf hnx f hs hf
  obtain ⟨c1, c2, c3⟩ := run_cls haf hnx h0 f hs hcl hz
  have hno : ∀ i, i ∉ (runS af nx f s).work := by rw [e1]; exact fun i => List.not_mem_nil
  refine ⟨c2.resolve_right (hno 0), c3, fun i _ hi n hn => ?_⟩
  obtain ⟨g1, g2⟩ := c1 i (fun h => h) hi (hno i) n hn
  exact ⟨g2.resolve_right (hno n), g1⟩
end
end Go.Lg

set_option linter.unusedSimpArgs false
set_option linter.unusedVariables false
namespace Go.Proofs.YtlkdcgfjmhjjpaaGreat
open Go Go.Lg Go.RowKit
set_option linter.unusedVariables false

theorem mov_mono : ∀ (os : List MOper) {l L : List MPath}, Cov l L → Cov (movS l os) (movS L os)
  | [], _, _, h => h
  | o :: r, l, L, h => by
    rw [movS, movS]
    refine mov_mono r ?_
    split
    · exact add_mono h
    · exact h
theorem aft_mono {l L : List MPath} (x : MInst) (h : Cov l L) : Cov (aftS l x) (aftS L x) := by
  unfold aftS
  split
  · split
    · exact put_mono (mov_mono _ h)
    · exact mov_mono _ h
  · split
    · exact add_mono h
    · split
      · exact add_mono h
      · exact h
/-- The paths that a point may take away. -/
def takes1 (x : MInst) : List MPath := x.to :: ⟨x.to.loc, []⟩ :: (opersL x.val).map (·.path)
theorem aft_mem {l : List MPath} {x : MInst} {p : MPath} (h : p ∈ aftS l x) : p ∈ l ∨ p ∈ takes1 x := by
  unfold aftS at h
  have hm : ∀ q, q ∈ movS l (opersL x.val) → q ∈ l ∨ q ∈ takes1 x := by
    intro q hq
    rcases movS_mem _ hq with hq | ⟨o, h1, _, rfl⟩
    · exact .inl hq
    · exact .inr (List.mem_cons_of_mem _ (List.mem_cons_of_mem _ (List.mem_map.2 ⟨o, h1, rfl⟩)))
  split at h
  · split at h
    · exact hm p (put_sub h)
    · exact hm p h
  · split at h
    · rcases mem_add_or h with h | h
      · exact .inl h
      · rw [h]; exact .inr (List.mem_cons_self ..)
    · split at h
      · rcases mem_add_or h with h | h
        · exact .inl h
        · rw [h]; exact .inr (List.mem_cons_of_mem _ (List.mem_cons_self ..))
      · exact .inl h
theorem aft_srt {l : List MPath} (x : MInst) (h : Srt l) : Srt (aftS l x) := by
  unfold aftS
  split
  · split
    · exact srt_put (movS_srt _ h)
    · exact movS_srt _ h
  · split
    · exact srt_add h
    · split
      · exact srt_add h
      · exact h
end Go.Proofs.YtlkdcgfjmhjjpaaGreat

set_option linter.unusedSimpArgs false
set_option linter.unusedVariables false
namespace Go.Lg

/-- A way of so many steps. -/
def pth (g : Nat → List Nat) : Nat → Nat → Nat → Prop
  | 0, s, t => s = t
  | d + 1, s, t => ∃ u, pth g d s u ∧ t ∈ g u

/-- The least number with a property, or -1. -/
def isLst (P : Nat → Prop) (v : Int) : Prop := (∃ d : Nat, P d ∧ (∀ e, P e → d ≤ e) ∧ v = d) ∨ ((∀ d, ¬ P d) ∧ v = -1)

theorem isLst_exists (P : Nat → Prop) : ∃ v, isLst P v := by
  by_cases h : ∃ d, P d
  · obtain ⟨d, hd⟩ := h
    have key : ∀ n, ∀ d, d ≤ n → P d → ∃ d : Nat, P d ∧ ∀ e, P e → d ≤ e := by
      intro n
      induction n with
      | zero =>
        intro d hd hp
        exact ⟨d, hp, fun e _ => by omega⟩
      | succ n ih =>
        intro d hd hp
        by_cases h2 : ∃ e, P e ∧ e < d
        · obtain ⟨e, he, hlt⟩ := h2
          exact ih e (by omega) he
        · exact ⟨d, hp, fun e he => by
            rcases Nat.lt_or_ge e d with h | h
            · exact absurd ⟨e, he, h⟩ h2
            · exact h⟩
    obtain ⟨d, h1, h2⟩ := key d d (Nat.le_refl _) hd
    exact ⟨d, .inl ⟨d, h1, h2, rfl⟩⟩
  · exact ⟨-1, .inr ⟨fun d hd => h ⟨d, hd⟩, rfl⟩⟩

theorem isLst_unique {P : Nat → Prop} {v w : Int} (h : isLst P v) (k : isLst P w) : v = w := by
  rcases h with ⟨d, h1, h2, rfl⟩ | ⟨h1, rfl⟩ <;> rcases k with ⟨e, k1, k2, rfl⟩ | ⟨k1, rfl⟩
  · have := h2 e k1
    have := k2 d h1
    omega
  · exact absurd h1 (k1 d)
  · exact absurd k1 (h1 e)
  · rfl

noncomputable def least (P : Nat → Prop) : Int := Classical.choose (isLst_exists P)
theorem least_isLst (P : Nat → Prop) : isLst P (least P) := Classical.choose_spec (isLst_exists P)
theorem least_eq {P : Nat → Prop} {v : Int} (h : isLst P v) : least P = v := isLst_unique (least_isLst P) h
section
variable (g : Nat → List Nat)
noncomputable def dist0 (s t : Nat) : Int := least fun d => pth g d s t
noncomputable def dist1 (s t : Nat) : Int := least fun d => 1 ≤ d ∧ pth g d s t
end

section
variable {g : Nat → List Nat}

theorem dist1_spec (s t : Nat) : isLst (fun d => 1 ≤ d ∧ pth g d s t) (dist1 g s t) := least_isLst _
/-- What is come to by one step more. -/
theorem dist1_step {s t : Nat} {n : Nat} (hn : 1 ≤ n) : dist1 g s t = n ↔ (∃ u, (if n = 1 then u = s else dist1 g s u = ((n - 1 : Nat) : Int)) ∧ t ∈ g u) ∧ ¬ (1 ≤ dist1 g s t ∧ dist1 g s t < n) := by
  constructor
  · intro h
    refine ⟨?_, by omega⟩
    rcases dist1_spec (g := g) s t with ⟨d, ⟨h1, h2⟩, h3, h4⟩ | ⟨_, h4⟩
    · obtain rfl : d = n := by omega
      obtain ⟨d, rfl⟩ : ∃ e, d = e + 1 := ⟨d - 1, by omega⟩
      obtain ⟨u, hu, ht⟩ := h2
      refine ⟨u, ?_, ht⟩
      by_cases hd : d = 0
      · subst hd
        rw [if_pos rfl]; exact (show s = u from hu).symm
      · rw [if_neg (by omega), Nat.add_sub_cancel]
        refine isLst_unique (dist1_spec s u) (.inl ⟨d, ⟨by omega, hu⟩, fun e he => ?_, rfl⟩)
        have := h3 (e + 1) ⟨by omega, u, he.2, ht⟩
        omega
    · omega
  · rintro ⟨⟨u, hu, ht⟩, hlt⟩
    have hp : pth g n s t := by
      obtain ⟨d, rfl⟩ : ∃ e, n = e + 1 := ⟨n - 1, by omega⟩
      refine ⟨u, ?_, ht⟩
      by_cases hd : d = 0
      · subst hd
        rw [if_pos rfl] at hu; subst hu; rfl
      · rw [if_neg (by omega), Nat.add_sub_cancel] at hu
        rcases dist1_spec (g := g) s u with ⟨e, ⟨_, h2⟩, _, h4⟩ | ⟨_, h4⟩
        · obtain rfl : e = d := by omega
          exact h2
        · omega
    rcases dist1_spec (g := g) s t with ⟨e, ⟨h1, h2⟩, h3, h4⟩ | ⟨h3, h4⟩
    · have := h3 n ⟨hn, hp⟩
      omega
    · exact absurd ⟨hn, hp⟩ (h3 n)

theorem dist1_pos {s t : Nat} : 1 ≤ dist1 g s t ∨ dist1 g s t = -1 := by
  rcases dist1_spec (g := g) s t with ⟨d, ⟨h1, _⟩, _, h4⟩ | ⟨_, h4⟩
  · left; omega
  · exact .inr h4

/-- By levels: where no level is reached, none behind is. -/
theorem dist1_gap {s : Nat} {n : Nat} (hn : 1 ≤ n) (h : ∀ t, dist1 g s t ≠ n) : ∀ (k : Nat) (t : Nat), dist1 g s t ≠ (n + k : Nat) := by
  intro k
  induction k with
  | zero => exact h
  | succ k ih =>
    intro t ht
    have := (dist1_step (g := g) (s := s) (t := t) (n := n + (k + 1)) (by omega)).1 ht
    obtain ⟨⟨u, hu, _⟩, _⟩ := this
    rw [if_neg (by omega)] at hu
    exact ih u (by rw [hu]; congr 1)

theorem dist0_of_dist1 {s t : Nat} (h : t ≠ s) : dist0 g s t = dist1 g s t := by
  refine least_eq ?_
  rcases dist1_spec (g := g) s t with ⟨d, ⟨h1, h2⟩, h3, h4⟩ | ⟨h3, h4⟩
  · refine .inl ⟨d, h2, fun e he => ?_, h4⟩
    cases e with
    | zero => exact absurd (show s = t from he).symm h
    | succ e => exact h3 _ ⟨by omega, he⟩
  · refine .inr ⟨fun d hd => ?_, h4⟩
    cases d with
    | zero => exact absurd (show s = t from hd).symm h
    | succ d => exact h3 _ ⟨by omega, hd⟩
theorem dist0_self (s : Nat) : dist0 g s s = 0 := least_eq (.inl ⟨0, rfl, fun _ _ => Nat.zero_le _, rfl⟩)

end

/-- The points behind a point. -/
def nx (m : Mir) (i : Nat) : List Nat := match m.code[i]? with
  | some x => x.next.map Int.toNat
  | none => []

end Go.Lg

set_option linter.unusedSimpArgs false
set_option linter.unusedVariables false
namespace Go.Lg
open Go Go.RowKit Go.Proofs.YtlkdcgfjmhjjpaaGreat

/-! Lists of lists, as they lie. -/
def cE (l : List MPath) : List V := [encE l]
theorem cE_len (l : List MPath) : (cE l).length = 1 := rfl
theorem lE_len (l : List (List MPath)) : (l.flatMap cE).length = l.length := by rw [flat_len cE_len, Nat.mul_one]
theorem lE_snap (H : Heap) (d : Nat) (l : List (List MPath)) : (l.flatMap cE).map (snap H (d + 1)) = l.flatMap cE := by
  induction l with
  | nil => rfl
  | cons x r ih => rw [List.flatMap_cons, List.map_append, ih]; unfold cE; rw [List.map_cons, List.map_nil, snap_encE]
theorem lE_sok (H : Heap) (d : Nat) (l : List (List MPath)) : (l.flatMap cE).all (sok H (d + 1)) = true := by
  induction l with
  | nil => rfl
  | cons x r ih => rw [List.flatMap_cons, List.all_append, ih]; unfold cE; rw [List.all_cons, List.all_nil, sok_encE]; rfl
theorem lE_imv (d : Nat) (l : List (List MPath)) : (l.flatMap cE).all (imV d) = true := by
  induction l with
  | nil => rfl
  | cons x r ih => rw [List.flatMap_cons, List.all_append, ih]; unfold cE; rw [List.all_cons, List.all_nil, imv_encE]; rfl
theorem one_encE (l : List MPath) : V.one (encE l) = true := by unfold encE; split <;> rfl
theorem cells_encE (l : List MPath) : (encE l).cells = [encE l] := by unfold encE; split <;> rfl
theorem lE_take {l : List (List MPath)} {n : Nat} (h : l.length ≤ n) : (l.flatMap cE).take n = l.flatMap cE := List.take_of_length_le (by rw [lE_len]; exact h)
theorem lE_set {l : List (List MPath)} {k : Nat} {v : List MPath} (h : k < l.length) : setCells (l.flatMap cE) k [encE v] = (l.set k v).flatMap cE := by
  induction l generalizing k with
  | nil => cases h
  | cons x r ih =>
    cases k with
    | zero => simp [setCells, cE]
    | succ k =>
      have := ih (k := k) (by simpa using h)
      simp only [setCells, List.flatMap_cons, List.set_cons_succ, cE, List.cons_append, List.nil_append, List.length_singleton, List.take_succ_cons] at this ⊢
      rw [show k + 1 + 1 = (k + 1) + 1 from rfl, List.drop_succ_cons, this]
theorem lE_mk (n : Nat) : (List.replicate n [V.e0]).flatten = (List.replicate n ([] : List MPath)).flatMap cE := by rw [List.flatMap_def, List.map_replicate]; rfl

theorem ld_cE {l : List (List MPath)} {i : Nat} (h : i < l.length) : ldV false 1 (l.flatMap cE) i = some (encE l[i]) := by
  have := ld_flat0 (agg := false) (n := 1) cE_len h (by decide) (by decide)
  rw [Nat.mul_one] at this; rw [this]; rfl

theorem foldA_take {l b : List MPath} {j : Nat} (h : j < b.length) : foldA l (b.take (j + 1)) = addS (foldA l (b.take j)) b[j] := by
  rw [List.take_succ_eq_append_getElem h, foldA_app]; rfl
/-! One way onward: what comes of it. -/
theorem push_no {b : List MPath} {s : WS} {n N : Nat} (h : s.ok N) (hn : n < N) (h1 : s.seen[n]'(by rw [h.seen]; exact hn) = true) (h2 : foldA (s.at n) b = s.at n) : pushS b s n = s := by
  unfold pushS
  rw [if_neg]
  rw [List.getD_eq_getElem?_getD, List.getElem?_eq_getElem (by rw [h.seen]; exact hn), Option.getD_some, h1, decide_eq_true h2]; decide
theorem push_yes {b : List MPath} {s : WS} {n N : Nat} (h : s.ok N) (hn : n < N) (h1 : s.seen[n]'(by rw [h.seen]; exact hn) = false ∨ foldA (s.at n) b ≠ s.at n) :
    pushS b s n = ⟨s.seen, if s.work.contains n then s.work else s.work ++ [n], s.out.set n (foldA (s.at n) b)⟩ := by
  unfold pushS
  rw [if_pos]
  rw [List.getD_eq_getElem?_getD, List.getElem?_eq_getElem (by rw [h.seen]; exact hn), Option.getD_some]
  rcases h1 with h1 | h1
  · rw [h1]; rfl
  · rw [decide_eq_false h1]; simp

/-! The worklist of a program. -/
/-- The locals that hold nothing at first, of the first ones. -/
def freeL (m : Mir) : Nat → List MPath
  | 0 => []
  | k + 1 => freeL m k ++ (if (m.locals[k]?.map (·.param)).getD true then [] else [⟨(k : Int), []⟩])
def afM (m : Mir) (i : Nat) (l : List MPath) : List MPath := match m.code[i]? with
  | some x => aftS l x
  | none => l
def univ (m : Mir) : List MPath := freeL m m.locals.length ++ m.code.flatMap takes1
def ws0 (m : Mir) : WS := ⟨List.replicate m.code.length false, [0], (List.replicate m.code.length []).set 0 (foldA [] (freeL m m.locals.length))⟩
def runG (m : Mir) : WS := runS (afM m) (nx m) (pot (univ m) m.code.length (ws0 m) + 1) (ws0 m)

theorem freeL_len (m : Mir) : ∀ k, (freeL m k).length ≤ k
  | 0 => Nat.le_refl _
  | k + 1 => by
    have := freeL_len m k
    rw [freeL, List.length_append]
    split
    · simp only [List.length_nil]; omega
    · simp only [List.length_cons, List.length_nil]; omega
theorem freeL_small (m : Mir) : ∀ k, ∀ p ∈ freeL m k, p.steps = []
  | 0, _, h => by cases h
  | k + 1, p, h => by
    rcases List.mem_append.1 h with h | h
    · exact freeL_small m k p h
    · split at h
      · cases h
      · rw [List.mem_singleton.1 h]
theorem freeL_yes {m : Mir} {k : Nat} (h : k < m.locals.length) (hp : m.locals[k].param = true) : freeL m (k + 1) = freeL m k := by
  rw [freeL, List.getElem?_eq_getElem h]; simp [hp]
theorem freeL_no {m : Mir} {k : Nat} (h : k < m.locals.length) (hp : m.locals[k].param = false) : freeL m (k + 1) = freeL m k ++ [⟨(k : Int), []⟩] := by
  rw [freeL, List.getElem?_eq_getElem h]; simp [hp]
/-- The lists at first, behind some locals. -/
def out0 (m : Mir) (k : Nat) : List (List MPath) := (List.replicate m.code.length []).set 0 (foldA [] (freeL m k))
theorem out0_len (m : Mir) (k : Nat) : (out0 m k).length = m.code.length := by simp [out0]
theorem out0_z (m : Mir) : out0 m 0 = List.replicate m.code.length [] := by
  rw [out0, freeL]
  cases m.code.length with
  | zero => rfl
  | succ n => rfl
theorem out0_get {m : Mir} {k : Nat} (h : 0 < (out0 m k).length) : (out0 m k)[0] = foldA [] (freeL m k) := by simp [out0]
theorem out0_set {m : Mir} {k : Nat} (h : k < m.locals.length) (hp : m.locals[k].param = false) : (out0 m k).set 0 (addS (foldA [] (freeL m k)) ⟨(k : Int), []⟩) = out0 m (k + 1) := by
  rw [out0, List.set_set, out0, freeL_no h hp, foldA_app]; rfl
/-- Sorted lists out of few are short. -/
theorem nodup_len : ∀ {l U : List MPath}, l.Nodup → (∀ x ∈ l, x ∈ U) → l.length ≤ U.length
  | [], _, _, _ => Nat.zero_le _
  | x :: l, U, h, hU => by
    have hx := hU x (List.mem_cons_self ..)
    have := nodup_len (l := l) (U := U.erase x) (List.nodup_cons.1 h).2 fun y hy => by
      refine (List.mem_erase_of_ne ?_).2 (hU y (List.mem_cons_of_mem _ hy))
      rintro rfl
      exact (List.nodup_cons.1 h).1 hy
    rw [List.length_erase_of_mem hx] at this
    have h0 : 0 < U.length := List.length_pos_of_mem hx
    rw [List.length_cons]; omega
theorem srt_nodup {l : List MPath} (h : Srt l) : l.Nodup := h.imp fun {a b} h e => by rw [e, ltP_irrefl] at h; cases h
theorem srt_len {l U : List MPath} (h : Srt l) (hU : ∀ x ∈ l, x ∈ U) : l.length ≤ U.length := nodup_len (srt_nodup h) hU

theorem afM_mem (m : Mir) (i : Nat) (l : List MPath) (h : ∀ p ∈ l, p ∈ univ m) : ∀ p ∈ afM m i l, p ∈ univ m := by
  intro p hp
  unfold afM at hp
  split at hp
  · rename_i x e
    rcases aft_mem hp with hp | hp
    · exact h p hp
    · exact List.mem_append_right _ (List.mem_flatMap.2 ⟨x, List.mem_of_getElem? e, hp⟩)
  · exact h p hp
theorem ws0_ok (m : Mir) (hN : 0 < m.code.length) : WOk (univ m) m.code.length (ws0 m) := by
  refine ⟨⟨by simp [ws0], by simp [ws0]⟩, ?_, ?_, ?_⟩
  · intro i hi
    rw [List.mem_singleton.1 hi]; exact hN
  · intro l hl p hp
    rcases List.mem_or_eq_of_mem_set hl with hl | rfl
    · rw [(List.mem_replicate.1 hl).2] at hp; cases hp
    · rcases foldA_mem _ hp with hp | hp
      · cases hp
      · exact List.mem_append_left _ hp
  · intro l hl
    rcases List.mem_or_eq_of_mem_set hl with hl | rfl
    · rw [(List.mem_replicate.1 hl).2]; exact List.Pairwise.nil
    · exact foldA_srt _ List.Pairwise.nil
theorem uncov_len (U l : List MPath) : uncov U l ≤ U.length := List.countP_le_length
theorem sum_le {l : List Nat} {b : Nat} (h : ∀ x ∈ l, x ≤ b) : l.sum ≤ l.length * b := by
  induction l with
  | nil => simp
  | cons x l ih =>
    have h1 := h x (List.mem_cons_self ..)
    have h2 := ih fun y hy => h y (List.mem_cons_of_mem _ hy)
    rw [List.sum_cons, List.length_cons, Nat.add_mul]; omega
theorem pot_le {U : List MPath} {N : Nat} {s : WS} (h : s.ok N) : pot U N s ≤ 2 * (N * U.length) + 2 * N + s.work.length := by
  have h1 := sum_le (l := s.out.map (uncov U)) (b := U.length) fun x hx => by
    obtain ⟨l, _, rfl⟩ := List.mem_map.1 hx
    exact uncov_len U l
  rw [List.length_map, h.out] at h1
  have h2 : free s N ≤ N := by
    have := List.countP_le_length (p := fun n => !s.seen.getD n false && !s.work.contains n) (l := List.range N)
    rw [List.length_range] at this; exact this
  unfold pot; omega
theorem work_pot {U : List MPath} {N : Nat} (s : WS) : s.work.length ≤ pot U N s := by unfold pot; omega
end Go.Lg

namespace Go.Proofs.YtlkdcgfjmhjjpaaGreat
open Go Go.Lg
set_option maxRecDepth 100000

def lcg47 : LC := .seq (.rego 0 [⟨some 6, .mov (.con (.bool false)), none⟩]) (.keep [0, 1, 2] (.seq (.seq (.rego 1 [⟨some 10, .mov (.tmp 0), none⟩, ⟨some 11, .len false (.tmp 10), none⟩, ⟨some 12, .mov (.tmp 1), none⟩, ⟨some 13, .len false (.tmp 12), none⟩, ⟨some 14, .bin .neq (.tmp 11) (.tmp 13), none⟩]) (.keep [0, 1, 2, 14] (.cond (.tmp 14) (.keep [] (.seq (.rego 2 [⟨some 6, .mov (.con (.bool false)), none⟩]) .ret)) .skip))) (.keep [0, 1, 2] (.seq (.seq (.rego 3 [⟨some 15, .mov (.tmp 0), none⟩, ⟨some 16, .len false (.tmp 15), none⟩, ⟨some 17, .mov (.con (.int .i64 0)), none⟩]) (.keep [1, 2, 15, 16, 17] (.block 0 (.loop (.seq (.rego 4 [⟨some 18, .bin .lss (.tmp 17) (.tmp 16), none⟩]) (.keep [1, 2, 15, 16, 17, 18] (.seq (.cond (.tmp 18) .skip (.exit 0)) (.keep [1, 2, 15, 16, 17] (.seq (.block 1 (.seq (.rego 5 [⟨some 19, .mov (.tmp 17), none⟩, ⟨some 20, .iaS 2 (.tmp 15) (.tmp 17), none⟩, ⟨some 21, .load true 2 (.tmp 20), none⟩, ⟨some 8, .new [.int .i64 0, .e0], none⟩, ⟨some 7, .mov (.tmp 19), none⟩, ⟨none, .store 2 (.tmp 8) (.tmp 21), none⟩]) (.keep [1, 2, 7, 8, 15, 16, 17] (.seq (.rego 6 [⟨some 22, .mov (.tmp 1), none⟩, ⟨some 23, .mov (.tmp 7), none⟩, ⟨some 24, .iaS 2 (.tmp 22) (.tmp 23), none⟩, ⟨some 25, .load true 2 (.tmp 24), none⟩, ⟨some 9, .new [.int .i64 0, .e0], none⟩, ⟨none, .store 2 (.tmp 9) (.tmp 25), none⟩]) (.keep [1, 2, 8, 9, 15, 16, 17] (.seq (.rego 7 [⟨some 26, .mov (.tmp 2), none⟩, ⟨some 27, .load true 2 (.tmp 8), none⟩, ⟨some 28, .load true 2 (.tmp 9), none⟩, ⟨some 29, .callv (.tmp 26) [.tmp 27, .tmp 28], none⟩, ⟨some 30, .un .not (.tmp 29), none⟩]) (.keep [1, 2, 15, 16, 17, 30] (.cond (.tmp 30) (.keep [] (.seq (.rego 8 [⟨some 6, .mov (.con (.bool false)), none⟩]) .ret)) .skip)))))))) (.keep [1, 2, 15, 16, 17] (.rego 9 [⟨some 31, .bin .add (.tmp 17) (.con (.int .i64 1)), none⟩, ⟨some 17, .mov (.tmp 31), none⟩]))))))))))) (.keep [] (.seq (.rego 10 [⟨some 6, .mov (.con (.bool true)), none⟩]) .ret))))))
theorem fdg47 : fnData Tryz.prog 47 = some (32, lcg47.erase, [LRV.tmp 6]) := by kernel_rfl

def lcg48 : LC := .seq (.rego 0 [⟨some 4, .mov (.con (.bool false)), none⟩]) (.keep [0, 1] (.seq (.rego 1 [⟨some 5, .mov (.tmp 0), none⟩, ⟨some 6, .mov (.tmp 1), none⟩, ⟨some 7, .call 65 [.tmp 5, .tmp 6], none⟩, ⟨some 8, .bin .geq (.tmp 7) (.con (.int .i64 0)), none⟩, ⟨some 4, .mov (.tmp 8), none⟩]) .ret))
theorem fdg48 : fnData Tryz.prog 48 = some (9, lcg48.erase, [LRV.tmp 4]) := by kernel_rfl

def lcg65 : LC := .seq (.rego 0 [⟨some 4, .mov (.con (.int .i64 0)), none⟩]) (.keep [0, 1] (.seq (.seq (.rego 1 [⟨some 6, .mov (.tmp 0), none⟩, ⟨some 7, .len false (.tmp 6), none⟩, ⟨some 8, .mov (.con (.int .i64 0)), none⟩]) (.keep [0, 1, 7, 8] (.block 0 (.loop (.seq (.rego 2 [⟨some 9, .bin .lss (.tmp 8) (.tmp 7), none⟩]) (.keep [0, 1, 7, 8, 9] (.seq (.cond (.tmp 9) .skip (.exit 0)) (.keep [0, 1, 7, 8] (.seq (.block 1 (.seq (.rego 3 [⟨some 10, .mov (.tmp 8), none⟩, ⟨some 5, .mov (.tmp 10), none⟩]) (.keep [0, 1, 5, 7, 8] (.seq (.rego 4 [⟨some 11, .mov (.tmp 1), none⟩, ⟨some 12, .mov (.tmp 0), none⟩, ⟨some 13, .mov (.tmp 5), none⟩, ⟨some 14, .iaS 1 (.tmp 12) (.tmp 13), none⟩, ⟨some 15, .load false 1 (.tmp 14), none⟩, ⟨some 16, .bin .eql (.tmp 11) (.tmp 15), none⟩]) (.keep [0, 1, 5, 7, 8, 16] (.cond (.tmp 16) (.keep [5] (.seq (.rego 5 [⟨some 17, .mov (.tmp 5), none⟩, ⟨some 4, .mov (.tmp 17), none⟩]) .ret)) .skip)))))) (.keep [0, 1, 7, 8] (.rego 6 [⟨some 18, .bin .add (.tmp 8) (.con (.int .i64 1)), none⟩, ⟨some 8, .mov (.tmp 18), none⟩]))))))))))) (.keep [] (.seq (.rego 7 [⟨some 4, .mov (.con (.int .i64 (-1))), none⟩]) .ret))))
theorem fdg65 : fnData Tryz.prog 65 = some (19, lcg65.erase, [LRV.tmp 4]) := by kernel_rfl

def lcg67 : LC := .seq (.rego 0 [⟨some 3, .box (.tmp 1), none⟩, ⟨some 4, .mov (.con (.bool false)), none⟩]) (.keep [0, 3] (.seq (.rego 1 [⟨some 6, .load true 2 (.tmp 3), none⟩, ⟨some 7, .call 76 [.tmp 6], none⟩, ⟨some 5, .new [.int .i64 0, .e0], none⟩, ⟨none, .store 2 (.tmp 5) (.tmp 7), none⟩]) (.keep [0, 5] (.seq (.rego 2 [⟨some 8, .mov (.tmp 0), none⟩, ⟨some 9, .mkfn 77 [.tmp 5], none⟩, ⟨some 10, .call 28 [.tmp 8, .tmp 9], none⟩, ⟨some 4, .mov (.tmp 10), none⟩]) .ret))))
theorem fdg67 : fnData Tryz.prog 67 = some (11, lcg67.erase, [LRV.tmp 4]) := by kernel_rfl

def lcg76 : LC := .seq (.rego 0 [⟨some 1, .box (.tmp 0), none⟩, ⟨some 2, .new [.int .i64 0, .e0], none⟩]) (.keep [1, 2] (.seq (.rego 1 [⟨some 4, .fad 1 (.tmp 1), none⟩, ⟨some 5, .load false 1 (.tmp 4), none⟩, ⟨some 6, .call 62 [.tmp 5, .con (.str { data := #[42] })], none⟩, ⟨some 3, .mov (.tmp 6), none⟩]) (.keep [1, 2, 3] (.seq (.seq (.rego 2 [⟨some 7, .mov (.tmp 3), none⟩, ⟨some 8, .bin .lss (.tmp 7) (.con (.int .i64 0)), none⟩]) (.keep [1, 2, 3, 8] (.cond (.tmp 8) (.keep [1, 2] (.rego 3 [⟨some 9, .fad 1 (.tmp 1), none⟩, ⟨some 10, .load false 1 (.tmp 9), none⟩, ⟨some 11, .len false (.tmp 10), none⟩, ⟨some 3, .mov (.tmp 11), none⟩])) .skip))) (.keep [1, 2, 3] (.seq (.reg 4 [⟨some 12, .fad 0 (.tmp 1), none⟩, ⟨some 13, .load false 1 (.tmp 12), none⟩, ⟨some 14, .fad 1 (.tmp 1), none⟩, ⟨some 15, .load false 1 (.tmp 14), none⟩, ⟨some 16, .mov (.tmp 3), none⟩, ⟨some 17, .slV 1 (.tmp 15) none (some (.tmp 16)), none⟩, ⟨some 18, .appE 1 16 (.con .e0) (.tmp 17), none⟩, ⟨some 19, .build [.int .i64 0, .e0] [⟨0, 1, .tmp 13⟩, ⟨1, 1, .tmp 18⟩], none⟩, ⟨none, .store 2 (.tmp 2) (.tmp 19), none⟩]) .ret))))))
theorem fdg76 : fnData Tryz.prog 76 = some (20, lcg76.erase, [LRV.cell 2 true 2]) := by kernel_rfl

def lcg77 : LC := .seq (.rego 0 [⟨some 2, .box (.tmp 0), none⟩, ⟨some 3, .mov (.con (.bool false)), none⟩]) (.keep [1, 2] (.seq (.rego 1 [⟨some 4, .load true 2 (.tmp 1), none⟩, ⟨some 5, .load true 2 (.tmp 2), none⟩, ⟨some 6, .call 30 [.tmp 4, .tmp 5], none⟩, ⟨some 7, .mov (.tmp 6), none⟩, ⟨some 8, .load true 2 (.tmp 2), some ⟨7, false⟩⟩, ⟨some 9, .load true 2 (.tmp 1), some ⟨7, false⟩⟩, ⟨some 10, .call 30 [.tmp 8, .tmp 9], some ⟨7, false⟩⟩, ⟨some 11, .pick (.tmp 7) (.con (.bool true)) (.tmp 10), none⟩, ⟨some 3, .mov (.tmp 11), none⟩]) .ret))
theorem fdg77 : fnData Tryz.prog 77 = some (12, lcg77.erase, [LRV.tmp 3]) := by kernel_rfl

def lcg50 : LC := .seq (.rego 0 [⟨some 3, .box (.tmp 1), none⟩, ⟨some 4, .mov (.con (.bool false)), none⟩]) (.keep [0, 3] (.seq (.seq (.rego 1 [⟨some 5, .fad 0 (.tmp 3), none⟩, ⟨some 6, .load false 1 (.tmp 5), none⟩, ⟨some 7, .bin .neq (.tmp 6) (.con (.int .i64 1)), none⟩, ⟨some 8, .mov (.tmp 7), none⟩, ⟨some 9, .fad 2 (.tmp 3), some ⟨8, false⟩⟩, ⟨some 10, .load false 1 (.tmp 9), some ⟨8, false⟩⟩, ⟨some 11, .un .not (.tmp 10), some ⟨8, false⟩⟩, ⟨some 12, .pick (.tmp 8) (.con (.bool true)) (.tmp 11), none⟩, ⟨some 13, .mov (.tmp 12), none⟩, ⟨some 14, .fad 3 (.tmp 3), some ⟨13, false⟩⟩, ⟨some 15, .fad 1 (.tmp 14), some ⟨13, false⟩⟩, ⟨some 16, .load false 1 (.tmp 15), some ⟨13, false⟩⟩, ⟨some 17, .len false (.tmp 16), some ⟨13, false⟩⟩, ⟨some 18, .bin .eql (.tmp 17) (.con (.int .i64 0)), some ⟨13, false⟩⟩, ⟨some 19, .pick (.tmp 13) (.con (.bool true)) (.tmp 18), none⟩, ⟨some 20, .mov (.tmp 19), none⟩, ⟨some 21, .fad 3 (.tmp 3), some ⟨20, false⟩⟩, ⟨some 22, .fad 1 (.tmp 21), some ⟨20, false⟩⟩, ⟨some 23, .load false 1 (.tmp 22), some ⟨20, false⟩⟩, ⟨some 24, .call 35 [.tmp 23, .con (.str { data := #[42] })], some ⟨20, false⟩⟩, ⟨some 25, .pick (.tmp 20) (.con (.bool true)) (.tmp 24), none⟩]) (.keep [0, 3, 25] (.cond (.tmp 25) (.keep [] (.seq (.rego 2 [⟨some 4, .mov (.con (.bool false)), none⟩]) .ret)) .skip))) (.keep [0, 3] (.seq (.rego 3 [⟨some 26, .mov (.tmp 0), none⟩, ⟨some 27, .mkfn 68 [.tmp 3], none⟩, ⟨some 28, .call 28 [.tmp 26, .tmp 27], none⟩, ⟨some 4, .mov (.tmp 28), none⟩]) .ret))))
theorem fdg50 : fnData Tryz.prog 50 = some (29, lcg50.erase, [LRV.tmp 4]) := by kernel_rfl

def lcg71 : LC := .seq (.rego 0 [⟨some 2, .mov (.con (.bool false)), none⟩]) (.keep [0] (.seq (.rego 1 [⟨some 3, .mov (.tmp 0), none⟩, ⟨some 4, .mov (.tmp 0), none⟩, ⟨some 5, .bin .neq (.tmp 3) (.tmp 4), none⟩, ⟨some 2, .mov (.tmp 5), none⟩]) .ret))
theorem fdg71 : fnData Tryz.prog 71 = some (6, lcg71.erase, [LRV.tmp 2]) := by kernel_rfl

def lcg54 : LC := .seq (.rego 0 [⟨some 4, .mov (.con (.int .i64 0)), none⟩]) (.keep [0, 1] (.seq (.rego 1 [⟨some 7, .mov (.tmp 0), none⟩, ⟨some 8, .call 71 [.tmp 7], none⟩, ⟨some 5, .mov (.tmp 8), none⟩]) (.keep [0, 1, 5] (.seq (.rego 2 [⟨some 9, .mov (.tmp 1), none⟩, ⟨some 10, .call 71 [.tmp 9], none⟩, ⟨some 6, .mov (.tmp 10), none⟩]) (.keep [0, 1, 5, 6] (.seq (.seq (.rego 3 [⟨some 11, .mov (.tmp 5), none⟩]) (.keep [0, 1, 6, 11] (.cond (.tmp 11) (.keep [6] (.seq (.seq (.rego 4 [⟨some 12, .mov (.tmp 6), none⟩]) (.keep [12] (.cond (.tmp 12) (.keep [] (.seq (.rego 5 [⟨some 4, .mov (.con (.int .i64 0)), none⟩]) .ret)) .skip))) (.keep [] (.seq (.rego 6 [⟨some 4, .mov (.con (.int .i64 (-1))), none⟩]) .ret)))) .skip))) (.keep [0, 1, 6] (.seq (.seq (.rego 7 [⟨some 13, .mov (.tmp 6), none⟩]) (.keep [0, 1, 13] (.cond (.tmp 13) (.keep [] (.seq (.rego 8 [⟨some 4, .mov (.con (.int .i64 1)), none⟩]) .ret)) .skip))) (.keep [0, 1] (.seq (.seq (.rego 9 [⟨some 14, .mov (.tmp 0), none⟩, ⟨some 15, .mov (.tmp 1), none⟩, ⟨some 16, .bin .lss (.tmp 14) (.tmp 15), none⟩]) (.keep [0, 1, 16] (.cond (.tmp 16) (.keep [] (.seq (.rego 10 [⟨some 4, .mov (.con (.int .i64 (-1))), none⟩]) .ret)) .skip))) (.keep [0, 1] (.seq (.seq (.rego 11 [⟨some 17, .mov (.tmp 0), none⟩, ⟨some 18, .mov (.tmp 1), none⟩, ⟨some 19, .bin .gtr (.tmp 17) (.tmp 18), none⟩]) (.keep [19] (.cond (.tmp 19) (.keep [] (.seq (.rego 12 [⟨some 4, .mov (.con (.int .i64 1)), none⟩]) .ret)) .skip))) (.keep [] (.seq (.rego 13 [⟨some 4, .mov (.con (.int .i64 0)), none⟩]) .ret))))))))))))))
theorem fdg54 : fnData Tryz.prog 54 = some (20, lcg54.erase, [LRV.tmp 4]) := by kernel_rfl

def lcg53 : LC := .seq (.rego 0 [⟨some 2, .mov (.con (.int .i64 0)), none⟩]) (.keep [0] (.seq (.rego 1 [⟨some 3, .mov (.con (.int .i64 0)), none⟩]) (.keep [0, 3] (.seq (.seq (.rego 2 [⟨some 6, .mov (.tmp 0), none⟩, ⟨some 7, .len false (.tmp 6), none⟩, ⟨some 8, .mov (.con (.int .i64 0)), none⟩]) (.keep [3, 6, 7, 8] (.block 0 (.loop (.seq (.rego 3 [⟨some 9, .bin .lss (.tmp 8) (.tmp 7), none⟩]) (.keep [3, 6, 7, 8, 9] (.seq (.cond (.tmp 9) .skip (.exit 0)) (.keep [3, 6, 7, 8] (.seq (.block 1 (.seq (.rego 4 [⟨some 10, .iaS 1 (.tmp 6) (.tmp 8), none⟩, ⟨some 11, .load false 1 (.tmp 10), none⟩, ⟨some 5, .mov (.tmp 11), none⟩]) (.keep [3, 5, 6, 7, 8] (.seq (.rego 5 [⟨some 12, .mov (.tmp 5), none⟩, ⟨some 13, .mov (.tmp 3), none⟩, ⟨some 14, .bin .neq (.tmp 12) (.tmp 13), none⟩]) (.keep [3, 5, 6, 7, 8, 14] (.cond (.tmp 14) (.keep [5] (.seq (.rego 6 [⟨some 15, .mov (.tmp 5), none⟩, ⟨some 2, .mov (.tmp 15), none⟩]) .ret)) .skip)))))) (.keep [3, 6, 7, 8] (.rego 7 [⟨some 16, .bin .add (.tmp 8) (.con (.int .i64 1)), none⟩, ⟨some 8, .mov (.tmp 16), none⟩]))))))))))) (.keep [3] (.seq (.rego 8 [⟨some 17, .mov (.tmp 3), none⟩, ⟨some 2, .mov (.tmp 17), none⟩]) .ret))))))
theorem fdg53 : fnData Tryz.prog 53 = some (18, lcg53.erase, [LRV.tmp 2]) := by kernel_rfl

def lcg52 : LC := .seq (.rego 0 [⟨some 2, .box (.tmp 0), none⟩, ⟨some 3, .box (.tmp 1), none⟩, ⟨some 4, .mov (.con (.int .i64 0)), none⟩]) (.keep [2, 3] (.seq (.regf 1 [0, 1, 0, 4, 15, 0, 32, 0, 128, 511, 1023, 2047, 4095] [⟨some 5, .fad 0 (.tmp 2), none⟩, ⟨some 6, .load false 1 (.tmp 5), none⟩, ⟨some 7, .fad 0 (.tmp 3), none⟩, ⟨some 8, .load false 1 (.tmp 7), none⟩, ⟨some 9, .call 54 [.tmp 6, .tmp 8], none⟩, ⟨some 10, .fad 1 (.tmp 2), none⟩, ⟨some 11, .load false 1 (.tmp 10), none⟩, ⟨some 12, .fad 1 (.tmp 3), none⟩, ⟨some 13, .load false 1 (.tmp 12), none⟩, ⟨some 14, .call 54 [.tmp 11, .tmp 13], none⟩, ⟨some 15, .bsl 2 [.int .i64 0, .int .i64 0] [⟨0, 1, .tmp 9⟩, ⟨1, 1, .tmp 14⟩], none⟩, ⟨some 16, .call 53 [.tmp 15], none⟩, ⟨some 4, .mov (.tmp 16), none⟩]) .ret))
theorem fdg52 : fnData Tryz.prog 52 = some (17, lcg52.erase, [LRV.tmp 4]) := by kernel_rfl

end Go.Proofs.YtlkdcgfjmhjjpaaGreat

set_option linter.unusedSimpArgs false
set_option linter.unusedVariables false
namespace Go.Proofs.YtlkdcgfjmhjjpaaGreat
open Go Go.Lg Go.RowKit
set_option linter.unusedVariables false
set_option linter.unusedSimpArgs false
set_option maxRecDepth 20000

theorem idxI_ret (l : List Int) (s : Int) (hl : l.length ≤ 4611686018427387904) : PRet Tryz.prog 65 [encL cI l, .int .i64 s] (.int .i64 (idx (fun x => decide (s = x)) l 0)) := by
  refine pret_intro fdg65 (by simp) ?_
  simp only [lcg65, VCA, simprocAttr, encL, MCA]
  refine loop_vcg (ι := Nat × (Nat → Nat)) (fun y => stO [(0, .val (encL cI l)), (1, .val (.int .i64 s)), (7, .val (.int .i64 l.length)), (8, .val (.int .i64 y.1))] y.2)
    (fun y => y.1 ≤ l.length ∧ idx (fun x => decide (s = x)) l 0 = idx (fun x => decide (s = x)) (l.drop y.1) y.1) (fun y => l.length - y.1) (0, _) ⟨Nat.zero_le _, rfl⟩ (ent_of _ [] rfl rfl (by simp only [VCA, simprocAttr, encL, MCA])) ?_
  rintro ⟨k, c⟩ hk
  obtain ⟨hk, hb⟩ : k ≤ l.length ∧ idx (fun x => decide (s = x)) l 0 = idx (fun x => decide (s = x)) (l.drop k) k := hk
  simp only [VCA, simprocAttr, encL, MCA]
  refine condD_of (fun h => ?_) (fun h => ?_)
  · have hk' : k < l.length := by omega
    have i1 : 0 ≤ (k : Int) ∧ (k : Int) < l.length := by omega
    have i3 : InI64 ((k : Int) + 1) := by unfold InI64; omega
    rw [drop_idx _ hk'] at hb
    simp only [VCA, simprocAttr, encL, MCA, hk', i1, i3]
    cases b1 : decide (s = l[k]) <;> simp only [VCA, simprocAttr, encL, MCA, b1, i3]
    · rw [if_neg (by rw [b1]; decide)] at hb
      exact backTo_of (k + 1, _) ⟨hk', hb⟩ (by simp only []; omega) (ent_of _ [] rfl rfl (by simp only [VCA, simprocAttr, encL, MCA]))
    · rw [if_pos b1] at hb
      rw [hb]
  · have hk' : k = l.length := by omega
    subst hk'
    simp only [VCA, simprocAttr, encL, MCA]
    rw [hb, List.drop_length]; rfl
theorem hasI_ret (l : List Int) (s : Int) (hl : l.length ≤ 4611686018427387904) : PRet Tryz.prog 48 [encL cI l, .int .i64 s] (.bool (l.any fun x => decide (s = x))) := by
  refine pret_intro fdg48 (by simp) ?_
  simp only [lcg48, VCA, simprocAttr, encL, MCA]
  refine callX_of (idxI_ret l s hl) (.inr rfl) ?_
  simp only [VCA, simprocAttr, encL, idx_any _ l 0 (by decide)]

theorem same_eq (a b : MPath) : (prefS a b && prefS b a) = decide (a = b) := by
  rw [Bool.eq_iff_iff, Bool.and_eq_true, decide_eq_true_eq]
  exact ⟨fun h => prefS_anti h.1 h.2, fun h => by rw [h]; exact ⟨prefS_refl b, prefS_refl b⟩⟩
theorem eqf_ret (a b : List MPath) (hl : a.length ≤ 1000000) (ha : ∀ x ∈ a, smallP x) (hb : ∀ x ∈ b, smallP x) :
    PRet Tryz.prog 47 [encL MPath.cells a, encL MPath.cells b, .fn 37 []] (.bool (decide (a = b))) := by
  refine pret_intro fdg47 (by simp) ?_
  simp only [lcg47, VCA, simprocAttr, encL, MCA]
  cases b0 : decide ((a.length : Int) = b.length) <;> simp only [VCA, simprocAttr, encL, MCA, b0]
  · have : decide (a = b) = false := decide_eq_false (by rintro rfl; simp at b0)
    rw [this]
  have hab : a.length = b.length := by have := of_decide_eq_true b0; omega
  refine loop_vcg (ι := Nat × (Nat → Nat)) (fun y => stO [(1, .val (encL MPath.cells b)), (2, .clo 37 []), (15, .val (encL MPath.cells a)), (16, .val (.int .i64 a.length)), (17, .val (.int .i64 y.1))] y.2)
    (fun y => y.1 ≤ a.length ∧ decide (a.drop y.1 = b.drop y.1) = decide (a = b)) (fun y => a.length - y.1) (0, _) ⟨Nat.zero_le _, rfl⟩ (ent_of _ [] rfl rfl (by simp only [VCA, simprocAttr, encL, MCA, List.map_nil, List.all_nil])) ?_
  rintro ⟨k, c⟩ hk
  obtain ⟨hk, hb'⟩ : k ≤ a.length ∧ decide (a.drop k = b.drop k) = decide (a = b) := hk
  simp only [VCA, simprocAttr, encL, MCA, List.map_nil]
  refine condD_of (fun h => ?_) (fun h => ?_)
  · have ha' : k < a.length := by omega
    have hbk : k < b.length := by omega
    have h1 : 0 ≤ (k : Int) ∧ (k : Int) < a.length := by omega
    have h2 : 0 ≤ (k : Int) ∧ (k : Int) < b.length := by omega
    have i2 : InI64 ((k : Int) + 1) := by unfold InI64; omega
    rw [List.drop_eq_getElem_cons ha', List.drop_eq_getElem_cons hbk] at hb'
    simp only [VCA, simprocAttr, encL, MCA, ha', hbk, h1, h2, mp_set0, mp_ld, List.map_nil]
    refine callX_of (same_ret a[k] b[k] (ha _ (List.getElem_mem ha')) (hb _ (List.getElem_mem hbk))) (.inr rfl) ?_
    simp only [VCA, simprocAttr, encL, MCA, same_eq]
    cases b1 : decide (a[k] = b[k]) <;> simp only [VCA, simprocAttr, encL, MCA, b1, i2]
    · have : decide (a = b) = false := by
        rw [← hb']
        exact decide_eq_false (by intro e; injection e with e1; exact of_decide_eq_false b1 e1)
      rw [this]
    · refine backTo_of (k + 1, _) ⟨ha', ?_⟩ (by simp only []; omega) (ent_of _ [] rfl rfl (by simp only [VCA, simprocAttr, encL, MCA, List.map_nil, List.all_nil]))
      have e := of_decide_eq_true b1
      rw [← hb', e, Bool.eq_iff_iff, decide_eq_true_eq, decide_eq_true_eq]
      exact ⟨fun q => congrArg _ q, fun q => by injection q⟩
  · have hk' : k = a.length := by omega
    subst hk'
    rw [List.drop_length, hab, List.drop_length] at hb'
    simp only [VCA, simprocAttr, encL, MCA, ← hb']
end Go.Proofs.YtlkdcgfjmhjjpaaGreat

set_option linter.unusedSimpArgs false
set_option linter.unusedVariables false
namespace Go.Proofs.YtlkdcgfjmhjjpaaGreat
open Go Go.Lg Go.RowKit
set_option maxRecDepth 20000

def instA (x : MInst) (locals regions : Int) : Bool :=
  if x.kind = 1 then valB x.val locals regions && (!x.has || inB x.to.loc locals) else if x.kind = 2 ∨ x.kind = 3 then inB x.to.loc locals else if x.kind = 4 then operB x.val.a locals else decide (x.kind = 5 ∨ x.kind = 6)
def instWant (x : MInst) : Nat := if x.kind = 4 then 2 else if x.kind = 6 then 0 else 1
theorem instB_eq (x : MInst) (l r p : Int) : instB x l r p = (instA x l r && (decide (x.next.length = instWant x) && x.next.all fun i => inB i p)) := rfl

theorem known_cell {l : List (List Int)} {i j : Nat} (hl : ∀ k ∈ l, k.length = 2) (h : i < l.length) (hj : j < 2) : ldV false 1 (l.flatMap fun k => k.flatMap cI) (i * 2 + j) = some (.int .i64 (l[i][j]'(by rw [hl _ (List.getElem_mem h)]; exact hj))) := by
  have h1 := known_ld hl h
  have h2 : (l[i].flatMap cI)[j]? = some (.int .i64 (l[i][j]'(by rw [hl _ (List.getElem_mem h)]; exact hj))) := by
    have := ld_cI (l := l[i]) (i := j) (by rw [hl _ (List.getElem_mem h)]; exact hj)
    simpa [ldV] using this
  simp only [ldV, if_true] at h1
  split at h1
  · simp only [Option.some.injEq, V.agg.injEq] at h1
    rw [← h1, List.getElem?_take, if_pos hj, List.getElem?_drop] at h2
    simpa [ldV] using h2
  · cases h1

theorem may16_ret (m : Mir) (hm : m.ok) : PRet Tryz.prog 22 [.agg m.cells] (.bool (mayB m)) := by
  obtain ⟨_, hfr, hrg, ⟨hkn, hkno⟩, ⟨hl, hlo⟩, hc, hco⟩ := hm
  rw [maxLen_eq] at hl hc hkn
  refine pret_intro fd22 (by simp) ?_
  simp only [lc22, VCA, simprocAttr, encL, MCA]
  repeat' (first | refine condDn_of (fun h => ?_) (fun h => ?_) <;> simp only [VCA, simprocAttr, encL, MCA, h] | refine condD_of (fun h => ?_) (fun h => ?_) <;> simp only [VCA, simprocAttr, encL, MCA, h] | refine condVn_of (fun h => ?_) (fun h => ?_) <;> simp only [VCA, simprocAttr, encL, MCA, h] | refine condV_of (fun h => ?_) (fun h => ?_) <;> simp only [VCA, simprocAttr, encL, MCA, h] | refine gdDn_of (fun h => ?_) (fun h => ?_) <;> simp only [VCA, simprocAttr, encL, MCA, h] | refine gdD_of (fun h => ?_) (fun h => ?_) <;> simp only [VCA, simprocAttr, encL, MCA, h] | refine gdVMn_of (fun h => ?_) (fun h => ?_) <;> simp only [VCA, simprocAttr, encL, MCA, h] | refine gdVM_of (fun h => ?_) (fun h => ?_) <;> simp only [VCA, simprocAttr, encL, MCA, h] | refine gpDn_of (fun h => ?_) (fun h => ?_) <;> simp only [VCA, simprocAttr, encL, MCA, h] | refine gpD_of (fun h => ?_) (fun h => ?_) <;> simp only [VCA, simprocAttr, encL, MCA, h] | refine gdVn_of (fun h => ?_) (fun h => ?_) <;> simp only [VCA, simprocAttr, encL, MCA, h] | refine gdV_of (fun h => ?_) (fun h => ?_) <;> simp only [VCA, simprocAttr, encL, MCA, h] | (unfold InI64; omega) | refine And.intro ?_ ?_)
  all_goals try omega
  all_goals try (simp only [V.bool.injEq, mayB, mayHead, inB]; simp [*]; done)
  all_goals try (simp only [V.bool.injEq, mayB, mayHead, inB]; simp [*]; omega)
  rename_i h1 h2 h3 h4 h5 h6
  have hhead : mayHead m = true := by simp only [mayHead, inB]; simp; omega
  clear h1 h2 h3 h4 h5 h6 h
  refine loop_vcg (ι := Nat × (Nat → Nat)) (fun (k, c) => stO [(1, .box m.cells), (3, .val (.int .i64 k))] c)
    (fun (k, _) => k ≤ m.known.length ∧ (m.known.drop k).all (fun k => k.all fun i => inB i m.free) = m.known.all (fun k => k.all fun i => inB i m.free)) (fun (k, _) => m.known.length - k) (0, _) ⟨by omega, rfl⟩ (ent_of _ [] rfl rfl (by simp only [VCA, simprocAttr, encL, MCA])) ?_
  rintro ⟨k, c⟩ ⟨hk, hb⟩
  simp only [VCA, simprocAttr, encL, MCA]
  refine condD_of (fun h => ?_) (fun h => ?_)
  · have hk' : k < m.known.length := by omega
    rw [all_drop _ _ _ hk'] at hb
    have h2 := (hkno _ (List.getElem_mem hk')).1
    have hin : 0 ≤ (k : Int) ∧ (k : Int) < m.known.length := by omega
    simp only [VCA, simprocAttr, encL, MCA]
    refine loop_vcg (ι := Nat × (Nat → Nat)) (fun (j, c) => stO [(1, .box m.cells), (3, .val (.int .i64 k)), (4, .val (.int .i64 j))] c)
      (fun (j, _) => j ≤ 2 ∧ (m.known[k].drop j).all (fun i => inB i m.free) = m.known[k].all (fun i => inB i m.free)) (fun (j, _) => 2 - j) (0, _) ⟨by omega, rfl⟩ (ent_of _ [] rfl rfl (by simp only [VCA, simprocAttr, encL, MCA])) ?_
    rintro ⟨j, c⟩ ⟨hj, hbj⟩
    simp only [VCA, simprocAttr, encL, MCA]
    refine condD_of (fun h => ?_) (fun h => ?_)
    · have hj' : j < m.known[k].length := by omega
      have hld := known_cell (fun k hk => (hkno k hk).1) hk' (j := j) (by omega)
      rw [all_drop _ _ _ hj'] at hbj
      have hjn : 0 ≤ (j : Int) ∧ (j : Int) < 2 := by omega
      simp only [VCA, simprocAttr, encL, MCA, hld, hin, hjn]
      repeat' (first | refine condDn_of (fun h => ?_) (fun h => ?_) <;> simp only [VCA, simprocAttr, encL, MCA, h, hld, hin, hjn] | refine condD_of (fun h => ?_) (fun h => ?_) <;> simp only [VCA, simprocAttr, encL, MCA, h, hld, hin, hjn] | refine condVn_of (fun h => ?_) (fun h => ?_) <;> simp only [VCA, simprocAttr, encL, MCA, h, hld, hin, hjn] | refine condV_of (fun h => ?_) (fun h => ?_) <;> simp only [VCA, simprocAttr, encL, MCA, h, hld, hin, hjn] | refine gdDn_of (fun h => ?_) (fun h => ?_) <;> simp only [VCA, simprocAttr, encL, MCA, h, hld, hin, hjn] | refine gdD_of (fun h => ?_) (fun h => ?_) <;> simp only [VCA, simprocAttr, encL, MCA, h, hld, hin, hjn] | refine gdVMn_of (fun h => ?_) (fun h => ?_) <;> simp only [VCA, simprocAttr, encL, MCA, h, hld, hin, hjn] | refine gdVM_of (fun h => ?_) (fun h => ?_) <;> simp only [VCA, simprocAttr, encL, MCA, h, hld, hin, hjn] | refine gpDn_of (fun h => ?_) (fun h => ?_) <;> simp only [VCA, simprocAttr, encL, MCA, h, hld, hin, hjn] | refine gpD_of (fun h => ?_) (fun h => ?_) <;> simp only [VCA, simprocAttr, encL, MCA, h, hld, hin, hjn] | refine gdVn_of (fun h => ?_) (fun h => ?_) <;> simp only [VCA, simprocAttr, encL, MCA, h, hld, hin, hjn] | refine gdV_of (fun h => ?_) (fun h => ?_) <;> simp only [VCA, simprocAttr, encL, MCA, h, hld, hin, hjn] | (unfold InI64; omega) | refine And.intro ?_ ?_)
      all_goals first
        | omega
        | (have hop : inB m.known[k][j] m.free = false := by (clear hb hbj; simp only [inB]; simp; omega)
           rw [hop, Bool.false_and] at hbj
           rw [← hbj, Bool.false_and] at hb
           simp [mayB, ← hb]; done)
        | (have hop : inB m.known[k][j] m.free = true := by (clear hb hbj; simp only [inB]; simp; omega)
           rw [hop, Bool.true_and] at hbj
           exact backTo_of (j + 1, _) ⟨by omega, hbj⟩ (by simp only []; omega) (ent_of _ [] rfl rfl (by simp only [VCA, simprocAttr, encL, MCA])))
    · have hj' : j = m.known[k].length := by omega
      subst hj'
      simp only [List.drop_length, List.all_nil] at hbj
      rw [← hbj, Bool.true_and] at hb
      simp only [VCA, simprocAttr, encL, MCA]
      exact And.intro (by unfold InI64; omega) (backTo_of (k + 1, _) ⟨by omega, hb⟩ (by simp only []; omega) (ent_of _ [] rfl rfl (by simp only [VCA, simprocAttr, encL, MCA])))
  · have hk' : k = m.known.length := by omega
    subst hk'
    simp only [List.drop_length, List.all_nil] at hb
    clear h hk
    simp only [VCA, simprocAttr, encL, MCA]
    refine loop_vcg (ι := Nat × (Nat → Nat)) (fun (k, c) => stO [(1, .box m.cells), (5, .val (.int .i64 k))] c)
      (fun (k, _) => k ≤ m.locals.length ∧ (m.locals.drop k).all (fun l => rtB m.regions 64 l.type) = m.locals.all (fun l => rtB m.regions 64 l.type)) (fun (k, _) => m.locals.length - k) (0, _) ⟨by omega, rfl⟩ (ent_of _ [] rfl rfl (by simp only [VCA, simprocAttr, encL, MCA])) ?_
    rintro ⟨k, c⟩ ⟨hk, hb2⟩
    simp only [VCA, simprocAttr, encL, MCA]
    refine condD_of (fun h => ?_) (fun h => ?_)
    · have hk' : k < m.locals.length := by omega
      rw [all_drop _ _ _ hk'] at hb2
      have hin : 0 ≤ (k : Int) ∧ (k : Int) < m.locals.length := by omega
      simp only [VCA, simprocAttr, encL, MCA, hk', hin]
      repeat' (first | refine condDn_of (fun h => ?_) (fun h => ?_) <;> simp only [VCA, simprocAttr, encL, MCA, h] | refine condD_of (fun h => ?_) (fun h => ?_) <;> simp only [VCA, simprocAttr, encL, MCA, h] | refine condVn_of (fun h => ?_) (fun h => ?_) <;> simp only [VCA, simprocAttr, encL, MCA, h] | refine condV_of (fun h => ?_) (fun h => ?_) <;> simp only [VCA, simprocAttr, encL, MCA, h] | refine gdDn_of (fun h => ?_) (fun h => ?_) <;> simp only [VCA, simprocAttr, encL, MCA, h] | refine gdD_of (fun h => ?_) (fun h => ?_) <;> simp only [VCA, simprocAttr, encL, MCA, h] | refine gdVMn_of (fun h => ?_) (fun h => ?_) <;> simp only [VCA, simprocAttr, encL, MCA, h] | refine gdVM_of (fun h => ?_) (fun h => ?_) <;> simp only [VCA, simprocAttr, encL, MCA, h] | refine gpDn_of (fun h => ?_) (fun h => ?_) <;> simp only [VCA, simprocAttr, encL, MCA, h] | refine gpD_of (fun h => ?_) (fun h => ?_) <;> simp only [VCA, simprocAttr, encL, MCA, h] | refine gdVn_of (fun h => ?_) (fun h => ?_) <;> simp only [VCA, simprocAttr, encL, MCA, h] | refine gdV_of (fun h => ?_) (fun h => ?_) <;> simp only [VCA, simprocAttr, encL, MCA, h] | refine callV_of (typ_ret m.regions 64 _ (hlo _ (List.getElem_mem hk')).2 (by decide)) (by first | exact Or.inr rfl | exact Or.inl rfl) ?_ <;> simp only [VCA, simprocAttr, encL, MCA] | (unfold InI64; omega) | refine And.intro ?_ ?_)
      · rw [h] at hb2
        simp only [V.bool.injEq, mayB, ← hb2]; simp
      · rw [h] at hb2
        exact backTo_of (k + 1, _) ⟨by omega, hb2⟩ (by simp only []; omega) (ent_of _ [] rfl rfl (by simp only [VCA, simprocAttr, encL, MCA]))
    · have hk' : k = m.locals.length := by omega
      subst hk'
      simp only [List.drop_length, List.all_nil] at hb2
      clear h hk
      simp only [VCA, simprocAttr, encL, MCA]
      refine loop_vcg (ι := Nat × (Nat → Nat)) (fun (k, c) => stO [(1, .box m.cells), (6, .val (.int .i64 k))] c)
        (fun (k, _) => k ≤ m.code.length ∧ (m.code.drop k).all (fun x => instB x m.locals.length m.regions m.code.length) = m.code.all (fun x => instB x m.locals.length m.regions m.code.length)) (fun (k, _) => m.code.length - k) (0, _) ⟨by omega, rfl⟩ (ent_of _ [] rfl rfl (by simp only [VCA, simprocAttr, encL, MCA])) ?_
      rintro ⟨k, c⟩ ⟨hk, hb3⟩
      simp only [VCA, simprocAttr, encL, MCA]
      refine condD_of (fun h => ?_) (fun h => ?_)
      · have hk' : k < m.code.length := by omega
        rw [all_drop _ _ _ hk'] at hb3
        have hin : 0 ≤ (k : Int) ∧ (k : Int) < m.code.length := by omega
        have hx := hco _ (List.getElem_mem hk')
        simp only [VCA, simprocAttr, encL, MCA, hk', hin]
        generalize m.code[k] = x at hb3 hx
        refine join_vcg (ι := Nat → Nat) (fun c => stO [(1, .box m.cells), (6, .val (.int .i64 k)), (7, .box x.cells), (8, .val (.int .i64 (instWant x))), (9, .val (.bool (instA x m.locals.length m.regions)))] c) (fun _ => 1 ≤ x.kind ∧ x.kind ≤ 6) ?_ ?_
        · simp only [VCA, simprocAttr, encL, MCA]
          repeat' (first | refine condDn_of (fun h => ?_) (fun h => ?_) <;> simp only [VCA, simprocAttr, encL, MCA, h] | refine condD_of (fun h => ?_) (fun h => ?_) <;> simp only [VCA, simprocAttr, encL, MCA, h] | refine condVn_of (fun h => ?_) (fun h => ?_) <;> simp only [VCA, simprocAttr, encL, MCA, h] | refine condV_of (fun h => ?_) (fun h => ?_) <;> simp only [VCA, simprocAttr, encL, MCA, h] | refine gdDn_of (fun h => ?_) (fun h => ?_) <;> simp only [VCA, simprocAttr, encL, MCA, h] | refine gdD_of (fun h => ?_) (fun h => ?_) <;> simp only [VCA, simprocAttr, encL, MCA, h] | refine gdVMn_of (fun h => ?_) (fun h => ?_) <;> simp only [VCA, simprocAttr, encL, MCA, h] | refine gdVM_of (fun h => ?_) (fun h => ?_) <;> simp only [VCA, simprocAttr, encL, MCA, h] | refine gpDn_of (fun h => ?_) (fun h => ?_) <;> simp only [VCA, simprocAttr, encL, MCA, h] | refine gpD_of (fun h => ?_) (fun h => ?_) <;> simp only [VCA, simprocAttr, encL, MCA, h] | refine gdVn_of (fun h => ?_) (fun h => ?_) <;> simp only [VCA, simprocAttr, encL, MCA, h] | refine gdV_of (fun h => ?_) (fun h => ?_) <;> simp only [VCA, simprocAttr, encL, MCA, h] | refine callX_of (value16_ret x.val hx.2.2.2.1 m) (by first | exact Or.inr rfl | exact Or.inl rfl) ?_ <;> simp only [VCA, simprocAttr, encL, MCA] | refine callX_of (local_ret x.to m) (by first | exact Or.inr rfl | exact Or.inl rfl) ?_ <;> simp only [VCA, simprocAttr, encL, MCA] | refine callX_of (named_ret x.val.a) (by first | exact Or.inr rfl | exact Or.inl rfl) ?_ <;> simp only [VCA, simprocAttr, encL, MCA] | refine callX_of (local_ret x.val.a.path m) (by first | exact Or.inr rfl | exact Or.inl rfl) ?_ <;> simp only [VCA, simprocAttr, encL, MCA] | (unfold InI64; omega) | refine And.intro ?_ ?_)
          all_goals clear hb hb2 hhead hl hc hkn
          all_goals first
            | (refine joinTo_of _ (by first | exact trivial | exact ⟨by omega, by omega⟩) (ent_of _ [] rfl rfl ?_)
               simp only [VCA, simprocAttr, encL, MCA]
               simp [instA, instWant, operB_eq, *]; done)
            | (have hop : instB x m.locals.length m.regions m.code.length = false := by (clear hb3; simp [instB_eq, instA, *])
               rw [hop, Bool.false_and] at hb3
               simp [mayB, ← hb3]; done)
        · rintro c ⟨hx1, hx6⟩
          simp only [VCA, simprocAttr, encL, MCA]
          repeat' (first | refine condDn_of (fun h => ?_) (fun h => ?_) <;> simp only [VCA, simprocAttr, encL, MCA, h] | refine condD_of (fun h => ?_) (fun h => ?_) <;> simp only [VCA, simprocAttr, encL, MCA, h] | refine condVn_of (fun h => ?_) (fun h => ?_) <;> simp only [VCA, simprocAttr, encL, MCA, h] | refine condV_of (fun h => ?_) (fun h => ?_) <;> simp only [VCA, simprocAttr, encL, MCA, h] | refine gdDn_of (fun h => ?_) (fun h => ?_) <;> simp only [VCA, simprocAttr, encL, MCA, h] | refine gdD_of (fun h => ?_) (fun h => ?_) <;> simp only [VCA, simprocAttr, encL, MCA, h] | refine gdVMn_of (fun h => ?_) (fun h => ?_) <;> simp only [VCA, simprocAttr, encL, MCA, h] | refine gdVM_of (fun h => ?_) (fun h => ?_) <;> simp only [VCA, simprocAttr, encL, MCA, h] | refine gpDn_of (fun h => ?_) (fun h => ?_) <;> simp only [VCA, simprocAttr, encL, MCA, h] | refine gpD_of (fun h => ?_) (fun h => ?_) <;> simp only [VCA, simprocAttr, encL, MCA, h] | refine gdVn_of (fun h => ?_) (fun h => ?_) <;> simp only [VCA, simprocAttr, encL, MCA, h] | refine gdV_of (fun h => ?_) (fun h => ?_) <;> simp only [VCA, simprocAttr, encL, MCA, h] | (unfold InI64; omega) | refine And.intro ?_ ?_)
          all_goals try omega
          all_goals try (
            have hop : instB x m.locals.length m.regions m.code.length = false := by (clear hb hb2 hb3 hhead; simp [instB_eq, -List.length_eq_zero_iff, *]; try omega)
            rw [hop, Bool.false_and] at hb3
            simp [mayB, ← hb3]; done)
          rename_i hA
          have hlen := h
          have hxl : x.next.length ≤ 2 := by
            have : instWant x ≤ 2 := by unfold instWant; split <;> (try split) <;> omega
            omega
          refine loop_vcg (ι := Nat × (Nat → Nat)) (fun (j, c) => stO [(1, .box m.cells), (6, .val (.int .i64 k)), (7, .box x.cells), (8, .val (.int .i64 (instWant x))), (11, .val (.int .i64 j))] c)
            (fun (j, _) => j ≤ x.next.length ∧ (x.next.drop j).all (fun i => inB i m.code.length) = x.next.all (fun i => inB i m.code.length)) (fun (j, _) => x.next.length - j) (0, _) ⟨by omega, rfl⟩ (ent_of _ [] rfl rfl (by simp only [VCA, simprocAttr, encL, MCA])) ?_
          rintro ⟨j, c⟩ ⟨hj, hbj⟩
          simp only [VCA, simprocAttr, encL, MCA]
          refine condD_of (fun h => ?_) (fun h => ?_)
          · have hj' : j < x.next.length := by omega
            rw [all_drop _ _ _ hj'] at hbj
            have hjn : 0 ≤ (j : Int) ∧ (j : Int) < x.next.length := by omega
            simp only [VCA, simprocAttr, encL, MCA, hj', hjn]
            repeat' (first | refine condDn_of (fun h => ?_) (fun h => ?_) <;> simp only [VCA, simprocAttr, encL, MCA, h, hj', hjn] | refine condD_of (fun h => ?_) (fun h => ?_) <;> simp only [VCA, simprocAttr, encL, MCA, h, hj', hjn] | refine condVn_of (fun h => ?_) (fun h => ?_) <;> simp only [VCA, simprocAttr, encL, MCA, h, hj', hjn] | refine condV_of (fun h => ?_) (fun h => ?_) <;> simp only [VCA, simprocAttr, encL, MCA, h, hj', hjn] | refine gdDn_of (fun h => ?_) (fun h => ?_) <;> simp only [VCA, simprocAttr, encL, MCA, h, hj', hjn] | refine gdD_of (fun h => ?_) (fun h => ?_) <;> simp only [VCA, simprocAttr, encL, MCA, h, hj', hjn] | refine gdVMn_of (fun h => ?_) (fun h => ?_) <;> simp only [VCA, simprocAttr, encL, MCA, h, hj', hjn] | refine gdVM_of (fun h => ?_) (fun h => ?_) <;> simp only [VCA, simprocAttr, encL, MCA, h, hj', hjn] | refine gpDn_of (fun h => ?_) (fun h => ?_) <;> simp only [VCA, simprocAttr, encL, MCA, h, hj', hjn] | refine gpD_of (fun h => ?_) (fun h => ?_) <;> simp only [VCA, simprocAttr, encL, MCA, h, hj', hjn] | refine gdVn_of (fun h => ?_) (fun h => ?_) <;> simp only [VCA, simprocAttr, encL, MCA, h, hj', hjn] | refine gdV_of (fun h => ?_) (fun h => ?_) <;> simp only [VCA, simprocAttr, encL, MCA, h, hj', hjn] | (unfold InI64; omega) | refine And.intro ?_ ?_)
            all_goals first
              | omega
              | (have hop : inB x.next[j] m.code.length = false := by (clear hb hb2 hb3 hbj; simp only [inB]; simp; omega)
                 rw [hop, Bool.false_and] at hbj
                 rw [instB_eq, ← hbj, Bool.and_false, Bool.and_false, Bool.false_and] at hb3
                 simp [mayB, ← hb3]; done)
              | (have hop : inB x.next[j] m.code.length = true := by (clear hb hb2 hb3 hbj; simp only [inB]; simp; omega)
                 rw [hop, Bool.true_and] at hbj
                 exact backTo_of (j + 1, _) ⟨by omega, hbj⟩ (by simp only []; omega) (ent_of _ [] rfl rfl (by simp only [VCA, simprocAttr, encL, MCA])))
          · have hj' : j = x.next.length := by omega
            subst hj'
            simp only [List.drop_length, List.all_nil] at hbj
            have hw : decide (x.next.length = instWant x) = true := decide_eq_true (by omega)
            rw [instB_eq, ← hbj, hA, hw, Bool.true_and, Bool.true_and, Bool.true_and] at hb3
            simp only [VCA, simprocAttr, encL, MCA]
            exact And.intro (by unfold InI64; omega) (backTo_of (k + 1, _) ⟨by omega, hb3⟩ (by simp only []; omega) (ent_of _ [] rfl rfl (by simp only [VCA, simprocAttr, encL, MCA])))
      · have hk' : k = m.code.length := by omega
        subst hk'
        simp only [List.drop_length, List.all_nil] at hb3
        simp only [VCA, simprocAttr, encL, MCA]
        simp only [mayB, hhead, ← hb, ← hb2, ← hb3, Bool.true_and]

end Go.Proofs.YtlkdcgfjmhjjpaaGreat
