/-
  Ct5 Gf Gg Gh Gi Gj Gk Gl Go Gp Gq Gt Flow Gv Fgj Gu Ct6 Gr Fgk: put together.
-/
import Derived.Test.YtlkdcgfjmhjjpaaGreatGUe
import Derived.Test.YtlkdcgfjmhjjpaaGreatGUd
import Derived.Test.YtlkdcgfjmhjjpaaGreatProg
import Derived.Test.YtlkdcgfjmhjjpaaGreatGUc
set_option linter.unusedSimpArgs false
set_option linter.unusedVariables false
namespace Go.Proofs.YtlkdcgfjmhjjpaaGreat
open Go Go.Lg Go.RowKit
set_option maxRecDepth 20000

theorem local_ret (p : MPath) (m : Mir) : PRet Tryz.prog 44 [.agg p.cells, .agg m.cells] (.bool (inB p.loc m.locals.length)) := by
  refine pret_intro fd44 (by simp) ?_
  simp only [lc44, VC0, VC1, VC2, VC3, VC4, VC5, VC6, VC7, VC8, VC9, reduceIte, reduceCtorEq, Nat.reduceEqDiff, Nat.reduceAdd, Nat.reduceMul, Nat.reduceBEq, Nat.reduceLT, Nat.reduceLeDiff, Int.reduceEq, Int.reduceLT, Int.reduceLE, Int.reduceNeg, Int.reduceToNat, Int.reduceAdd, Nat.reduceDiv, Nat.reduceSub, Nat.reduceMod, encL, MC0, MC1, MC2]
  repeat' (first | refine condDn_of (fun h => ?_) (fun h => ?_) <;> simp only [VC0, VC1, VC2, VC3, VC4, VC5, VC6, VC7, VC8, VC9, reduceIte, reduceCtorEq, Nat.reduceEqDiff, Nat.reduceAdd, Nat.reduceMul, Nat.reduceBEq, Nat.reduceLT, Nat.reduceLeDiff, Int.reduceEq, Int.reduceLT, Int.reduceLE, Int.reduceNeg, Int.reduceToNat, Int.reduceAdd, Nat.reduceDiv, Nat.reduceSub, Nat.reduceMod, encL, MC0, MC1, MC2, h] | refine condD_of (fun h => ?_) (fun h => ?_) <;> simp only [VC0, VC1, VC2, VC3, VC4, VC5, VC6, VC7, VC8, VC9, reduceIte, reduceCtorEq, Nat.reduceEqDiff, Nat.reduceAdd, Nat.reduceMul, Nat.reduceBEq, Nat.reduceLT, Nat.reduceLeDiff, Int.reduceEq, Int.reduceLT, Int.reduceLE, Int.reduceNeg, Int.reduceToNat, Int.reduceAdd, Nat.reduceDiv, Nat.reduceSub, Nat.reduceMod, encL, MC0, MC1, MC2, h] | refine condVn_of (fun h => ?_) (fun h => ?_) <;> simp only [VC0, VC1, VC2, VC3, VC4, VC5, VC6, VC7, VC8, VC9, reduceIte, reduceCtorEq, Nat.reduceEqDiff, Nat.reduceAdd, Nat.reduceMul, Nat.reduceBEq, Nat.reduceLT, Nat.reduceLeDiff, Int.reduceEq, Int.reduceLT, Int.reduceLE, Int.reduceNeg, Int.reduceToNat, Int.reduceAdd, Nat.reduceDiv, Nat.reduceSub, Nat.reduceMod, encL, MC0, MC1, MC2, h] | refine condV_of (fun h => ?_) (fun h => ?_) <;> simp only [VC0, VC1, VC2, VC3, VC4, VC5, VC6, VC7, VC8, VC9, reduceIte, reduceCtorEq, Nat.reduceEqDiff, Nat.reduceAdd, Nat.reduceMul, Nat.reduceBEq, Nat.reduceLT, Nat.reduceLeDiff, Int.reduceEq, Int.reduceLT, Int.reduceLE, Int.reduceNeg, Int.reduceToNat, Int.reduceAdd, Nat.reduceDiv, Nat.reduceSub, Nat.reduceMod, encL, MC0, MC1, MC2, h] | refine gdDn_of (fun h => ?_) (fun h => ?_) <;> simp only [VC0, VC1, VC2, VC3, VC4, VC5, VC6, VC7, VC8, VC9, reduceIte, reduceCtorEq, Nat.reduceEqDiff, Nat.reduceAdd, Nat.reduceMul, Nat.reduceBEq, Nat.reduceLT, Nat.reduceLeDiff, Int.reduceEq, Int.reduceLT, Int.reduceLE, Int.reduceNeg, Int.reduceToNat, Int.reduceAdd, Nat.reduceDiv, Nat.reduceSub, Nat.reduceMod, encL, MC0, MC1, MC2, h] | refine gdD_of (fun h => ?_) (fun h => ?_) <;> simp only [VC0, VC1, VC2, VC3, VC4, VC5, VC6, VC7, VC8, VC9, reduceIte, reduceCtorEq, Nat.reduceEqDiff, Nat.reduceAdd, Nat.reduceMul, Nat.reduceBEq, Nat.reduceLT, Nat.reduceLeDiff, Int.reduceEq, Int.reduceLT, Int.reduceLE, Int.reduceNeg, Int.reduceToNat, Int.reduceAdd, Nat.reduceDiv, Nat.reduceSub, Nat.reduceMod, encL, MC0, MC1, MC2, h] | refine gdVMn_of (fun h => ?_) (fun h => ?_) <;> simp only [VC0, VC1, VC2, VC3, VC4, VC5, VC6, VC7, VC8, VC9, reduceIte, reduceCtorEq, Nat.reduceEqDiff, Nat.reduceAdd, Nat.reduceMul, Nat.reduceBEq, Nat.reduceLT, Nat.reduceLeDiff, Int.reduceEq, Int.reduceLT, Int.reduceLE, Int.reduceNeg, Int.reduceToNat, Int.reduceAdd, Nat.reduceDiv, Nat.reduceSub, Nat.reduceMod, encL, MC0, MC1, MC2, h] | refine gdVM_of (fun h => ?_) (fun h => ?_) <;> simp only [VC0, VC1, VC2, VC3, VC4, VC5, VC6, VC7, VC8, VC9, reduceIte, reduceCtorEq, Nat.reduceEqDiff, Nat.reduceAdd, Nat.reduceMul, Nat.reduceBEq, Nat.reduceLT, Nat.reduceLeDiff, Int.reduceEq, Int.reduceLT, Int.reduceLE, Int.reduceNeg, Int.reduceToNat, Int.reduceAdd, Nat.reduceDiv, Nat.reduceSub, Nat.reduceMod, encL, MC0, MC1, MC2, h] | refine gpDn_of (fun h => ?_) (fun h => ?_) <;> simp only [VC0, VC1, VC2, VC3, VC4, VC5, VC6, VC7, VC8, VC9, reduceIte, reduceCtorEq, Nat.reduceEqDiff, Nat.reduceAdd, Nat.reduceMul, Nat.reduceBEq, Nat.reduceLT, Nat.reduceLeDiff, Int.reduceEq, Int.reduceLT, Int.reduceLE, Int.reduceNeg, Int.reduceToNat, Int.reduceAdd, Nat.reduceDiv, Nat.reduceSub, Nat.reduceMod, encL, MC0, MC1, MC2, h] | refine gpD_of (fun h => ?_) (fun h => ?_) <;> simp only [VC0, VC1, VC2, VC3, VC4, VC5, VC6, VC7, VC8, VC9, reduceIte, reduceCtorEq, Nat.reduceEqDiff, Nat.reduceAdd, Nat.reduceMul, Nat.reduceBEq, Nat.reduceLT, Nat.reduceLeDiff, Int.reduceEq, Int.reduceLT, Int.reduceLE, Int.reduceNeg, Int.reduceToNat, Int.reduceAdd, Nat.reduceDiv, Nat.reduceSub, Nat.reduceMod, encL, MC0, MC1, MC2, h] | refine gdVn_of (fun h => ?_) (fun h => ?_) <;> simp only [VC0, VC1, VC2, VC3, VC4, VC5, VC6, VC7, VC8, VC9, reduceIte, reduceCtorEq, Nat.reduceEqDiff, Nat.reduceAdd, Nat.reduceMul, Nat.reduceBEq, Nat.reduceLT, Nat.reduceLeDiff, Int.reduceEq, Int.reduceLT, Int.reduceLE, Int.reduceNeg, Int.reduceToNat, Int.reduceAdd, Nat.reduceDiv, Nat.reduceSub, Nat.reduceMod, encL, MC0, MC1, MC2, h] | refine gdV_of (fun h => ?_) (fun h => ?_) <;> simp only [VC0, VC1, VC2, VC3, VC4, VC5, VC6, VC7, VC8, VC9, reduceIte, reduceCtorEq, Nat.reduceEqDiff, Nat.reduceAdd, Nat.reduceMul, Nat.reduceBEq, Nat.reduceLT, Nat.reduceLeDiff, Int.reduceEq, Int.reduceLT, Int.reduceLE, Int.reduceNeg, Int.reduceToNat, Int.reduceAdd, Nat.reduceDiv, Nat.reduceSub, Nat.reduceMod, encL, MC0, MC1, MC2, h] | (unfold InI64; omega) | refine And.intro ?_ ?_)
  all_goals simp [inB, *]

def namedB (o : MOper) : Bool := decide (o.kind = 3) || decide (o.kind = 4)
theorem named_ret (o : MOper) : PRet Tryz.prog 45 [.agg o.cells] (.bool (namedB o)) := by
  refine pret_intro fd45 (by simp) ?_
  simp only [lc45, VC0, VC1, VC2, VC3, VC4, VC5, VC6, VC7, VC8, VC9, reduceIte, reduceCtorEq, Nat.reduceEqDiff, Nat.reduceAdd, Nat.reduceMul, Nat.reduceBEq, Nat.reduceLT, Nat.reduceLeDiff, Int.reduceEq, Int.reduceLT, Int.reduceLE, Int.reduceNeg, Int.reduceToNat, Int.reduceAdd, Nat.reduceDiv, Nat.reduceSub, Nat.reduceMod, encL, MC0, MC1, MC2]
  repeat' (first | refine condDn_of (fun h => ?_) (fun h => ?_) <;> simp only [VC0, VC1, VC2, VC3, VC4, VC5, VC6, VC7, VC8, VC9, reduceIte, reduceCtorEq, Nat.reduceEqDiff, Nat.reduceAdd, Nat.reduceMul, Nat.reduceBEq, Nat.reduceLT, Nat.reduceLeDiff, Int.reduceEq, Int.reduceLT, Int.reduceLE, Int.reduceNeg, Int.reduceToNat, Int.reduceAdd, Nat.reduceDiv, Nat.reduceSub, Nat.reduceMod, encL, MC0, MC1, MC2, h] | refine condD_of (fun h => ?_) (fun h => ?_) <;> simp only [VC0, VC1, VC2, VC3, VC4, VC5, VC6, VC7, VC8, VC9, reduceIte, reduceCtorEq, Nat.reduceEqDiff, Nat.reduceAdd, Nat.reduceMul, Nat.reduceBEq, Nat.reduceLT, Nat.reduceLeDiff, Int.reduceEq, Int.reduceLT, Int.reduceLE, Int.reduceNeg, Int.reduceToNat, Int.reduceAdd, Nat.reduceDiv, Nat.reduceSub, Nat.reduceMod, encL, MC0, MC1, MC2, h] | refine condVn_of (fun h => ?_) (fun h => ?_) <;> simp only [VC0, VC1, VC2, VC3, VC4, VC5, VC6, VC7, VC8, VC9, reduceIte, reduceCtorEq, Nat.reduceEqDiff, Nat.reduceAdd, Nat.reduceMul, Nat.reduceBEq, Nat.reduceLT, Nat.reduceLeDiff, Int.reduceEq, Int.reduceLT, Int.reduceLE, Int.reduceNeg, Int.reduceToNat, Int.reduceAdd, Nat.reduceDiv, Nat.reduceSub, Nat.reduceMod, encL, MC0, MC1, MC2, h] | refine condV_of (fun h => ?_) (fun h => ?_) <;> simp only [VC0, VC1, VC2, VC3, VC4, VC5, VC6, VC7, VC8, VC9, reduceIte, reduceCtorEq, Nat.reduceEqDiff, Nat.reduceAdd, Nat.reduceMul, Nat.reduceBEq, Nat.reduceLT, Nat.reduceLeDiff, Int.reduceEq, Int.reduceLT, Int.reduceLE, Int.reduceNeg, Int.reduceToNat, Int.reduceAdd, Nat.reduceDiv, Nat.reduceSub, Nat.reduceMod, encL, MC0, MC1, MC2, h] | refine gdDn_of (fun h => ?_) (fun h => ?_) <;> simp only [VC0, VC1, VC2, VC3, VC4, VC5, VC6, VC7, VC8, VC9, reduceIte, reduceCtorEq, Nat.reduceEqDiff, Nat.reduceAdd, Nat.reduceMul, Nat.reduceBEq, Nat.reduceLT, Nat.reduceLeDiff, Int.reduceEq, Int.reduceLT, Int.reduceLE, Int.reduceNeg, Int.reduceToNat, Int.reduceAdd, Nat.reduceDiv, Nat.reduceSub, Nat.reduceMod, encL, MC0, MC1, MC2, h] | refine gdD_of (fun h => ?_) (fun h => ?_) <;> simp only [VC0, VC1, VC2, VC3, VC4, VC5, VC6, VC7, VC8, VC9, reduceIte, reduceCtorEq, Nat.reduceEqDiff, Nat.reduceAdd, Nat.reduceMul, Nat.reduceBEq, Nat.reduceLT, Nat.reduceLeDiff, Int.reduceEq, Int.reduceLT, Int.reduceLE, Int.reduceNeg, Int.reduceToNat, Int.reduceAdd, Nat.reduceDiv, Nat.reduceSub, Nat.reduceMod, encL, MC0, MC1, MC2, h] | refine gdVMn_of (fun h => ?_) (fun h => ?_) <;> simp only [VC0, VC1, VC2, VC3, VC4, VC5, VC6, VC7, VC8, VC9, reduceIte, reduceCtorEq, Nat.reduceEqDiff, Nat.reduceAdd, Nat.reduceMul, Nat.reduceBEq, Nat.reduceLT, Nat.reduceLeDiff, Int.reduceEq, Int.reduceLT, Int.reduceLE, Int.reduceNeg, Int.reduceToNat, Int.reduceAdd, Nat.reduceDiv, Nat.reduceSub, Nat.reduceMod, encL, MC0, MC1, MC2, h] | refine gdVM_of (fun h => ?_) (fun h => ?_) <;> simp only [VC0, VC1, VC2, VC3, VC4, VC5, VC6, VC7, VC8, VC9, reduceIte, reduceCtorEq, Nat.reduceEqDiff, Nat.reduceAdd, Nat.reduceMul, Nat.reduceBEq, Nat.reduceLT, Nat.reduceLeDiff, Int.reduceEq, Int.reduceLT, Int.reduceLE, Int.reduceNeg, Int.reduceToNat, Int.reduceAdd, Nat.reduceDiv, Nat.reduceSub, Nat.reduceMod, encL, MC0, MC1, MC2, h] | refine gpDn_of (fun h => ?_) (fun h => ?_) <;> simp only [VC0, VC1, VC2, VC3, VC4, VC5, VC6, VC7, VC8, VC9, reduceIte, reduceCtorEq, Nat.reduceEqDiff, Nat.reduceAdd, Nat.reduceMul, Nat.reduceBEq, Nat.reduceLT, Nat.reduceLeDiff, Int.reduceEq, Int.reduceLT, Int.reduceLE, Int.reduceNeg, Int.reduceToNat, Int.reduceAdd, Nat.reduceDiv, Nat.reduceSub, Nat.reduceMod, encL, MC0, MC1, MC2, h] | refine gpD_of (fun h => ?_) (fun h => ?_) <;> simp only [VC0, VC1, VC2, VC3, VC4, VC5, VC6, VC7, VC8, VC9, reduceIte, reduceCtorEq, Nat.reduceEqDiff, Nat.reduceAdd, Nat.reduceMul, Nat.reduceBEq, Nat.reduceLT, Nat.reduceLeDiff, Int.reduceEq, Int.reduceLT, Int.reduceLE, Int.reduceNeg, Int.reduceToNat, Int.reduceAdd, Nat.reduceDiv, Nat.reduceSub, Nat.reduceMod, encL, MC0, MC1, MC2, h] | refine gdVn_of (fun h => ?_) (fun h => ?_) <;> simp only [VC0, VC1, VC2, VC3, VC4, VC5, VC6, VC7, VC8, VC9, reduceIte, reduceCtorEq, Nat.reduceEqDiff, Nat.reduceAdd, Nat.reduceMul, Nat.reduceBEq, Nat.reduceLT, Nat.reduceLeDiff, Int.reduceEq, Int.reduceLT, Int.reduceLE, Int.reduceNeg, Int.reduceToNat, Int.reduceAdd, Nat.reduceDiv, Nat.reduceSub, Nat.reduceMod, encL, MC0, MC1, MC2, h] | refine gdV_of (fun h => ?_) (fun h => ?_) <;> simp only [VC0, VC1, VC2, VC3, VC4, VC5, VC6, VC7, VC8, VC9, reduceIte, reduceCtorEq, Nat.reduceEqDiff, Nat.reduceAdd, Nat.reduceMul, Nat.reduceBEq, Nat.reduceLT, Nat.reduceLeDiff, Int.reduceEq, Int.reduceLT, Int.reduceLE, Int.reduceNeg, Int.reduceToNat, Int.reduceAdd, Nat.reduceDiv, Nat.reduceSub, Nat.reduceMod, encL, MC0, MC1, MC2, h] | (unfold InI64; omega) | refine And.intro ?_ ?_)
  all_goals simp [namedB, *]

/-- The operands that a value's kind names. -/
def opersL (v : MVal) : List MOper := if v.kind = 1 ∨ v.kind = 4 then [v.a] else if v.kind = 5 then [v.a, v.b] else if v.kind = 6 ∨ v.kind = 7 then v.args else []

theorem fill1 (a : MOper) : setCells [.int .i64 0, .int .i64 0, .int .i64 0, .e0] 0 a.cells = a.cells := setCells_all (by rw [MOper.len]; rfl)
theorem fill2 (a b : MOper) : setCells (setCells [.int .i64 0, .int .i64 0, .int .i64 0, .e0, .int .i64 0, .int .i64 0, .int .i64 0, .e0] 0 a.cells) 4 b.cells = a.cells ++ b.cells := by
  simp [setCells, MOper.cells]

theorem opers_ret (v : MVal) : PRet Tryz.prog 24 [.agg v.cells] (encL MOper.cells (opersL v)) := by
  refine pret_intro_l fd24 (by simp) ?_
  simp only [lc24, VC0, VC1, VC2, VC3, VC4, VC5, VC6, VC7, VC8, VC9, reduceIte, reduceCtorEq, Nat.reduceEqDiff, Nat.reduceAdd, Nat.reduceMul, Nat.reduceBEq, Nat.reduceLT, Nat.reduceLeDiff, Int.reduceEq, Int.reduceLT, Int.reduceLE, Int.reduceNeg, Int.reduceToNat, Int.reduceAdd, Nat.reduceDiv, Nat.reduceSub, Nat.reduceMod, encL, MC0, MC1, MC2]
  repeat' (first | refine condDn_of (fun h => ?_) (fun h => ?_) <;> simp only [VC0, VC1, VC2, VC3, VC4, VC5, VC6, VC7, VC8, VC9, reduceIte, reduceCtorEq, Nat.reduceEqDiff, Nat.reduceAdd, Nat.reduceMul, Nat.reduceBEq, Nat.reduceLT, Nat.reduceLeDiff, Int.reduceEq, Int.reduceLT, Int.reduceLE, Int.reduceNeg, Int.reduceToNat, Int.reduceAdd, Nat.reduceDiv, Nat.reduceSub, Nat.reduceMod, encL, MC0, MC1, MC2, h, fill1, fill2, MOper.len, V.cells] | refine condD_of (fun h => ?_) (fun h => ?_) <;> simp only [VC0, VC1, VC2, VC3, VC4, VC5, VC6, VC7, VC8, VC9, reduceIte, reduceCtorEq, Nat.reduceEqDiff, Nat.reduceAdd, Nat.reduceMul, Nat.reduceBEq, Nat.reduceLT, Nat.reduceLeDiff, Int.reduceEq, Int.reduceLT, Int.reduceLE, Int.reduceNeg, Int.reduceToNat, Int.reduceAdd, Nat.reduceDiv, Nat.reduceSub, Nat.reduceMod, encL, MC0, MC1, MC2, h, fill1, fill2, MOper.len, V.cells] | refine condVn_of (fun h => ?_) (fun h => ?_) <;> simp only [VC0, VC1, VC2, VC3, VC4, VC5, VC6, VC7, VC8, VC9, reduceIte, reduceCtorEq, Nat.reduceEqDiff, Nat.reduceAdd, Nat.reduceMul, Nat.reduceBEq, Nat.reduceLT, Nat.reduceLeDiff, Int.reduceEq, Int.reduceLT, Int.reduceLE, Int.reduceNeg, Int.reduceToNat, Int.reduceAdd, Nat.reduceDiv, Nat.reduceSub, Nat.reduceMod, encL, MC0, MC1, MC2, h, fill1, fill2, MOper.len, V.cells] | refine condV_of (fun h => ?_) (fun h => ?_) <;> simp only [VC0, VC1, VC2, VC3, VC4, VC5, VC6, VC7, VC8, VC9, reduceIte, reduceCtorEq, Nat.reduceEqDiff, Nat.reduceAdd, Nat.reduceMul, Nat.reduceBEq, Nat.reduceLT, Nat.reduceLeDiff, Int.reduceEq, Int.reduceLT, Int.reduceLE, Int.reduceNeg, Int.reduceToNat, Int.reduceAdd, Nat.reduceDiv, Nat.reduceSub, Nat.reduceMod, encL, MC0, MC1, MC2, h, fill1, fill2, MOper.len, V.cells] | refine gdDn_of (fun h => ?_) (fun h => ?_) <;> simp only [VC0, VC1, VC2, VC3, VC4, VC5, VC6, VC7, VC8, VC9, reduceIte, reduceCtorEq, Nat.reduceEqDiff, Nat.reduceAdd, Nat.reduceMul, Nat.reduceBEq, Nat.reduceLT, Nat.reduceLeDiff, Int.reduceEq, Int.reduceLT, Int.reduceLE, Int.reduceNeg, Int.reduceToNat, Int.reduceAdd, Nat.reduceDiv, Nat.reduceSub, Nat.reduceMod, encL, MC0, MC1, MC2, h, fill1, fill2, MOper.len, V.cells] | refine gdD_of (fun h => ?_) (fun h => ?_) <;> simp only [VC0, VC1, VC2, VC3, VC4, VC5, VC6, VC7, VC8, VC9, reduceIte, reduceCtorEq, Nat.reduceEqDiff, Nat.reduceAdd, Nat.reduceMul, Nat.reduceBEq, Nat.reduceLT, Nat.reduceLeDiff, Int.reduceEq, Int.reduceLT, Int.reduceLE, Int.reduceNeg, Int.reduceToNat, Int.reduceAdd, Nat.reduceDiv, Nat.reduceSub, Nat.reduceMod, encL, MC0, MC1, MC2, h, fill1, fill2, MOper.len, V.cells] | refine gdVMn_of (fun h => ?_) (fun h => ?_) <;> simp only [VC0, VC1, VC2, VC3, VC4, VC5, VC6, VC7, VC8, VC9, reduceIte, reduceCtorEq, Nat.reduceEqDiff, Nat.reduceAdd, Nat.reduceMul, Nat.reduceBEq, Nat.reduceLT, Nat.reduceLeDiff, Int.reduceEq, Int.reduceLT, Int.reduceLE, Int.reduceNeg, Int.reduceToNat, Int.reduceAdd, Nat.reduceDiv, Nat.reduceSub, Nat.reduceMod, encL, MC0, MC1, MC2, h, fill1, fill2, MOper.len, V.cells] | refine gdVM_of (fun h => ?_) (fun h => ?_) <;> simp only [VC0, VC1, VC2, VC3, VC4, VC5, VC6, VC7, VC8, VC9, reduceIte, reduceCtorEq, Nat.reduceEqDiff, Nat.reduceAdd, Nat.reduceMul, Nat.reduceBEq, Nat.reduceLT, Nat.reduceLeDiff, Int.reduceEq, Int.reduceLT, Int.reduceLE, Int.reduceNeg, Int.reduceToNat, Int.reduceAdd, Nat.reduceDiv, Nat.reduceSub, Nat.reduceMod, encL, MC0, MC1, MC2, h, fill1, fill2, MOper.len, V.cells] | refine gpDn_of (fun h => ?_) (fun h => ?_) <;> simp only [VC0, VC1, VC2, VC3, VC4, VC5, VC6, VC7, VC8, VC9, reduceIte, reduceCtorEq, Nat.reduceEqDiff, Nat.reduceAdd, Nat.reduceMul, Nat.reduceBEq, Nat.reduceLT, Nat.reduceLeDiff, Int.reduceEq, Int.reduceLT, Int.reduceLE, Int.reduceNeg, Int.reduceToNat, Int.reduceAdd, Nat.reduceDiv, Nat.reduceSub, Nat.reduceMod, encL, MC0, MC1, MC2, h, fill1, fill2, MOper.len, V.cells] | refine gpD_of (fun h => ?_) (fun h => ?_) <;> simp only [VC0, VC1, VC2, VC3, VC4, VC5, VC6, VC7, VC8, VC9, reduceIte, reduceCtorEq, Nat.reduceEqDiff, Nat.reduceAdd, Nat.reduceMul, Nat.reduceBEq, Nat.reduceLT, Nat.reduceLeDiff, Int.reduceEq, Int.reduceLT, Int.reduceLE, Int.reduceNeg, Int.reduceToNat, Int.reduceAdd, Nat.reduceDiv, Nat.reduceSub, Nat.reduceMod, encL, MC0, MC1, MC2, h, fill1, fill2, MOper.len, V.cells] | refine gdVn_of (fun h => ?_) (fun h => ?_) <;> simp only [VC0, VC1, VC2, VC3, VC4, VC5, VC6, VC7, VC8, VC9, reduceIte, reduceCtorEq, Nat.reduceEqDiff, Nat.reduceAdd, Nat.reduceMul, Nat.reduceBEq, Nat.reduceLT, Nat.reduceLeDiff, Int.reduceEq, Int.reduceLT, Int.reduceLE, Int.reduceNeg, Int.reduceToNat, Int.reduceAdd, Nat.reduceDiv, Nat.reduceSub, Nat.reduceMod, encL, MC0, MC1, MC2, h, fill1, fill2, MOper.len, V.cells] | refine gdV_of (fun h => ?_) (fun h => ?_) <;> simp only [VC0, VC1, VC2, VC3, VC4, VC5, VC6, VC7, VC8, VC9, reduceIte, reduceCtorEq, Nat.reduceEqDiff, Nat.reduceAdd, Nat.reduceMul, Nat.reduceBEq, Nat.reduceLT, Nat.reduceLeDiff, Int.reduceEq, Int.reduceLT, Int.reduceLE, Int.reduceNeg, Int.reduceToNat, Int.reduceAdd, Nat.reduceDiv, Nat.reduceSub, Nat.reduceMod, encL, MC0, MC1, MC2, h, fill1, fill2, MOper.len, V.cells] | (unfold InI64; omega) | refine And.intro ?_ ?_)
  all_goals simp [opersL, fill1, fill2, encL, MOper.len, V.cells, partsOk, fillL, V.known, *]
  exact ⟨List.all_eq_true.1 (MOper.imvc _ 2), List.all_eq_true.1 (MOper.imvc _ 2)⟩

theorem opersL_len (v : MVal) (hv : v.ok) : (opersL v).length ≤ 9223372036854775807 := by
  obtain ⟨_, _, _, _, _, _, _, _, ha, _⟩ := hv
  rw [maxLen_eq] at ha
  unfold opersL
  split
  · simp
  · split
    · simp
    · split
      · exact ha
      · simp

theorem operB_eq (o : MOper) (n : Int) : operB o n = (!decide (o.kind < 1) && !decide (4 < o.kind) && (!namedB o || inB o.path.loc n)) := by
  unfold operB namedB
  by_cases h1 : o.kind = 1 ∨ o.kind = 2
  · rw [if_pos h1]
    rcases h1 with h | h <;> simp [h]
  · rw [if_neg h1]
    by_cases h2 : o.kind = 3 ∨ o.kind = 4
    · rw [if_pos h2]
      rcases h2 with h | h <;> simp [h]
    · rw [if_neg h2]
      simp
      omega

theorem valB_eq (v : MVal) (n r : Int) : valB v n r = ((opersL v).all (fun o => operB o n) && (if v.kind = 2 ∨ v.kind = 3 then inB v.path.loc n && inB v.region r else (if v.kind = 6 ∨ v.kind = 7 then v.regions.all (fun i => inB i r) else true) && decide (1 ≤ v.kind) && decide (v.kind ≤ 7))) := by
  unfold valB opersL
  by_cases h1 : v.kind = 2 ∨ v.kind = 3
  · have : ¬ (v.kind = 1 ∨ v.kind = 4) := by omega
    have h5 : ¬ v.kind = 5 := by omega
    have h6 : ¬ (v.kind = 6 ∨ v.kind = 7) := by omega
    simp only [h1, this, h5, h6, if_true, if_false, List.all_nil, Bool.true_and]
  · by_cases h5 : v.kind = 5
    · simp [h5, Bool.and_comm]
    · by_cases h4 : v.kind = 1 ∨ v.kind = 4
      · rcases h4 with h | h <;> simp [h]
      · by_cases h6 : v.kind = 6 ∨ v.kind = 7
        · rcases h6 with h | h <;> simp [h, Bool.and_comm]
        · simp [h1, h5, h4, h6]
          omega

theorem value16_ret (v : MVal) (hv : v.ok) (m : Mir) : PRet Tryz.prog 43 [.agg v.cells, .agg m.cells] (.bool (valB v m.locals.length m.regions)) := by
  have hol := opersL_len v hv
  obtain ⟨_, _, _, _, _, _, _, ⟨hr, _⟩, ha, _⟩ := hv
  rw [maxLen_eq] at ha hr
  refine pret_intro fd43 (by simp) ?_
  simp only [lc43, VC0, VC1, VC2, VC3, VC4, VC5, VC6, VC7, VC8, VC9, reduceIte, reduceCtorEq, Nat.reduceEqDiff, Nat.reduceAdd, Nat.reduceMul, Nat.reduceBEq, Nat.reduceLT, Nat.reduceLeDiff, Int.reduceEq, Int.reduceLT, Int.reduceLE, Int.reduceNeg, Int.reduceToNat, Int.reduceAdd, Nat.reduceDiv, Nat.reduceSub, Nat.reduceMod, encL, MC0, MC1, MC2]
  refine callX_of (opers_ret v) (.inl rfl) ?_
  simp only [VC0, VC1, VC2, VC3, VC4, VC5, VC6, VC7, VC8, VC9, reduceIte, reduceCtorEq, Nat.reduceEqDiff, Nat.reduceAdd, Nat.reduceMul, Nat.reduceBEq, Nat.reduceLT, Nat.reduceLeDiff, Int.reduceEq, Int.reduceLT, Int.reduceLE, Int.reduceNeg, Int.reduceToNat, Int.reduceAdd, Nat.reduceDiv, Nat.reduceSub, Nat.reduceMod, encL, MC0, MC1, MC2]
  refine loop_vcg (ι := Nat × (Nat → Nat)) (fun (k, c) => stO [(2, .box v.cells), (3, .box m.cells), (5, .val (encL MOper.cells (opersL v))), (6, .val (.int .i64 k))] c)
    (fun (k, _) => k ≤ (opersL v).length ∧ ((opersL v).drop k).all (fun o => operB o m.locals.length) = (opersL v).all (fun o => operB o m.locals.length)) (fun (k, _) => (opersL v).length - k) (0, _) ⟨by omega, rfl⟩ (ent_of _ [] rfl rfl (by simp only [VC0, VC1, VC2, VC3, VC4, VC5, VC6, VC7, VC8, VC9, reduceIte, reduceCtorEq, Nat.reduceEqDiff, Nat.reduceAdd, Nat.reduceMul, Nat.reduceBEq, Nat.reduceLT, Nat.reduceLeDiff, Int.reduceEq, Int.reduceLT, Int.reduceLE, Int.reduceNeg, Int.reduceToNat, Int.reduceAdd, Nat.reduceDiv, Nat.reduceSub, Nat.reduceMod, encL, MC0, MC1, MC2])) ?_
  rintro ⟨k, c⟩ ⟨hk, hb⟩
  simp only [VC0, VC1, VC2, VC3, VC4, VC5, VC6, VC7, VC8, VC9, reduceIte, reduceCtorEq, Nat.reduceEqDiff, Nat.reduceAdd, Nat.reduceMul, Nat.reduceBEq, Nat.reduceLT, Nat.reduceLeDiff, Int.reduceEq, Int.reduceLT, Int.reduceLE, Int.reduceNeg, Int.reduceToNat, Int.reduceAdd, Nat.reduceDiv, Nat.reduceSub, Nat.reduceMod, encL, MC0, MC1, MC2]
  refine condD_of (fun h => ?_) (fun h => ?_)
  · have hk' : k < (opersL v).length := by omega
    rw [all_drop _ _ _ hk'] at hb
    have hin : 0 ≤ (k : Int) ∧ (k : Int) < (opersL v).length := by omega
    simp only [VC0, VC1, VC2, VC3, VC4, VC5, VC6, VC7, VC8, VC9, reduceIte, reduceCtorEq, Nat.reduceEqDiff, Nat.reduceAdd, Nat.reduceMul, Nat.reduceBEq, Nat.reduceLT, Nat.reduceLeDiff, Int.reduceEq, Int.reduceLT, Int.reduceLE, Int.reduceNeg, Int.reduceToNat, Int.reduceAdd, Nat.reduceDiv, Nat.reduceSub, Nat.reduceMod, encL, MC0, MC1, MC2, hk', hin]
    repeat' (first | refine condDn_of (fun h => ?_) (fun h => ?_) <;> simp only [VC0, VC1, VC2, VC3, VC4, VC5, VC6, VC7, VC8, VC9, reduceIte, reduceCtorEq, Nat.reduceEqDiff, Nat.reduceAdd, Nat.reduceMul, Nat.reduceBEq, Nat.reduceLT, Nat.reduceLeDiff, Int.reduceEq, Int.reduceLT, Int.reduceLE, Int.reduceNeg, Int.reduceToNat, Int.reduceAdd, Nat.reduceDiv, Nat.reduceSub, Nat.reduceMod, encL, MC0, MC1, MC2, h, hk', hin] | refine condD_of (fun h => ?_) (fun h => ?_) <;> simp only [VC0, VC1, VC2, VC3, VC4, VC5, VC6, VC7, VC8, VC9, reduceIte, reduceCtorEq, Nat.reduceEqDiff, Nat.reduceAdd, Nat.reduceMul, Nat.reduceBEq, Nat.reduceLT, Nat.reduceLeDiff, Int.reduceEq, Int.reduceLT, Int.reduceLE, Int.reduceNeg, Int.reduceToNat, Int.reduceAdd, Nat.reduceDiv, Nat.reduceSub, Nat.reduceMod, encL, MC0, MC1, MC2, h, hk', hin] | refine condVn_of (fun h => ?_) (fun h => ?_) <;> simp only [VC0, VC1, VC2, VC3, VC4, VC5, VC6, VC7, VC8, VC9, reduceIte, reduceCtorEq, Nat.reduceEqDiff, Nat.reduceAdd, Nat.reduceMul, Nat.reduceBEq, Nat.reduceLT, Nat.reduceLeDiff, Int.reduceEq, Int.reduceLT, Int.reduceLE, Int.reduceNeg, Int.reduceToNat, Int.reduceAdd, Nat.reduceDiv, Nat.reduceSub, Nat.reduceMod, encL, MC0, MC1, MC2, h, hk', hin] | refine condV_of (fun h => ?_) (fun h => ?_) <;> simp only [VC0, VC1, VC2, VC3, VC4, VC5, VC6, VC7, VC8, VC9, reduceIte, reduceCtorEq, Nat.reduceEqDiff, Nat.reduceAdd, Nat.reduceMul, Nat.reduceBEq, Nat.reduceLT, Nat.reduceLeDiff, Int.reduceEq, Int.reduceLT, Int.reduceLE, Int.reduceNeg, Int.reduceToNat, Int.reduceAdd, Nat.reduceDiv, Nat.reduceSub, Nat.reduceMod, encL, MC0, MC1, MC2, h, hk', hin] | refine gdDn_of (fun h => ?_) (fun h => ?_) <;> simp only [VC0, VC1, VC2, VC3, VC4, VC5, VC6, VC7, VC8, VC9, reduceIte, reduceCtorEq, Nat.reduceEqDiff, Nat.reduceAdd, Nat.reduceMul, Nat.reduceBEq, Nat.reduceLT, Nat.reduceLeDiff, Int.reduceEq, Int.reduceLT, Int.reduceLE, Int.reduceNeg, Int.reduceToNat, Int.reduceAdd, Nat.reduceDiv, Nat.reduceSub, Nat.reduceMod, encL, MC0, MC1, MC2, h, hk', hin] | refine gdD_of (fun h => ?_) (fun h => ?_) <;> simp only [VC0, VC1, VC2, VC3, VC4, VC5, VC6, VC7, VC8, VC9, reduceIte, reduceCtorEq, Nat.reduceEqDiff, Nat.reduceAdd, Nat.reduceMul, Nat.reduceBEq, Nat.reduceLT, Nat.reduceLeDiff, Int.reduceEq, Int.reduceLT, Int.reduceLE, Int.reduceNeg, Int.reduceToNat, Int.reduceAdd, Nat.reduceDiv, Nat.reduceSub, Nat.reduceMod, encL, MC0, MC1, MC2, h, hk', hin] | refine gdVMn_of (fun h => ?_) (fun h => ?_) <;> simp only [VC0, VC1, VC2, VC3, VC4, VC5, VC6, VC7, VC8, VC9, reduceIte, reduceCtorEq, Nat.reduceEqDiff, Nat.reduceAdd, Nat.reduceMul, Nat.reduceBEq, Nat.reduceLT, Nat.reduceLeDiff, Int.reduceEq, Int.reduceLT, Int.reduceLE, Int.reduceNeg, Int.reduceToNat, Int.reduceAdd, Nat.reduceDiv, Nat.reduceSub, Nat.reduceMod, encL, MC0, MC1, MC2, h, hk', hin] | refine gdVM_of (fun h => ?_) (fun h => ?_) <;> simp only [VC0, VC1, VC2, VC3, VC4, VC5, VC6, VC7, VC8, VC9, reduceIte, reduceCtorEq, Nat.reduceEqDiff, Nat.reduceAdd, Nat.reduceMul, Nat.reduceBEq, Nat.reduceLT, Nat.reduceLeDiff, Int.reduceEq, Int.reduceLT, Int.reduceLE, Int.reduceNeg, Int.reduceToNat, Int.reduceAdd, Nat.reduceDiv, Nat.reduceSub, Nat.reduceMod, encL, MC0, MC1, MC2, h, hk', hin] | refine gpDn_of (fun h => ?_) (fun h => ?_) <;> simp only [VC0, VC1, VC2, VC3, VC4, VC5, VC6, VC7, VC8, VC9, reduceIte, reduceCtorEq, Nat.reduceEqDiff, Nat.reduceAdd, Nat.reduceMul, Nat.reduceBEq, Nat.reduceLT, Nat.reduceLeDiff, Int.reduceEq, Int.reduceLT, Int.reduceLE, Int.reduceNeg, Int.reduceToNat, Int.reduceAdd, Nat.reduceDiv, Nat.reduceSub, Nat.reduceMod, encL, MC0, MC1, MC2, h, hk', hin] | refine gpD_of (fun h => ?_) (fun h => ?_) <;> simp only [VC0, VC1, VC2, VC3, VC4, VC5, VC6, VC7, VC8, VC9, reduceIte, reduceCtorEq, Nat.reduceEqDiff, Nat.reduceAdd, Nat.reduceMul, Nat.reduceBEq, Nat.reduceLT, Nat.reduceLeDiff, Int.reduceEq, Int.reduceLT, Int.reduceLE, Int.reduceNeg, Int.reduceToNat, Int.reduceAdd, Nat.reduceDiv, Nat.reduceSub, Nat.reduceMod, encL, MC0, MC1, MC2, h, hk', hin] | refine gdVn_of (fun h => ?_) (fun h => ?_) <;> simp only [VC0, VC1, VC2, VC3, VC4, VC5, VC6, VC7, VC8, VC9, reduceIte, reduceCtorEq, Nat.reduceEqDiff, Nat.reduceAdd, Nat.reduceMul, Nat.reduceBEq, Nat.reduceLT, Nat.reduceLeDiff, Int.reduceEq, Int.reduceLT, Int.reduceLE, Int.reduceNeg, Int.reduceToNat, Int.reduceAdd, Nat.reduceDiv, Nat.reduceSub, Nat.reduceMod, encL, MC0, MC1, MC2, h, hk', hin] | refine gdV_of (fun h => ?_) (fun h => ?_) <;> simp only [VC0, VC1, VC2, VC3, VC4, VC5, VC6, VC7, VC8, VC9, reduceIte, reduceCtorEq, Nat.reduceEqDiff, Nat.reduceAdd, Nat.reduceMul, Nat.reduceBEq, Nat.reduceLT, Nat.reduceLeDiff, Int.reduceEq, Int.reduceLT, Int.reduceLE, Int.reduceNeg, Int.reduceToNat, Int.reduceAdd, Nat.reduceDiv, Nat.reduceSub, Nat.reduceMod, encL, MC0, MC1, MC2, h, hk', hin] | refine callV_of (named_ret _) (by first | exact Or.inr rfl | exact Or.inl rfl) ?_ <;> simp only [VC0, VC1, VC2, VC3, VC4, VC5, VC6, VC7, VC8, VC9, reduceIte, reduceCtorEq, Nat.reduceEqDiff, Nat.reduceAdd, Nat.reduceMul, Nat.reduceBEq, Nat.reduceLT, Nat.reduceLeDiff, Int.reduceEq, Int.reduceLT, Int.reduceLE, Int.reduceNeg, Int.reduceToNat, Int.reduceAdd, Nat.reduceDiv, Nat.reduceSub, Nat.reduceMod, encL, MC0, MC1, MC2, hk', hin] | refine callV_of (local_ret _ m) (by first | exact Or.inr rfl | exact Or.inl rfl) ?_ <;> simp only [VC0, VC1, VC2, VC3, VC4, VC5, VC6, VC7, VC8, VC9, reduceIte, reduceCtorEq, Nat.reduceEqDiff, Nat.reduceAdd, Nat.reduceMul, Nat.reduceBEq, Nat.reduceLT, Nat.reduceLeDiff, Int.reduceEq, Int.reduceLT, Int.reduceLE, Int.reduceNeg, Int.reduceToNat, Int.reduceAdd, Nat.reduceDiv, Nat.reduceSub, Nat.reduceMod, encL, MC0, MC1, MC2, hk', hin] | (unfold InI64; omega) | refine And.intro ?_ ?_)
    all_goals first
      | (have hop : operB (opersL v)[k] m.locals.length = false := by (rw [operB_eq]; clear hb; simp [*])
         rw [hop] at hb
         rw [valB_eq, ← hb, Bool.false_and, Bool.false_and]; done)
      | (have hop : operB (opersL v)[k] m.locals.length = true := by (rw [operB_eq]; clear hb; simp [*])
         rw [hop] at hb
         exact backTo_of (k + 1, _) ⟨by omega, hb⟩ (by simp only []; omega) (ent_of _ [] rfl rfl (by simp only [VC0, VC1, VC2, VC3, VC4, VC5, VC6, VC7, VC8, VC9, reduceIte, reduceCtorEq, Nat.reduceEqDiff, Nat.reduceAdd, Nat.reduceMul, Nat.reduceBEq, Nat.reduceLT, Nat.reduceLeDiff, Int.reduceEq, Int.reduceLT, Int.reduceLE, Int.reduceNeg, Int.reduceToNat, Int.reduceAdd, Nat.reduceDiv, Nat.reduceSub, Nat.reduceMod, encL, MC0, MC1, MC2])))
  · have hk' : k = (opersL v).length := by omega
    subst hk'
    simp only [List.drop_length, List.all_nil] at hb
    simp only [VC0, VC1, VC2, VC3, VC4, VC5, VC6, VC7, VC8, VC9, reduceIte, reduceCtorEq, Nat.reduceEqDiff, Nat.reduceAdd, Nat.reduceMul, Nat.reduceBEq, Nat.reduceLT, Nat.reduceLeDiff, Int.reduceEq, Int.reduceLT, Int.reduceLE, Int.reduceNeg, Int.reduceToNat, Int.reduceAdd, Nat.reduceDiv, Nat.reduceSub, Nat.reduceMod, encL, MC0, MC1, MC2]
    clear h hk
    have hall := hb.symm
    clear hb
    rw [valB_eq, hall, Bool.true_and]
    clear hall
    repeat' (first | refine condDn_of (fun h => ?_) (fun h => ?_) <;> simp only [VC0, VC1, VC2, VC3, VC4, VC5, VC6, VC7, VC8, VC9, reduceIte, reduceCtorEq, Nat.reduceEqDiff, Nat.reduceAdd, Nat.reduceMul, Nat.reduceBEq, Nat.reduceLT, Nat.reduceLeDiff, Int.reduceEq, Int.reduceLT, Int.reduceLE, Int.reduceNeg, Int.reduceToNat, Int.reduceAdd, Nat.reduceDiv, Nat.reduceSub, Nat.reduceMod, encL, MC0, MC1, MC2, h] | refine condD_of (fun h => ?_) (fun h => ?_) <;> simp only [VC0, VC1, VC2, VC3, VC4, VC5, VC6, VC7, VC8, VC9, reduceIte, reduceCtorEq, Nat.reduceEqDiff, Nat.reduceAdd, Nat.reduceMul, Nat.reduceBEq, Nat.reduceLT, Nat.reduceLeDiff, Int.reduceEq, Int.reduceLT, Int.reduceLE, Int.reduceNeg, Int.reduceToNat, Int.reduceAdd, Nat.reduceDiv, Nat.reduceSub, Nat.reduceMod, encL, MC0, MC1, MC2, h] | refine condVn_of (fun h => ?_) (fun h => ?_) <;> simp only [VC0, VC1, VC2, VC3, VC4, VC5, VC6, VC7, VC8, VC9, reduceIte, reduceCtorEq, Nat.reduceEqDiff, Nat.reduceAdd, Nat.reduceMul, Nat.reduceBEq, Nat.reduceLT, Nat.reduceLeDiff, Int.reduceEq, Int.reduceLT, Int.reduceLE, Int.reduceNeg, Int.reduceToNat, Int.reduceAdd, Nat.reduceDiv, Nat.reduceSub, Nat.reduceMod, encL, MC0, MC1, MC2, h] | refine condV_of (fun h => ?_) (fun h => ?_) <;> simp only [VC0, VC1, VC2, VC3, VC4, VC5, VC6, VC7, VC8, VC9, reduceIte, reduceCtorEq, Nat.reduceEqDiff, Nat.reduceAdd, Nat.reduceMul, Nat.reduceBEq, Nat.reduceLT, Nat.reduceLeDiff, Int.reduceEq, Int.reduceLT, Int.reduceLE, Int.reduceNeg, Int.reduceToNat, Int.reduceAdd, Nat.reduceDiv, Nat.reduceSub, Nat.reduceMod, encL, MC0, MC1, MC2, h] | refine gdDn_of (fun h => ?_) (fun h => ?_) <;> simp only [VC0, VC1, VC2, VC3, VC4, VC5, VC6, VC7, VC8, VC9, reduceIte, reduceCtorEq, Nat.reduceEqDiff, Nat.reduceAdd, Nat.reduceMul, Nat.reduceBEq, Nat.reduceLT, Nat.reduceLeDiff, Int.reduceEq, Int.reduceLT, Int.reduceLE, Int.reduceNeg, Int.reduceToNat, Int.reduceAdd, Nat.reduceDiv, Nat.reduceSub, Nat.reduceMod, encL, MC0, MC1, MC2, h] | refine gdD_of (fun h => ?_) (fun h => ?_) <;> simp only [VC0, VC1, VC2, VC3, VC4, VC5, VC6, VC7, VC8, VC9, reduceIte, reduceCtorEq, Nat.reduceEqDiff, Nat.reduceAdd, Nat.reduceMul, Nat.reduceBEq, Nat.reduceLT, Nat.reduceLeDiff, Int.reduceEq, Int.reduceLT, Int.reduceLE, Int.reduceNeg, Int.reduceToNat, Int.reduceAdd, Nat.reduceDiv, Nat.reduceSub, Nat.reduceMod, encL, MC0, MC1, MC2, h] | refine gdVMn_of (fun h => ?_) (fun h => ?_) <;> simp only [VC0, VC1, VC2, VC3, VC4, VC5, VC6, VC7, VC8, VC9, reduceIte, reduceCtorEq, Nat.reduceEqDiff, Nat.reduceAdd, Nat.reduceMul, Nat.reduceBEq, Nat.reduceLT, Nat.reduceLeDiff, Int.reduceEq, Int.reduceLT, Int.reduceLE, Int.reduceNeg, Int.reduceToNat, Int.reduceAdd, Nat.reduceDiv, Nat.reduceSub, Nat.reduceMod, encL, MC0, MC1, MC2, h] | refine gdVM_of (fun h => ?_) (fun h => ?_) <;> simp only [VC0, VC1, VC2, VC3, VC4, VC5, VC6, VC7, VC8, VC9, reduceIte, reduceCtorEq, Nat.reduceEqDiff, Nat.reduceAdd, Nat.reduceMul, Nat.reduceBEq, Nat.reduceLT, Nat.reduceLeDiff, Int.reduceEq, Int.reduceLT, Int.reduceLE, Int.reduceNeg, Int.reduceToNat, Int.reduceAdd, Nat.reduceDiv, Nat.reduceSub, Nat.reduceMod, encL, MC0, MC1, MC2, h] | refine gpDn_of (fun h => ?_) (fun h => ?_) <;> simp only [VC0, VC1, VC2, VC3, VC4, VC5, VC6, VC7, VC8, VC9, reduceIte, reduceCtorEq, Nat.reduceEqDiff, Nat.reduceAdd, Nat.reduceMul, Nat.reduceBEq, Nat.reduceLT, Nat.reduceLeDiff, Int.reduceEq, Int.reduceLT, Int.reduceLE, Int.reduceNeg, Int.reduceToNat, Int.reduceAdd, Nat.reduceDiv, Nat.reduceSub, Nat.reduceMod, encL, MC0, MC1, MC2, h] | refine gpD_of (fun h => ?_) (fun h => ?_) <;> simp only [VC0, VC1, VC2, VC3, VC4, VC5, VC6, VC7, VC8, VC9, reduceIte, reduceCtorEq, Nat.reduceEqDiff, Nat.reduceAdd, Nat.reduceMul, Nat.reduceBEq, Nat.reduceLT, Nat.reduceLeDiff, Int.reduceEq, Int.reduceLT, Int.reduceLE, Int.reduceNeg, Int.reduceToNat, Int.reduceAdd, Nat.reduceDiv, Nat.reduceSub, Nat.reduceMod, encL, MC0, MC1, MC2, h] | refine gdVn_of (fun h => ?_) (fun h => ?_) <;> simp only [VC0, VC1, VC2, VC3, VC4, VC5, VC6, VC7, VC8, VC9, reduceIte, reduceCtorEq, Nat.reduceEqDiff, Nat.reduceAdd, Nat.reduceMul, Nat.reduceBEq, Nat.reduceLT, Nat.reduceLeDiff, Int.reduceEq, Int.reduceLT, Int.reduceLE, Int.reduceNeg, Int.reduceToNat, Int.reduceAdd, Nat.reduceDiv, Nat.reduceSub, Nat.reduceMod, encL, MC0, MC1, MC2, h] | refine gdV_of (fun h => ?_) (fun h => ?_) <;> simp only [VC0, VC1, VC2, VC3, VC4, VC5, VC6, VC7, VC8, VC9, reduceIte, reduceCtorEq, Nat.reduceEqDiff, Nat.reduceAdd, Nat.reduceMul, Nat.reduceBEq, Nat.reduceLT, Nat.reduceLeDiff, Int.reduceEq, Int.reduceLT, Int.reduceLE, Int.reduceNeg, Int.reduceToNat, Int.reduceAdd, Nat.reduceDiv, Nat.reduceSub, Nat.reduceMod, encL, MC0, MC1, MC2, h] | refine callX_of (local_ret _ m) (by first | exact Or.inr rfl | exact Or.inl rfl) ?_ <;> simp only [VC0, VC1, VC2, VC3, VC4, VC5, VC6, VC7, VC8, VC9, reduceIte, reduceCtorEq, Nat.reduceEqDiff, Nat.reduceAdd, Nat.reduceMul, Nat.reduceBEq, Nat.reduceLT, Nat.reduceLeDiff, Int.reduceEq, Int.reduceLT, Int.reduceLE, Int.reduceNeg, Int.reduceToNat, Int.reduceAdd, Nat.reduceDiv, Nat.reduceSub, Nat.reduceMod, encL, MC0, MC1, MC2] | (unfold InI64; omega) | refine And.intro ?_ ?_)
    all_goals try (simp [inB, *]; done)
    all_goals try (simp [inB, *]; omega)
    all_goals
      have h67 : v.kind = 6 ∨ v.kind = 7 := by omega
      have h23 : ¬ (v.kind = 2 ∨ v.kind = 3) := by omega
      have h17 : decide (1 ≤ v.kind) = true ∧ decide (v.kind ≤ 7) = true := ⟨decide_eq_true (by omega), decide_eq_true (by omega)⟩
      try simp only [h23, h67, h17, if_true, if_false, Bool.and_true]
      clear h
      refine loop_vcg (ι := Nat × (Nat → Nat)) (fun (k, c) => stO [(2, .box v.cells), (3, .box m.cells), (7, .val (.int .i64 k))] c)
        (fun (k, _) => k ≤ v.regions.length ∧ (v.regions.drop k).all (fun i => inB i m.regions) = v.regions.all (fun i => inB i m.regions)) (fun (k, _) => v.regions.length - k) (0, _) ⟨by omega, rfl⟩ (ent_of _ [] rfl rfl (by simp only [VC0, VC1, VC2, VC3, VC4, VC5, VC6, VC7, VC8, VC9, reduceIte, reduceCtorEq, Nat.reduceEqDiff, Nat.reduceAdd, Nat.reduceMul, Nat.reduceBEq, Nat.reduceLT, Nat.reduceLeDiff, Int.reduceEq, Int.reduceLT, Int.reduceLE, Int.reduceNeg, Int.reduceToNat, Int.reduceAdd, Nat.reduceDiv, Nat.reduceSub, Nat.reduceMod, encL, MC0, MC1, MC2])) ?_
      rintro ⟨k, c⟩ ⟨hk, hb⟩
      simp only [VC0, VC1, VC2, VC3, VC4, VC5, VC6, VC7, VC8, VC9, reduceIte, reduceCtorEq, Nat.reduceEqDiff, Nat.reduceAdd, Nat.reduceMul, Nat.reduceBEq, Nat.reduceLT, Nat.reduceLeDiff, Int.reduceEq, Int.reduceLT, Int.reduceLE, Int.reduceNeg, Int.reduceToNat, Int.reduceAdd, Nat.reduceDiv, Nat.reduceSub, Nat.reduceMod, encL, MC0, MC1, MC2]
      refine condD_of (fun h => ?_) (fun h => ?_)
      · have hk' : k < v.regions.length := by omega
        rw [all_drop _ _ _ hk'] at hb
        have hin : 0 ≤ (k : Int) ∧ (k : Int) < v.regions.length := by omega
        simp only [VC0, VC1, VC2, VC3, VC4, VC5, VC6, VC7, VC8, VC9, reduceIte, reduceCtorEq, Nat.reduceEqDiff, Nat.reduceAdd, Nat.reduceMul, Nat.reduceBEq, Nat.reduceLT, Nat.reduceLeDiff, Int.reduceEq, Int.reduceLT, Int.reduceLE, Int.reduceNeg, Int.reduceToNat, Int.reduceAdd, Nat.reduceDiv, Nat.reduceSub, Nat.reduceMod, encL, MC0, MC1, MC2, hk', hin]
        repeat' (first | refine condDn_of (fun h => ?_) (fun h => ?_) <;> simp only [VC0, VC1, VC2, VC3, VC4, VC5, VC6, VC7, VC8, VC9, reduceIte, reduceCtorEq, Nat.reduceEqDiff, Nat.reduceAdd, Nat.reduceMul, Nat.reduceBEq, Nat.reduceLT, Nat.reduceLeDiff, Int.reduceEq, Int.reduceLT, Int.reduceLE, Int.reduceNeg, Int.reduceToNat, Int.reduceAdd, Nat.reduceDiv, Nat.reduceSub, Nat.reduceMod, encL, MC0, MC1, MC2, h, hk', hin] | refine condD_of (fun h => ?_) (fun h => ?_) <;> simp only [VC0, VC1, VC2, VC3, VC4, VC5, VC6, VC7, VC8, VC9, reduceIte, reduceCtorEq, Nat.reduceEqDiff, Nat.reduceAdd, Nat.reduceMul, Nat.reduceBEq, Nat.reduceLT, Nat.reduceLeDiff, Int.reduceEq, Int.reduceLT, Int.reduceLE, Int.reduceNeg, Int.reduceToNat, Int.reduceAdd, Nat.reduceDiv, Nat.reduceSub, Nat.reduceMod, encL, MC0, MC1, MC2, h, hk', hin] | refine condVn_of (fun h => ?_) (fun h => ?_) <;> simp only [VC0, VC1, VC2, VC3, VC4, VC5, VC6, VC7, VC8, VC9, reduceIte, reduceCtorEq, Nat.reduceEqDiff, Nat.reduceAdd, Nat.reduceMul, Nat.reduceBEq, Nat.reduceLT, Nat.reduceLeDiff, Int.reduceEq, Int.reduceLT, Int.reduceLE, Int.reduceNeg, Int.reduceToNat, Int.reduceAdd, Nat.reduceDiv, Nat.reduceSub, Nat.reduceMod, encL, MC0, MC1, MC2, h, hk', hin] | refine condV_of (fun h => ?_) (fun h => ?_) <;> simp only [VC0, VC1, VC2, VC3, VC4, VC5, VC6, VC7, VC8, VC9, reduceIte, reduceCtorEq, Nat.reduceEqDiff, Nat.reduceAdd, Nat.reduceMul, Nat.reduceBEq, Nat.reduceLT, Nat.reduceLeDiff, Int.reduceEq, Int.reduceLT, Int.reduceLE, Int.reduceNeg, Int.reduceToNat, Int.reduceAdd, Nat.reduceDiv, Nat.reduceSub, Nat.reduceMod, encL, MC0, MC1, MC2, h, hk', hin] | refine gdDn_of (fun h => ?_) (fun h => ?_) <;> simp only [VC0, VC1, VC2, VC3, VC4, VC5, VC6, VC7, VC8, VC9, reduceIte, reduceCtorEq, Nat.reduceEqDiff, Nat.reduceAdd, Nat.reduceMul, Nat.reduceBEq, Nat.reduceLT, Nat.reduceLeDiff, Int.reduceEq, Int.reduceLT, Int.reduceLE, Int.reduceNeg, Int.reduceToNat, Int.reduceAdd, Nat.reduceDiv, Nat.reduceSub, Nat.reduceMod, encL, MC0, MC1, MC2, h, hk', hin] | refine gdD_of (fun h => ?_) (fun h => ?_) <;> simp only [VC0, VC1, VC2, VC3, VC4, VC5, VC6, VC7, VC8, VC9, reduceIte, reduceCtorEq, Nat.reduceEqDiff, Nat.reduceAdd, Nat.reduceMul, Nat.reduceBEq, Nat.reduceLT, Nat.reduceLeDiff, Int.reduceEq, Int.reduceLT, Int.reduceLE, Int.reduceNeg, Int.reduceToNat, Int.reduceAdd, Nat.reduceDiv, Nat.reduceSub, Nat.reduceMod, encL, MC0, MC1, MC2, h, hk', hin] | refine gdVMn_of (fun h => ?_) (fun h => ?_) <;> simp only [VC0, VC1, VC2, VC3, VC4, VC5, VC6, VC7, VC8, VC9, reduceIte, reduceCtorEq, Nat.reduceEqDiff, Nat.reduceAdd, Nat.reduceMul, Nat.reduceBEq, Nat.reduceLT, Nat.reduceLeDiff, Int.reduceEq, Int.reduceLT, Int.reduceLE, Int.reduceNeg, Int.reduceToNat, Int.reduceAdd, Nat.reduceDiv, Nat.reduceSub, Nat.reduceMod, encL, MC0, MC1, MC2, h, hk', hin] | refine gdVM_of (fun h => ?_) (fun h => ?_) <;> simp only [VC0, VC1, VC2, VC3, VC4, VC5, VC6, VC7, VC8, VC9, reduceIte, reduceCtorEq, Nat.reduceEqDiff, Nat.reduceAdd, Nat.reduceMul, Nat.reduceBEq, Nat.reduceLT, Nat.reduceLeDiff, Int.reduceEq, Int.reduceLT, Int.reduceLE, Int.reduceNeg, Int.reduceToNat, Int.reduceAdd, Nat.reduceDiv, Nat.reduceSub, Nat.reduceMod, encL, MC0, MC1, MC2, h, hk', hin] | refine gpDn_of (fun h => ?_) (fun h => ?_) <;> simp only [VC0, VC1, VC2, VC3, VC4, VC5, VC6, VC7, VC8, VC9, reduceIte, reduceCtorEq, Nat.reduceEqDiff, Nat.reduceAdd, Nat.reduceMul, Nat.reduceBEq, Nat.reduceLT, Nat.reduceLeDiff, Int.reduceEq, Int.reduceLT, Int.reduceLE, Int.reduceNeg, Int.reduceToNat, Int.reduceAdd, Nat.reduceDiv, Nat.reduceSub, Nat.reduceMod, encL, MC0, MC1, MC2, h, hk', hin] | refine gpD_of (fun h => ?_) (fun h => ?_) <;> simp only [VC0, VC1, VC2, VC3, VC4, VC5, VC6, VC7, VC8, VC9, reduceIte, reduceCtorEq, Nat.reduceEqDiff, Nat.reduceAdd, Nat.reduceMul, Nat.reduceBEq, Nat.reduceLT, Nat.reduceLeDiff, Int.reduceEq, Int.reduceLT, Int.reduceLE, Int.reduceNeg, Int.reduceToNat, Int.reduceAdd, Nat.reduceDiv, Nat.reduceSub, Nat.reduceMod, encL, MC0, MC1, MC2, h, hk', hin] | refine gdVn_of (fun h => ?_) (fun h => ?_) <;> simp only [VC0, VC1, VC2, VC3, VC4, VC5, VC6, VC7, VC8, VC9, reduceIte, reduceCtorEq, Nat.reduceEqDiff, Nat.reduceAdd, Nat.reduceMul, Nat.reduceBEq, Nat.reduceLT, Nat.reduceLeDiff, Int.reduceEq, Int.reduceLT, Int.reduceLE, Int.reduceNeg, Int.reduceToNat, Int.reduceAdd, Nat.reduceDiv, Nat.reduceSub, Nat.reduceMod, encL, MC0, MC1, MC2, h, hk', hin] | refine gdV_of (fun h => ?_) (fun h => ?_) <;> simp only [VC0, VC1, VC2, VC3, VC4, VC5, VC6, VC7, VC8, VC9, reduceIte, reduceCtorEq, Nat.reduceEqDiff, Nat.reduceAdd, Nat.reduceMul, Nat.reduceBEq, Nat.reduceLT, Nat.reduceLeDiff, Int.reduceEq, Int.reduceLT, Int.reduceLE, Int.reduceNeg, Int.reduceToNat, Int.reduceAdd, Nat.reduceDiv, Nat.reduceSub, Nat.reduceMod, encL, MC0, MC1, MC2, h, hk', hin] | (unfold InI64; omega) | refine And.intro ?_ ?_)
        all_goals first
          | omega
          | (have hop : inB v.regions[k] m.regions = false := by (clear hb; simp only [inB]; simp; omega)
             rw [hop] at hb
             simp [← hb]; done)
          | (have hop : inB v.regions[k] m.regions = true := by (clear hb; simp only [inB]; simp; omega)
             rw [hop] at hb
             exact backTo_of (k + 1, _) ⟨by omega, hb⟩ (by simp only []; omega) (ent_of _ [] rfl rfl (by simp only [VC0, VC1, VC2, VC3, VC4, VC5, VC6, VC7, VC8, VC9, reduceIte, reduceCtorEq, Nat.reduceEqDiff, Nat.reduceAdd, Nat.reduceMul, Nat.reduceBEq, Nat.reduceLT, Nat.reduceLeDiff, Int.reduceEq, Int.reduceLT, Int.reduceLE, Int.reduceNeg, Int.reduceToNat, Int.reduceAdd, Nat.reduceDiv, Nat.reduceSub, Nat.reduceMod, encL, MC0, MC1, MC2])))
      · have hk' : k = v.regions.length := by omega
        subst hk'
        simp only [List.drop_length, List.all_nil] at hb
        simp only [VC0, VC1, VC2, VC3, VC4, VC5, VC6, VC7, VC8, VC9, reduceIte, reduceCtorEq, Nat.reduceEqDiff, Nat.reduceAdd, Nat.reduceMul, Nat.reduceBEq, Nat.reduceLT, Nat.reduceLeDiff, Int.reduceEq, Int.reduceLT, Int.reduceLE, Int.reduceNeg, Int.reduceToNat, Int.reduceAdd, Nat.reduceDiv, Nat.reduceSub, Nat.reduceMod, encL, MC0, MC1, MC2]
        repeat' (first | refine condDn_of (fun h => ?_) (fun h => ?_) <;> simp only [VC0, VC1, VC2, VC3, VC4, VC5, VC6, VC7, VC8, VC9, reduceIte, reduceCtorEq, Nat.reduceEqDiff, Nat.reduceAdd, Nat.reduceMul, Nat.reduceBEq, Nat.reduceLT, Nat.reduceLeDiff, Int.reduceEq, Int.reduceLT, Int.reduceLE, Int.reduceNeg, Int.reduceToNat, Int.reduceAdd, Nat.reduceDiv, Nat.reduceSub, Nat.reduceMod, encL, MC0, MC1, MC2, h] | refine condD_of (fun h => ?_) (fun h => ?_) <;> simp only [VC0, VC1, VC2, VC3, VC4, VC5, VC6, VC7, VC8, VC9, reduceIte, reduceCtorEq, Nat.reduceEqDiff, Nat.reduceAdd, Nat.reduceMul, Nat.reduceBEq, Nat.reduceLT, Nat.reduceLeDiff, Int.reduceEq, Int.reduceLT, Int.reduceLE, Int.reduceNeg, Int.reduceToNat, Int.reduceAdd, Nat.reduceDiv, Nat.reduceSub, Nat.reduceMod, encL, MC0, MC1, MC2, h] | refine condVn_of (fun h => ?_) (fun h => ?_) <;> simp only [VC0, VC1, VC2, VC3, VC4, VC5, VC6, VC7, VC8, VC9, reduceIte, reduceCtorEq, Nat.reduceEqDiff, Nat.reduceAdd, Nat.reduceMul, Nat.reduceBEq, Nat.reduceLT, Nat.reduceLeDiff, Int.reduceEq, Int.reduceLT, Int.reduceLE, Int.reduceNeg, Int.reduceToNat, Int.reduceAdd, Nat.reduceDiv, Nat.reduceSub, Nat.reduceMod, encL, MC0, MC1, MC2, h] | refine condV_of (fun h => ?_) (fun h => ?_) <;> simp only [VC0, VC1, VC2, VC3, VC4, VC5, VC6, VC7, VC8, VC9, reduceIte, reduceCtorEq, Nat.reduceEqDiff, Nat.reduceAdd, Nat.reduceMul, Nat.reduceBEq, Nat.reduceLT, Nat.reduceLeDiff, Int.reduceEq, Int.reduceLT, Int.reduceLE, Int.reduceNeg, Int.reduceToNat, Int.reduceAdd, Nat.reduceDiv, Nat.reduceSub, Nat.reduceMod, encL, MC0, MC1, MC2, h] | refine gdDn_of (fun h => ?_) (fun h => ?_) <;> simp only [VC0, VC1, VC2, VC3, VC4, VC5, VC6, VC7, VC8, VC9, reduceIte, reduceCtorEq, Nat.reduceEqDiff, Nat.reduceAdd, Nat.reduceMul, Nat.reduceBEq, Nat.reduceLT, Nat.reduceLeDiff, Int.reduceEq, Int.reduceLT, Int.reduceLE, Int.reduceNeg, Int.reduceToNat, Int.reduceAdd, Nat.reduceDiv, Nat.reduceSub, Nat.reduceMod, encL, MC0, MC1, MC2, h] | refine gdD_of (fun h => ?_) (fun h => ?_) <;> simp only [VC0, VC1, VC2, VC3, VC4, VC5, VC6, VC7, VC8, VC9, reduceIte, reduceCtorEq, Nat.reduceEqDiff, Nat.reduceAdd, Nat.reduceMul, Nat.reduceBEq, Nat.reduceLT, Nat.reduceLeDiff, Int.reduceEq, Int.reduceLT, Int.reduceLE, Int.reduceNeg, Int.reduceToNat, Int.reduceAdd, Nat.reduceDiv, Nat.reduceSub, Nat.reduceMod, encL, MC0, MC1, MC2, h] | refine gdVMn_of (fun h => ?_) (fun h => ?_) <;> simp only [VC0, VC1, VC2, VC3, VC4, VC5, VC6, VC7, VC8, VC9, reduceIte, reduceCtorEq, Nat.reduceEqDiff, Nat.reduceAdd, Nat.reduceMul, Nat.reduceBEq, Nat.reduceLT, Nat.reduceLeDiff, Int.reduceEq, Int.reduceLT, Int.reduceLE, Int.reduceNeg, Int.reduceToNat, Int.reduceAdd, Nat.reduceDiv, Nat.reduceSub, Nat.reduceMod, encL, MC0, MC1, MC2, h] | refine gdVM_of (fun h => ?_) (fun h => ?_) <;> simp only [VC0, VC1, VC2, VC3, VC4, VC5, VC6, VC7, VC8, VC9, reduceIte, reduceCtorEq, Nat.reduceEqDiff, Nat.reduceAdd, Nat.reduceMul, Nat.reduceBEq, Nat.reduceLT, Nat.reduceLeDiff, Int.reduceEq, Int.reduceLT, Int.reduceLE, Int.reduceNeg, Int.reduceToNat, Int.reduceAdd, Nat.reduceDiv, Nat.reduceSub, Nat.reduceMod, encL, MC0, MC1, MC2, h] | refine gpDn_of (fun h => ?_) (fun h => ?_) <;> simp only [VC0, VC1, VC2, VC3, VC4, VC5, VC6, VC7, VC8, VC9, reduceIte, reduceCtorEq, Nat.reduceEqDiff, Nat.reduceAdd, Nat.reduceMul, Nat.reduceBEq, Nat.reduceLT, Nat.reduceLeDiff, Int.reduceEq, Int.reduceLT, Int.reduceLE, Int.reduceNeg, Int.reduceToNat, Int.reduceAdd, Nat.reduceDiv, Nat.reduceSub, Nat.reduceMod, encL, MC0, MC1, MC2, h] | refine gpD_of (fun h => ?_) (fun h => ?_) <;> simp only [VC0, VC1, VC2, VC3, VC4, VC5, VC6, VC7, VC8, VC9, reduceIte, reduceCtorEq, Nat.reduceEqDiff, Nat.reduceAdd, Nat.reduceMul, Nat.reduceBEq, Nat.reduceLT, Nat.reduceLeDiff, Int.reduceEq, Int.reduceLT, Int.reduceLE, Int.reduceNeg, Int.reduceToNat, Int.reduceAdd, Nat.reduceDiv, Nat.reduceSub, Nat.reduceMod, encL, MC0, MC1, MC2, h] | refine gdVn_of (fun h => ?_) (fun h => ?_) <;> simp only [VC0, VC1, VC2, VC3, VC4, VC5, VC6, VC7, VC8, VC9, reduceIte, reduceCtorEq, Nat.reduceEqDiff, Nat.reduceAdd, Nat.reduceMul, Nat.reduceBEq, Nat.reduceLT, Nat.reduceLeDiff, Int.reduceEq, Int.reduceLT, Int.reduceLE, Int.reduceNeg, Int.reduceToNat, Int.reduceAdd, Nat.reduceDiv, Nat.reduceSub, Nat.reduceMod, encL, MC0, MC1, MC2, h] | refine gdV_of (fun h => ?_) (fun h => ?_) <;> simp only [VC0, VC1, VC2, VC3, VC4, VC5, VC6, VC7, VC8, VC9, reduceIte, reduceCtorEq, Nat.reduceEqDiff, Nat.reduceAdd, Nat.reduceMul, Nat.reduceBEq, Nat.reduceLT, Nat.reduceLeDiff, Int.reduceEq, Int.reduceLT, Int.reduceLE, Int.reduceNeg, Int.reduceToNat, Int.reduceAdd, Nat.reduceDiv, Nat.reduceSub, Nat.reduceMod, encL, MC0, MC1, MC2, h] | (unfold InI64; omega) | refine And.intro ?_ ?_)
        all_goals (simp [← hb]; try omega)

theorem typ_ret (regions : Int) : ∀ (d : Nat) (t : RT), t.ok → d ≤ 64 → PRet Tryz.prog 42 [.agg t.cells, .int .i64 regions, .int .i64 (65 - d : Nat)] (.bool (rtB regions d t)) := by
  intro d
  induction d with
  | zero =>
    intro t ht hd
    refine pret_intro fd42 (by simp) ?_
    simp [lc42, VC0, VC1, VC2, VC3, VC4, VC5, VC6, VC7, VC8, VC9, reduceIte, reduceCtorEq, Nat.reduceEqDiff, Nat.reduceAdd, Nat.reduceMul, Nat.reduceBEq, Nat.reduceLT, Nat.reduceLeDiff, Int.reduceEq, Int.reduceLT, Int.reduceLE, Int.reduceNeg, Int.reduceToNat, Int.reduceAdd, Nat.reduceDiv, Nat.reduceSub, Nat.reduceMod, encL, MC0, MC1, MC2, rtB]
  | succ d ih =>
    intro t ht hd
    rw [RT.ok_iff] at ht
    obtain ⟨_, _, ⟨hr, _⟩, he, hok⟩ := ht
    rw [maxLen_eq] at he hr
    have h0 : ¬ ((64 : Int) < ((65 - (d + 1) : Nat) : Int)) := by omega
    have h2 : (((65 - (d + 1) : Nat) : Int) + 1) = ((65 - d : Nat) : Int) := by omega
    have kind3 : (0 ≤ t.kind ∧ t.kind ≤ 3) ↔ (¬ t.kind < 0 ∧ ¬ 5 < t.kind ∧ ¬ t.kind = 4 ∧ ¬ t.kind = 5) := by omega
    refine pret_intro fd42 (by simp) ?_
    simp only [lc42, VC0, VC1, VC2, VC3, VC4, VC5, VC6, VC7, VC8, VC9, reduceIte, reduceCtorEq, Nat.reduceEqDiff, Nat.reduceAdd, Nat.reduceMul, Nat.reduceBEq, Nat.reduceLT, Nat.reduceLeDiff, Int.reduceEq, Int.reduceLT, Int.reduceLE, Int.reduceNeg, Int.reduceToNat, Int.reduceAdd, Nat.reduceDiv, Nat.reduceSub, Nat.reduceMod, encL, MC0, MC1, MC2, h0]
    refine loop_vcg (ι := Nat × (Nat → Nat)) (fun (k, c) => stO [(1, .val (.int .i64 regions)), (2, .val (.int .i64 (65 - (d + 1) : Nat))), (3, .box t.cells), (7, .val (.int .i64 k))] c)
      (fun (k, _) => k ≤ t.regions.length ∧ (t.regions.drop k).all (fun i => inB i regions) = t.regions.all (fun i => inB i regions)) (fun (k, _) => t.regions.length - k) (0, _) ⟨by omega, rfl⟩ (ent_of _ [] rfl rfl (by simp only [VC0, VC1, VC2, VC3, VC4, VC5, VC6, VC7, VC8, VC9, reduceIte, reduceCtorEq, Nat.reduceEqDiff, Nat.reduceAdd, Nat.reduceMul, Nat.reduceBEq, Nat.reduceLT, Nat.reduceLeDiff, Int.reduceEq, Int.reduceLT, Int.reduceLE, Int.reduceNeg, Int.reduceToNat, Int.reduceAdd, Nat.reduceDiv, Nat.reduceSub, Nat.reduceMod, encL, MC0, MC1, MC2])) ?_
    rintro ⟨k, c⟩ ⟨hk, hb⟩
    simp only [VC0, VC1, VC2, VC3, VC4, VC5, VC6, VC7, VC8, VC9, reduceIte, reduceCtorEq, Nat.reduceEqDiff, Nat.reduceAdd, Nat.reduceMul, Nat.reduceBEq, Nat.reduceLT, Nat.reduceLeDiff, Int.reduceEq, Int.reduceLT, Int.reduceLE, Int.reduceNeg, Int.reduceToNat, Int.reduceAdd, Nat.reduceDiv, Nat.reduceSub, Nat.reduceMod, encL, MC0, MC1, MC2]
    refine condD_of (fun h => ?_) (fun h => ?_)
    · have hk' : k < t.regions.length := by omega
      rw [all_drop _ _ _ hk'] at hb
      have hin : 0 ≤ (k : Int) ∧ (k : Int) < t.regions.length := by omega
      simp only [VC0, VC1, VC2, VC3, VC4, VC5, VC6, VC7, VC8, VC9, reduceIte, reduceCtorEq, Nat.reduceEqDiff, Nat.reduceAdd, Nat.reduceMul, Nat.reduceBEq, Nat.reduceLT, Nat.reduceLeDiff, Int.reduceEq, Int.reduceLT, Int.reduceLE, Int.reduceNeg, Int.reduceToNat, Int.reduceAdd, Nat.reduceDiv, Nat.reduceSub, Nat.reduceMod, encL, MC0, MC1, MC2, hk', hin]
      repeat' (first | refine condDn_of (fun h => ?_) (fun h => ?_) <;> simp only [VC0, VC1, VC2, VC3, VC4, VC5, VC6, VC7, VC8, VC9, reduceIte, reduceCtorEq, Nat.reduceEqDiff, Nat.reduceAdd, Nat.reduceMul, Nat.reduceBEq, Nat.reduceLT, Nat.reduceLeDiff, Int.reduceEq, Int.reduceLT, Int.reduceLE, Int.reduceNeg, Int.reduceToNat, Int.reduceAdd, Nat.reduceDiv, Nat.reduceSub, Nat.reduceMod, encL, MC0, MC1, MC2, h, hk', hin] | refine condD_of (fun h => ?_) (fun h => ?_) <;> simp only [VC0, VC1, VC2, VC3, VC4, VC5, VC6, VC7, VC8, VC9, reduceIte, reduceCtorEq, Nat.reduceEqDiff, Nat.reduceAdd, Nat.reduceMul, Nat.reduceBEq, Nat.reduceLT, Nat.reduceLeDiff, Int.reduceEq, Int.reduceLT, Int.reduceLE, Int.reduceNeg, Int.reduceToNat, Int.reduceAdd, Nat.reduceDiv, Nat.reduceSub, Nat.reduceMod, encL, MC0, MC1, MC2, h, hk', hin] | refine condVn_of (fun h => ?_) (fun h => ?_) <;> simp only [VC0, VC1, VC2, VC3, VC4, VC5, VC6, VC7, VC8, VC9, reduceIte, reduceCtorEq, Nat.reduceEqDiff, Nat.reduceAdd, Nat.reduceMul, Nat.reduceBEq, Nat.reduceLT, Nat.reduceLeDiff, Int.reduceEq, Int.reduceLT, Int.reduceLE, Int.reduceNeg, Int.reduceToNat, Int.reduceAdd, Nat.reduceDiv, Nat.reduceSub, Nat.reduceMod, encL, MC0, MC1, MC2, h, hk', hin] | refine condV_of (fun h => ?_) (fun h => ?_) <;> simp only [VC0, VC1, VC2, VC3, VC4, VC5, VC6, VC7, VC8, VC9, reduceIte, reduceCtorEq, Nat.reduceEqDiff, Nat.reduceAdd, Nat.reduceMul, Nat.reduceBEq, Nat.reduceLT, Nat.reduceLeDiff, Int.reduceEq, Int.reduceLT, Int.reduceLE, Int.reduceNeg, Int.reduceToNat, Int.reduceAdd, Nat.reduceDiv, Nat.reduceSub, Nat.reduceMod, encL, MC0, MC1, MC2, h, hk', hin] | refine gdDn_of (fun h => ?_) (fun h => ?_) <;> simp only [VC0, VC1, VC2, VC3, VC4, VC5, VC6, VC7, VC8, VC9, reduceIte, reduceCtorEq, Nat.reduceEqDiff, Nat.reduceAdd, Nat.reduceMul, Nat.reduceBEq, Nat.reduceLT, Nat.reduceLeDiff, Int.reduceEq, Int.reduceLT, Int.reduceLE, Int.reduceNeg, Int.reduceToNat, Int.reduceAdd, Nat.reduceDiv, Nat.reduceSub, Nat.reduceMod, encL, MC0, MC1, MC2, h, hk', hin] | refine gdD_of (fun h => ?_) (fun h => ?_) <;> simp only [VC0, VC1, VC2, VC3, VC4, VC5, VC6, VC7, VC8, VC9, reduceIte, reduceCtorEq, Nat.reduceEqDiff, Nat.reduceAdd, Nat.reduceMul, Nat.reduceBEq, Nat.reduceLT, Nat.reduceLeDiff, Int.reduceEq, Int.reduceLT, Int.reduceLE, Int.reduceNeg, Int.reduceToNat, Int.reduceAdd, Nat.reduceDiv, Nat.reduceSub, Nat.reduceMod, encL, MC0, MC1, MC2, h, hk', hin] | refine gdVMn_of (fun h => ?_) (fun h => ?_) <;> simp only [VC0, VC1, VC2, VC3, VC4, VC5, VC6, VC7, VC8, VC9, reduceIte, reduceCtorEq, Nat.reduceEqDiff, Nat.reduceAdd, Nat.reduceMul, Nat.reduceBEq, Nat.reduceLT, Nat.reduceLeDiff, Int.reduceEq, Int.reduceLT, Int.reduceLE, Int.reduceNeg, Int.reduceToNat, Int.reduceAdd, Nat.reduceDiv, Nat.reduceSub, Nat.reduceMod, encL, MC0, MC1, MC2, h, hk', hin] | refine gdVM_of (fun h => ?_) (fun h => ?_) <;> simp only [VC0, VC1, VC2, VC3, VC4, VC5, VC6, VC7, VC8, VC9, reduceIte, reduceCtorEq, Nat.reduceEqDiff, Nat.reduceAdd, Nat.reduceMul, Nat.reduceBEq, Nat.reduceLT, Nat.reduceLeDiff, Int.reduceEq, Int.reduceLT, Int.reduceLE, Int.reduceNeg, Int.reduceToNat, Int.reduceAdd, Nat.reduceDiv, Nat.reduceSub, Nat.reduceMod, encL, MC0, MC1, MC2, h, hk', hin] | refine gpDn_of (fun h => ?_) (fun h => ?_) <;> simp only [VC0, VC1, VC2, VC3, VC4, VC5, VC6, VC7, VC8, VC9, reduceIte, reduceCtorEq, Nat.reduceEqDiff, Nat.reduceAdd, Nat.reduceMul, Nat.reduceBEq, Nat.reduceLT, Nat.reduceLeDiff, Int.reduceEq, Int.reduceLT, Int.reduceLE, Int.reduceNeg, Int.reduceToNat, Int.reduceAdd, Nat.reduceDiv, Nat.reduceSub, Nat.reduceMod, encL, MC0, MC1, MC2, h, hk', hin] | refine gpD_of (fun h => ?_) (fun h => ?_) <;> simp only [VC0, VC1, VC2, VC3, VC4, VC5, VC6, VC7, VC8, VC9, reduceIte, reduceCtorEq, Nat.reduceEqDiff, Nat.reduceAdd, Nat.reduceMul, Nat.reduceBEq, Nat.reduceLT, Nat.reduceLeDiff, Int.reduceEq, Int.reduceLT, Int.reduceLE, Int.reduceNeg, Int.reduceToNat, Int.reduceAdd, Nat.reduceDiv, Nat.reduceSub, Nat.reduceMod, encL, MC0, MC1, MC2, h, hk', hin] | refine gdVn_of (fun h => ?_) (fun h => ?_) <;> simp only [VC0, VC1, VC2, VC3, VC4, VC5, VC6, VC7, VC8, VC9, reduceIte, reduceCtorEq, Nat.reduceEqDiff, Nat.reduceAdd, Nat.reduceMul, Nat.reduceBEq, Nat.reduceLT, Nat.reduceLeDiff, Int.reduceEq, Int.reduceLT, Int.reduceLE, Int.reduceNeg, Int.reduceToNat, Int.reduceAdd, Nat.reduceDiv, Nat.reduceSub, Nat.reduceMod, encL, MC0, MC1, MC2, h, hk', hin] | refine gdV_of (fun h => ?_) (fun h => ?_) <;> simp only [VC0, VC1, VC2, VC3, VC4, VC5, VC6, VC7, VC8, VC9, reduceIte, reduceCtorEq, Nat.reduceEqDiff, Nat.reduceAdd, Nat.reduceMul, Nat.reduceBEq, Nat.reduceLT, Nat.reduceLeDiff, Int.reduceEq, Int.reduceLT, Int.reduceLE, Int.reduceNeg, Int.reduceToNat, Int.reduceAdd, Nat.reduceDiv, Nat.reduceSub, Nat.reduceMod, encL, MC0, MC1, MC2, h, hk', hin] | (unfold InI64; omega) | refine And.intro ?_ ?_)
      all_goals first
        | omega
        | (have hop : inB t.regions[k] regions = false := by (clear hb; simp only [inB]; simp; omega)
           rw [hop] at hb
           rw [rtB, ← hb, Bool.false_and, Bool.false_and]; done)
        | (have hop : inB t.regions[k] regions = true := by (clear hb; simp only [inB]; simp; omega)
           rw [hop] at hb
           exact backTo_of (k + 1, _) ⟨by omega, hb⟩ (by simp only []; omega) (ent_of _ [] rfl rfl (by simp only [VC0, VC1, VC2, VC3, VC4, VC5, VC6, VC7, VC8, VC9, reduceIte, reduceCtorEq, Nat.reduceEqDiff, Nat.reduceAdd, Nat.reduceMul, Nat.reduceBEq, Nat.reduceLT, Nat.reduceLeDiff, Int.reduceEq, Int.reduceLT, Int.reduceLE, Int.reduceNeg, Int.reduceToNat, Int.reduceAdd, Nat.reduceDiv, Nat.reduceSub, Nat.reduceMod, encL, MC0, MC1, MC2])))
    · have hk' : k = t.regions.length := by omega
      subst hk'
      simp only [List.drop_length, List.all_nil] at hb
      rw [rtB, ← hb, Bool.true_and]
      simp only [kind3]
      clear hb h hk
      by_cases h1 : t.elem.length = 1
      · have hp : 0 < t.elem.length := by omega
        have hall : t.elem.all (rtB regions d) = rtB regions d t.elem[0] := all_one _ h1
        rw [hall]
        simp only [VC0, VC1, VC2, VC3, VC4, VC5, VC6, VC7, VC8, VC9, reduceIte, reduceCtorEq, Nat.reduceEqDiff, Nat.reduceAdd, Nat.reduceMul, Nat.reduceBEq, Nat.reduceLT, Nat.reduceLeDiff, Int.reduceEq, Int.reduceLT, Int.reduceLE, Int.reduceNeg, Int.reduceToNat, Int.reduceAdd, Nat.reduceDiv, Nat.reduceSub, Nat.reduceMod, encL, MC0, MC1, MC2]
        repeat' (first | refine condDn_of (fun h => ?_) (fun h => ?_) <;> simp only [VC0, VC1, VC2, VC3, VC4, VC5, VC6, VC7, VC8, VC9, reduceIte, reduceCtorEq, Nat.reduceEqDiff, Nat.reduceAdd, Nat.reduceMul, Nat.reduceBEq, Nat.reduceLT, Nat.reduceLeDiff, Int.reduceEq, Int.reduceLT, Int.reduceLE, Int.reduceNeg, Int.reduceToNat, Int.reduceAdd, Nat.reduceDiv, Nat.reduceSub, Nat.reduceMod, encL, MC0, MC1, MC2, h, h1, h2, rt_first hp] | refine condD_of (fun h => ?_) (fun h => ?_) <;> simp only [VC0, VC1, VC2, VC3, VC4, VC5, VC6, VC7, VC8, VC9, reduceIte, reduceCtorEq, Nat.reduceEqDiff, Nat.reduceAdd, Nat.reduceMul, Nat.reduceBEq, Nat.reduceLT, Nat.reduceLeDiff, Int.reduceEq, Int.reduceLT, Int.reduceLE, Int.reduceNeg, Int.reduceToNat, Int.reduceAdd, Nat.reduceDiv, Nat.reduceSub, Nat.reduceMod, encL, MC0, MC1, MC2, h, h1, h2, rt_first hp] | refine condVn_of (fun h => ?_) (fun h => ?_) <;> simp only [VC0, VC1, VC2, VC3, VC4, VC5, VC6, VC7, VC8, VC9, reduceIte, reduceCtorEq, Nat.reduceEqDiff, Nat.reduceAdd, Nat.reduceMul, Nat.reduceBEq, Nat.reduceLT, Nat.reduceLeDiff, Int.reduceEq, Int.reduceLT, Int.reduceLE, Int.reduceNeg, Int.reduceToNat, Int.reduceAdd, Nat.reduceDiv, Nat.reduceSub, Nat.reduceMod, encL, MC0, MC1, MC2, h, h1, h2, rt_first hp] | refine condV_of (fun h => ?_) (fun h => ?_) <;> simp only [VC0, VC1, VC2, VC3, VC4, VC5, VC6, VC7, VC8, VC9, reduceIte, reduceCtorEq, Nat.reduceEqDiff, Nat.reduceAdd, Nat.reduceMul, Nat.reduceBEq, Nat.reduceLT, Nat.reduceLeDiff, Int.reduceEq, Int.reduceLT, Int.reduceLE, Int.reduceNeg, Int.reduceToNat, Int.reduceAdd, Nat.reduceDiv, Nat.reduceSub, Nat.reduceMod, encL, MC0, MC1, MC2, h, h1, h2, rt_first hp] | refine gdDn_of (fun h => ?_) (fun h => ?_) <;> simp only [VC0, VC1, VC2, VC3, VC4, VC5, VC6, VC7, VC8, VC9, reduceIte, reduceCtorEq, Nat.reduceEqDiff, Nat.reduceAdd, Nat.reduceMul, Nat.reduceBEq, Nat.reduceLT, Nat.reduceLeDiff, Int.reduceEq, Int.reduceLT, Int.reduceLE, Int.reduceNeg, Int.reduceToNat, Int.reduceAdd, Nat.reduceDiv, Nat.reduceSub, Nat.reduceMod, encL, MC0, MC1, MC2, h, h1, h2, rt_first hp] | refine gdD_of (fun h => ?_) (fun h => ?_) <;> simp only [VC0, VC1, VC2, VC3, VC4, VC5, VC6, VC7, VC8, VC9, reduceIte, reduceCtorEq, Nat.reduceEqDiff, Nat.reduceAdd, Nat.reduceMul, Nat.reduceBEq, Nat.reduceLT, Nat.reduceLeDiff, Int.reduceEq, Int.reduceLT, Int.reduceLE, Int.reduceNeg, Int.reduceToNat, Int.reduceAdd, Nat.reduceDiv, Nat.reduceSub, Nat.reduceMod, encL, MC0, MC1, MC2, h, h1, h2, rt_first hp] | refine gdVMn_of (fun h => ?_) (fun h => ?_) <;> simp only [VC0, VC1, VC2, VC3, VC4, VC5, VC6, VC7, VC8, VC9, reduceIte, reduceCtorEq, Nat.reduceEqDiff, Nat.reduceAdd, Nat.reduceMul, Nat.reduceBEq, Nat.reduceLT, Nat.reduceLeDiff, Int.reduceEq, Int.reduceLT, Int.reduceLE, Int.reduceNeg, Int.reduceToNat, Int.reduceAdd, Nat.reduceDiv, Nat.reduceSub, Nat.reduceMod, encL, MC0, MC1, MC2, h, h1, h2, rt_first hp] | refine gdVM_of (fun h => ?_) (fun h => ?_) <;> simp only [VC0, VC1, VC2, VC3, VC4, VC5, VC6, VC7, VC8, VC9, reduceIte, reduceCtorEq, Nat.reduceEqDiff, Nat.reduceAdd, Nat.reduceMul, Nat.reduceBEq, Nat.reduceLT, Nat.reduceLeDiff, Int.reduceEq, Int.reduceLT, Int.reduceLE, Int.reduceNeg, Int.reduceToNat, Int.reduceAdd, Nat.reduceDiv, Nat.reduceSub, Nat.reduceMod, encL, MC0, MC1, MC2, h, h1, h2, rt_first hp] | refine gpDn_of (fun h => ?_) (fun h => ?_) <;> simp only [VC0, VC1, VC2, VC3, VC4, VC5, VC6, VC7, VC8, VC9, reduceIte, reduceCtorEq, Nat.reduceEqDiff, Nat.reduceAdd, Nat.reduceMul, Nat.reduceBEq, Nat.reduceLT, Nat.reduceLeDiff, Int.reduceEq, Int.reduceLT, Int.reduceLE, Int.reduceNeg, Int.reduceToNat, Int.reduceAdd, Nat.reduceDiv, Nat.reduceSub, Nat.reduceMod, encL, MC0, MC1, MC2, h, h1, h2, rt_first hp] | refine gpD_of (fun h => ?_) (fun h => ?_) <;> simp only [VC0, VC1, VC2, VC3, VC4, VC5, VC6, VC7, VC8, VC9, reduceIte, reduceCtorEq, Nat.reduceEqDiff, Nat.reduceAdd, Nat.reduceMul, Nat.reduceBEq, Nat.reduceLT, Nat.reduceLeDiff, Int.reduceEq, Int.reduceLT, Int.reduceLE, Int.reduceNeg, Int.reduceToNat, Int.reduceAdd, Nat.reduceDiv, Nat.reduceSub, Nat.reduceMod, encL, MC0, MC1, MC2, h, h1, h2, rt_first hp] | refine gdVn_of (fun h => ?_) (fun h => ?_) <;> simp only [VC0, VC1, VC2, VC3, VC4, VC5, VC6, VC7, VC8, VC9, reduceIte, reduceCtorEq, Nat.reduceEqDiff, Nat.reduceAdd, Nat.reduceMul, Nat.reduceBEq, Nat.reduceLT, Nat.reduceLeDiff, Int.reduceEq, Int.reduceLT, Int.reduceLE, Int.reduceNeg, Int.reduceToNat, Int.reduceAdd, Nat.reduceDiv, Nat.reduceSub, Nat.reduceMod, encL, MC0, MC1, MC2, h, h1, h2, rt_first hp] | refine gdV_of (fun h => ?_) (fun h => ?_) <;> simp only [VC0, VC1, VC2, VC3, VC4, VC5, VC6, VC7, VC8, VC9, reduceIte, reduceCtorEq, Nat.reduceEqDiff, Nat.reduceAdd, Nat.reduceMul, Nat.reduceBEq, Nat.reduceLT, Nat.reduceLeDiff, Int.reduceEq, Int.reduceLT, Int.reduceLE, Int.reduceNeg, Int.reduceToNat, Int.reduceAdd, Nat.reduceDiv, Nat.reduceSub, Nat.reduceMod, encL, MC0, MC1, MC2, h, h1, h2, rt_first hp] | refine callX_of (ih t.elem[0] (hok _ (List.getElem_mem hp)) (by omega)) (by first | exact Or.inr rfl | exact Or.inl rfl) ?_ <;> simp only [VC0, VC1, VC2, VC3, VC4, VC5, VC6, VC7, VC8, VC9, reduceIte, reduceCtorEq, Nat.reduceEqDiff, Nat.reduceAdd, Nat.reduceMul, Nat.reduceBEq, Nat.reduceLT, Nat.reduceLeDiff, Int.reduceEq, Int.reduceLT, Int.reduceLE, Int.reduceNeg, Int.reduceToNat, Int.reduceAdd, Nat.reduceDiv, Nat.reduceSub, Nat.reduceMod, encL, MC0, MC1, MC2, h1, h2, rt_first hp] | (unfold InI64; omega) | refine And.intro ?_ ?_)
        all_goals first
          | omega
          | (simp [*]; done)
          | (simp [*]; omega)
      · have h1' : ¬ ((t.elem.length : Int) = 1) := by omega
        simp only [VC0, VC1, VC2, VC3, VC4, VC5, VC6, VC7, VC8, VC9, reduceIte, reduceCtorEq, Nat.reduceEqDiff, Nat.reduceAdd, Nat.reduceMul, Nat.reduceBEq, Nat.reduceLT, Nat.reduceLeDiff, Int.reduceEq, Int.reduceLT, Int.reduceLE, Int.reduceNeg, Int.reduceToNat, Int.reduceAdd, Nat.reduceDiv, Nat.reduceSub, Nat.reduceMod, encL, MC0, MC1, MC2]
        repeat' (first | refine condDn_of (fun h => ?_) (fun h => ?_) <;> simp only [VC0, VC1, VC2, VC3, VC4, VC5, VC6, VC7, VC8, VC9, reduceIte, reduceCtorEq, Nat.reduceEqDiff, Nat.reduceAdd, Nat.reduceMul, Nat.reduceBEq, Nat.reduceLT, Nat.reduceLeDiff, Int.reduceEq, Int.reduceLT, Int.reduceLE, Int.reduceNeg, Int.reduceToNat, Int.reduceAdd, Nat.reduceDiv, Nat.reduceSub, Nat.reduceMod, encL, MC0, MC1, MC2, h, h1'] | refine condD_of (fun h => ?_) (fun h => ?_) <;> simp only [VC0, VC1, VC2, VC3, VC4, VC5, VC6, VC7, VC8, VC9, reduceIte, reduceCtorEq, Nat.reduceEqDiff, Nat.reduceAdd, Nat.reduceMul, Nat.reduceBEq, Nat.reduceLT, Nat.reduceLeDiff, Int.reduceEq, Int.reduceLT, Int.reduceLE, Int.reduceNeg, Int.reduceToNat, Int.reduceAdd, Nat.reduceDiv, Nat.reduceSub, Nat.reduceMod, encL, MC0, MC1, MC2, h, h1'] | refine condVn_of (fun h => ?_) (fun h => ?_) <;> simp only [VC0, VC1, VC2, VC3, VC4, VC5, VC6, VC7, VC8, VC9, reduceIte, reduceCtorEq, Nat.reduceEqDiff, Nat.reduceAdd, Nat.reduceMul, Nat.reduceBEq, Nat.reduceLT, Nat.reduceLeDiff, Int.reduceEq, Int.reduceLT, Int.reduceLE, Int.reduceNeg, Int.reduceToNat, Int.reduceAdd, Nat.reduceDiv, Nat.reduceSub, Nat.reduceMod, encL, MC0, MC1, MC2, h, h1'] | refine condV_of (fun h => ?_) (fun h => ?_) <;> simp only [VC0, VC1, VC2, VC3, VC4, VC5, VC6, VC7, VC8, VC9, reduceIte, reduceCtorEq, Nat.reduceEqDiff, Nat.reduceAdd, Nat.reduceMul, Nat.reduceBEq, Nat.reduceLT, Nat.reduceLeDiff, Int.reduceEq, Int.reduceLT, Int.reduceLE, Int.reduceNeg, Int.reduceToNat, Int.reduceAdd, Nat.reduceDiv, Nat.reduceSub, Nat.reduceMod, encL, MC0, MC1, MC2, h, h1'] | refine gdDn_of (fun h => ?_) (fun h => ?_) <;> simp only [VC0, VC1, VC2, VC3, VC4, VC5, VC6, VC7, VC8, VC9, reduceIte, reduceCtorEq, Nat.reduceEqDiff, Nat.reduceAdd, Nat.reduceMul, Nat.reduceBEq, Nat.reduceLT, Nat.reduceLeDiff, Int.reduceEq, Int.reduceLT, Int.reduceLE, Int.reduceNeg, Int.reduceToNat, Int.reduceAdd, Nat.reduceDiv, Nat.reduceSub, Nat.reduceMod, encL, MC0, MC1, MC2, h, h1'] | refine gdD_of (fun h => ?_) (fun h => ?_) <;> simp only [VC0, VC1, VC2, VC3, VC4, VC5, VC6, VC7, VC8, VC9, reduceIte, reduceCtorEq, Nat.reduceEqDiff, Nat.reduceAdd, Nat.reduceMul, Nat.reduceBEq, Nat.reduceLT, Nat.reduceLeDiff, Int.reduceEq, Int.reduceLT, Int.reduceLE, Int.reduceNeg, Int.reduceToNat, Int.reduceAdd, Nat.reduceDiv, Nat.reduceSub, Nat.reduceMod, encL, MC0, MC1, MC2, h, h1'] | refine gdVMn_of (fun h => ?_) (fun h => ?_) <;> simp only [VC0, VC1, VC2, VC3, VC4, VC5, VC6, VC7, VC8, VC9, reduceIte, reduceCtorEq, Nat.reduceEqDiff, Nat.reduceAdd, Nat.reduceMul, Nat.reduceBEq, Nat.reduceLT, Nat.reduceLeDiff, Int.reduceEq, Int.reduceLT, Int.reduceLE, Int.reduceNeg, Int.reduceToNat, Int.reduceAdd, Nat.reduceDiv, Nat.reduceSub, Nat.reduceMod, encL, MC0, MC1, MC2, h, h1'] | refine gdVM_of (fun h => ?_) (fun h => ?_) <;> simp only [VC0, VC1, VC2, VC3, VC4, VC5, VC6, VC7, VC8, VC9, reduceIte, reduceCtorEq, Nat.reduceEqDiff, Nat.reduceAdd, Nat.reduceMul, Nat.reduceBEq, Nat.reduceLT, Nat.reduceLeDiff, Int.reduceEq, Int.reduceLT, Int.reduceLE, Int.reduceNeg, Int.reduceToNat, Int.reduceAdd, Nat.reduceDiv, Nat.reduceSub, Nat.reduceMod, encL, MC0, MC1, MC2, h, h1'] | refine gpDn_of (fun h => ?_) (fun h => ?_) <;> simp only [VC0, VC1, VC2, VC3, VC4, VC5, VC6, VC7, VC8, VC9, reduceIte, reduceCtorEq, Nat.reduceEqDiff, Nat.reduceAdd, Nat.reduceMul, Nat.reduceBEq, Nat.reduceLT, Nat.reduceLeDiff, Int.reduceEq, Int.reduceLT, Int.reduceLE, Int.reduceNeg, Int.reduceToNat, Int.reduceAdd, Nat.reduceDiv, Nat.reduceSub, Nat.reduceMod, encL, MC0, MC1, MC2, h, h1'] | refine gpD_of (fun h => ?_) (fun h => ?_) <;> simp only [VC0, VC1, VC2, VC3, VC4, VC5, VC6, VC7, VC8, VC9, reduceIte, reduceCtorEq, Nat.reduceEqDiff, Nat.reduceAdd, Nat.reduceMul, Nat.reduceBEq, Nat.reduceLT, Nat.reduceLeDiff, Int.reduceEq, Int.reduceLT, Int.reduceLE, Int.reduceNeg, Int.reduceToNat, Int.reduceAdd, Nat.reduceDiv, Nat.reduceSub, Nat.reduceMod, encL, MC0, MC1, MC2, h, h1'] | refine gdVn_of (fun h => ?_) (fun h => ?_) <;> simp only [VC0, VC1, VC2, VC3, VC4, VC5, VC6, VC7, VC8, VC9, reduceIte, reduceCtorEq, Nat.reduceEqDiff, Nat.reduceAdd, Nat.reduceMul, Nat.reduceBEq, Nat.reduceLT, Nat.reduceLeDiff, Int.reduceEq, Int.reduceLT, Int.reduceLE, Int.reduceNeg, Int.reduceToNat, Int.reduceAdd, Nat.reduceDiv, Nat.reduceSub, Nat.reduceMod, encL, MC0, MC1, MC2, h, h1'] | refine gdV_of (fun h => ?_) (fun h => ?_) <;> simp only [VC0, VC1, VC2, VC3, VC4, VC5, VC6, VC7, VC8, VC9, reduceIte, reduceCtorEq, Nat.reduceEqDiff, Nat.reduceAdd, Nat.reduceMul, Nat.reduceBEq, Nat.reduceLT, Nat.reduceLeDiff, Int.reduceEq, Int.reduceLT, Int.reduceLE, Int.reduceNeg, Int.reduceToNat, Int.reduceAdd, Nat.reduceDiv, Nat.reduceSub, Nat.reduceMod, encL, MC0, MC1, MC2, h, h1'] | (unfold InI64; omega) | refine And.intro ?_ ?_)
        all_goals first
          | omega
          | (simp [*]; done)
          | (simp [*]; omega)

end Go.Proofs.YtlkdcgfjmhjjpaaGreat

set_option linter.unusedSimpArgs false
set_option linter.unusedVariables false
namespace Go.Proofs.YtlkdcgfjmhjjpaaGreat
open Go Go.Lg Go.RowKit
set_option linter.unusedVariables false
set_option linter.unusedSimpArgs false
set_option maxRecDepth 20000

theorem idxS_ret (l : List ByteArray) (s : ByteArray) (hl : l.length ≤ 4611686018427387904) : PRet Tryz.prog 62 [encL cS l, .str s] (.int .i64 (idx (fun x => decide (s = x)) l 0)) := by
  refine pret_intro fdg62 (by simp) ?_
  simp only [lcg62, VCA, simprocAttr, encL, MCA]
  refine loop_vcg (ι := Nat × (Nat → Nat)) (fun y => stO [(0, .val (encL cS l)), (1, .val (.str s)), (7, .val (.int .i64 l.length)), (8, .val (.int .i64 y.1))] y.2)
    (fun y => y.1 ≤ l.length ∧ idx (fun x => decide (s = x)) l 0 = idx (fun x => decide (s = x)) (l.drop y.1) y.1) (fun y => l.length - y.1) (0, _) ⟨Nat.zero_le _, rfl⟩ (ent_of _ [] rfl rfl (by simp only [VCA, simprocAttr, encL, MCA])) ?_
  rintro ⟨k, c⟩ hk
  obtain ⟨hk, hb⟩ : k ≤ l.length ∧ idx (fun x => decide (s = x)) l 0 = idx (fun x => decide (s = x)) (l.drop k) k := hk
  simp only [VCA, simprocAttr, encL, MCA]
  refine condD_of (fun h => ?_) (fun h => ?_)
  · have hk' : k < l.length := by omega
    have i1 : 0 ≤ (k : Int) ∧ (k : Int) < l.length := by omega
    have i3 : InI64 ((k : Int) + 1) := by unfold InI64; omega
    rw [drop_idx _ hk'] at hb
    simp only [VCA, simprocAttr, encL, MCA, hk', i1, i3, txt_eq]
    cases b1 : decide (s = l[k]) <;> simp only [VCA, simprocAttr, encL, MCA, b1, i3]
    · rw [if_neg (by rw [b1]; decide)] at hb
      exact backTo_of (k + 1, _) ⟨hk', hb⟩ (by simp only []; omega) (ent_of _ [] rfl rfl (by simp only [VCA, simprocAttr, encL, MCA]))
    · rw [if_pos b1] at hb
      rw [hb]
  · have hk' : k = l.length := by omega
    subst hk'
    simp only [VCA, simprocAttr, encL, MCA]
    rw [hb, List.drop_length]; rfl
theorem hasS_ret (l : List ByteArray) (s : ByteArray) (hl : l.length ≤ 4611686018427387904) : PRet Tryz.prog 35 [encL cS l, .str s] (.bool (l.any fun x => decide (s = x))) := by
  refine pret_intro fdg35 (by simp) ?_
  simp only [lcg35, VCA, simprocAttr, encL, MCA]
  refine callX_of (idxS_ret l s hl) (.inr rfl) ?_
  simp only [VCA, simprocAttr, encL, idx_any _ l 0 (by decide)]
theorem star_eq (p : MPath) : (p.steps.any fun x => decide ((⟨#[42]⟩ : ByteArray) = x)) = starS p := by
  unfold starS
  congr 1; funext x
  rw [Bool.eq_iff_iff, decide_eq_true_eq, decide_eq_true_eq]; exact eq_comm
theorem same_ret (a b : MPath) (ha : smallP a) (hb : smallP b) : PRet Tryz.prog 37 [.agg a.cells, .agg b.cells] (.bool (prefS a b && prefS b a)) := by
  have h1 : a.steps.length ≤ 4611686018427387904 := by unfold smallP at ha; omega
  have h2 : b.steps.length ≤ 4611686018427387904 := by unfold smallP at hb; omega
  refine pret_intro fdg37 (by simp) ?_
  simp only [lcg37, VCA, simprocAttr, encL, MCA]
  refine callX_of (pref_ret a b h1) (.inr rfl) ?_
  cases b1 : prefS a b <;> simp only [VCA, simprocAttr, encL, MCA, b1, Bool.false_and, Bool.true_and]
  refine callX_of (pref_ret b a h2) (.inr rfl) ?_
  simp only [VCA, simprocAttr, encL, MCA]
theorem put1_ret (x p : MPath) (hx : smallP x) (hp : smallP p) : PRet Tryz.prog 36 [.agg x.cells, .ip p.cells 0] (.bool (prefS x p && !prefS p x)) := by
  have h1 : x.steps.length ≤ 4611686018427387904 := by unfold smallP at hx; omega
  refine pret_intro fdg36 (by simp) ?_
  simp only [lcg36, VCA, simprocAttr, encL, MCA]
  refine callX_of (pref_ret x p h1) (.inr rfl) ?_
  cases b1 : prefS x p <;> simp only [VCA, simprocAttr, encL, MCA, b1, Bool.false_and, Bool.true_and]
  refine callX_of (same_ret x p hx hp) (.inr rfl) ?_
  simp only [VCA, simprocAttr, encL, MCA, b1, Bool.true_and]
theorem put_own (l : List MPath) (p : MPath) (hl : l.length ≤ 1000000) (hp : smallP p) (hx : ∀ x ∈ l, smallP x) :
    PRetM Tryz.prog 13 [encL MPath.cells l, .agg p.cells] 2 (putS l p).length ((putS l p).flatMap MPath.cells) := by
  have hps : p.steps.length ≤ 4611686018427387904 := by unfold smallP at hp; omega
  refine pretM_intro fdg13 (by simp) (mp_len _) ?_
  simp only [lcg13, VCA, simprocAttr, encL, MCA]
  refine callX_of (hasS_ret p.steps _ hps) (.inr rfl) ?_
  rw [star_eq]
  cases b1 : starS p <;> simp only [VCA, simprocAttr, encL, MCA, b1]
  case true =>
    have e : putS l p = l := by rw [putS, b1, Bool.true_or, if_pos rfl]
    rw [e]
    refine callX_own (all_own l hl hx) (.inl rfl) ?_
    simp only [VCA, simprocAttr, encL, MCA, ownR, mp_len, mp_snap]
  refine callX_of (containsP_ret l _ [.ip p.cells 0] (fun x => prefS x p && !prefS p x) (by rw [maxLen_eq]; omega) (fun H => rfl) (fun H => rfl) (fun H => rfl) (fun H => rfl) (fun x h => put1_ret x p (hx x h) hp)) (.inr rfl) ?_
  cases b2 : l.any (fun x => prefS x p && !prefS p x) <;> simp only [VCA, simprocAttr, encL, MCA, b2]
  case true =>
    have e : putS l p = l := by rw [putS, b1, b2, Bool.false_or, if_pos rfl]
    rw [e]
    refine callX_own (all_own l hl hx) (.inl rfl) ?_
    simp only [VCA, simprocAttr, encL, MCA, ownR, mp_len, mp_snap]
  have e : putS l p = l.filter fun x => !prefS p x := by rw [putS, b1, b2, Bool.false_or, if_neg (by decide)]
  rw [e]
  refine callX_own (without_own l p hl hp hx) (.inl rfl) ?_
  simp only [VCA, simprocAttr, encL, MCA, ownR, mp_len, mp_snap]
end Go.Proofs.YtlkdcgfjmhjjpaaGreat

set_option linter.unusedSimpArgs false
set_option linter.unusedVariables false
namespace Go.Lg
open Go Go.RowKit
/-- What is gone behind operands. -/
def movS (l : List MPath) : List MOper → List MPath
  | [] => l
  | o :: r => movS (if o.kind = 4 then addS l o.path else l) r
theorem movS_srt : ∀ (os : List MOper) {l : List MPath}, Srt l → Srt (movS l os)
  | [], _, h => h
  | o :: r, l, h => by
    rw [movS]
    refine movS_srt r ?_
    split
    · exact srt_add h
    · exact h
theorem ins_len {p : MPath} : ∀ {l : List MPath}, (insP p l).length = l.length + 1
  | [] => rfl
  | x :: l => by rw [insP]; split <;> simp [ins_len (l := l)]
theorem add_len (l : List MPath) (p : MPath) : (addS l p).length ≤ l.length + 1 := by
  unfold addS
  split
  · omega
  · rw [ins_len]
    have := List.length_filter_le (fun x => !prefS p x) l
    omega
theorem movS_len : ∀ (os : List MOper) (l : List MPath), (movS l os).length ≤ l.length + os.length
  | [], _ => Nat.le_refl _
  | o :: r, l => by
    rw [movS]
    have h := movS_len r (if o.kind = 4 then addS l o.path else l)
    have : (if o.kind = 4 then addS l o.path else l).length ≤ l.length + 1 := by
      split
      · exact add_len l o.path
      · omega
    simp only [List.length_cons]; omega
theorem movS_mem : ∀ (os : List MOper) {l : List MPath} {x : MPath}, x ∈ movS l os → x ∈ l ∨ ∃ o ∈ os, o.kind = 4 ∧ x = o.path
  | [], _, _, h => .inl h
  | o :: r, l, x, h => by
    rw [movS] at h
    rcases movS_mem r h with h | ⟨q, h1, h2⟩
    · split at h
      · rename_i hk
        rcases mem_add_or h with h | h
        · exact .inl h
        · exact .inr ⟨o, List.mem_cons_self .., hk, h⟩
      · exact .inl h
    · exact .inr ⟨q, List.mem_cons_of_mem _ h1, h2⟩
theorem movS_app : ∀ (a b : List MOper) (l : List MPath), movS l (a ++ b) = movS (movS l a) b
  | [], _, _ => rfl
  | o :: a, b, l => by rw [List.cons_append, movS, movS, movS_app a b]
theorem mo_set (a b c e : V) (o : MOper) : setCells [a, b, c, e] 0 o.cells = o.cells := setCells_all (by rw [MOper.len]; rfl)
end Go.Lg
namespace Go.Proofs.YtlkdcgfjmhjjpaaGreat
open Go Go.Lg Go.RowKit
set_option linter.unusedVariables false
set_option linter.unusedSimpArgs false
set_option maxRecDepth 20000

/-- What is gone behind a point. -/
def aftS (l : List MPath) (x : MInst) : List MPath :=
  if x.kind = 1 then (if x.has = true then putS (movS l (opersL x.val)) x.to else movS l (opersL x.val))
  else if x.kind = 3 then addS l x.to
  else if x.kind = 2 then addS l ⟨x.to.loc, []⟩
  else l

theorem opersG_ret (v : MVal) : PRet Tryz.prog 63 [.agg v.cells] (encL MOper.cells (opersL v)) := by
  refine pret_intro_l fdg63 (by simp) ?_
  simp only [lcg63, VCA, simprocAttr, encL, MCA]
  repeat' (first | refine condDn_of (fun h => ?_) (fun h => ?_) <;> simp only [VCA, simprocAttr, encL, MCA, h, fill1, fill2, MOper.len, V.cells] | refine condD_of (fun h => ?_) (fun h => ?_) <;> simp only [VCA, simprocAttr, encL, MCA, h, fill1, fill2, MOper.len, V.cells] | refine condVn_of (fun h => ?_) (fun h => ?_) <;> simp only [VCA, simprocAttr, encL, MCA, h, fill1, fill2, MOper.len, V.cells] | refine condV_of (fun h => ?_) (fun h => ?_) <;> simp only [VCA, simprocAttr, encL, MCA, h, fill1, fill2, MOper.len, V.cells] | refine gdDn_of (fun h => ?_) (fun h => ?_) <;> simp only [VCA, simprocAttr, encL, MCA, h, fill1, fill2, MOper.len, V.cells] | refine gdD_of (fun h => ?_) (fun h => ?_) <;> simp only [VCA, simprocAttr, encL, MCA, h, fill1, fill2, MOper.len, V.cells] | refine gdVMn_of (fun h => ?_) (fun h => ?_) <;> simp only [VCA, simprocAttr, encL, MCA, h, fill1, fill2, MOper.len, V.cells] | refine gdVM_of (fun h => ?_) (fun h => ?_) <;> simp only [VCA, simprocAttr, encL, MCA, h, fill1, fill2, MOper.len, V.cells] | refine gpDn_of (fun h => ?_) (fun h => ?_) <;> simp only [VCA, simprocAttr, encL, MCA, h, fill1, fill2, MOper.len, V.cells] | refine gpD_of (fun h => ?_) (fun h => ?_) <;> simp only [VCA, simprocAttr, encL, MCA, h, fill1, fill2, MOper.len, V.cells] | refine gdVn_of (fun h => ?_) (fun h => ?_) <;> simp only [VCA, simprocAttr, encL, MCA, h, fill1, fill2, MOper.len, V.cells] | refine gdV_of (fun h => ?_) (fun h => ?_) <;> simp only [VCA, simprocAttr, encL, MCA, h, fill1, fill2, MOper.len, V.cells] | (unfold InI64; omega) | refine And.intro ?_ ?_)
  all_goals simp [opersL, fill1, fill2, encL, MOper.len, V.cells, partsOk, fillL, V.known, *]
  all_goals first | exact ⟨List.all_eq_true.1 (MOper.imvc _ 2), List.all_eq_true.1 (MOper.imvc _ 2)⟩ | skip

/-- The moves among operands are small. -/
def smallO (os : List MOper) : Prop := ∀ o ∈ os, smallP o.path
theorem moved_ret (hS : SortsP) (l : List MPath) (v : MVal) (hs : Srt l) (hl : l.length ≤ 900000) (hx : ∀ x ∈ l, smallP x) (hn : (opersL v).length ≤ 100000) (ho : smallO (opersL v)) :
    PRet Tryz.prog 40 [encL MPath.cells l, .agg v.cells, .nilf] (encL MPath.cells (movS l (opersL v))) := by
  refine pret_intro fdg40 (by simp) ?_
  simp only [lcg40, VCA, simprocAttr, encL, MCA]
  refine callX_of (opersG_ret v) (.inl rfl) ?_
  simp only [VCA, simprocAttr, encL, MCA]
  generalize opersL v = os at *
  refine loop_vcg (ι := Nat × (Nat → Nat)) (fun y => stO [(0, .val (encL MPath.cells (movS l (os.take y.1)))), (2, .val .nilf), (10, .val (encL MOper.cells os)), (11, .val (.int .i64 os.length)), (12, .val (.int .i64 y.1))] y.2)
    (fun y => y.1 ≤ os.length) (fun y => os.length - y.1) (0, _) (Nat.zero_le _) (ent_of _ [] rfl rfl (by simp only [VCA, simprocAttr, encL, MCA, List.take_zero, movS])) ?_
  rintro ⟨k, c⟩ hk
  have hk : k ≤ os.length := hk
  simp only [VCA, simprocAttr, encL, MCA]
  refine condD_of (fun h => ?_) (fun h => ?_)
  · have hk' : k < os.length := by omega
    have i1 : 0 ≤ (k : Int) ∧ (k : Int) < os.length := by omega
    have i2 : InI64 ((k : Int) + 1) := by unfold InI64; omega
    have e : os.take (k + 1) = os.take k ++ [os[k]] := by rw [List.take_add_one, List.getElem?_eq_getElem hk']; rfl
    have hlen := movS_len (os.take k) l
    have hmem := fun x => movS_mem (os.take k) (l := l) (x := x)
    have hsr := movS_srt (os.take k) hs
    have hsm : ∀ x ∈ movS l (os.take k), smallP x := by
      intro x h
      rcases hmem x h with h | ⟨o, h1, _, rfl⟩
      · exact hx x h
      · exact ho o (List.mem_of_mem_take h1)
    rw [List.length_take] at hlen
    simp only [VCA, simprocAttr, encL, MCA, hk', i1, mo_set, leqf]
    cases b1 : decide (os[k].kind = 4) <;> simp only [VCA, simprocAttr, encL, MCA, b1, i2]
    · refine backTo_of (k + 1, _) hk' (by simp only []; omega) (ent_of _ [] rfl rfl ?_)
      simp only [VCA, simprocAttr, encL, MCA, e, movS_app, movS, if_neg (of_decide_eq_false b1)]
    · refine callX_of (add_own hS _ _ hsr (by omega) (ho _ (List.getElem_mem hk')) hsm).ret (.inl rfl) ?_
      simp only [VCA, simprocAttr, encL, MCA, i2]
      refine backTo_of (k + 1, _) hk' (by simp only []; omega) (ent_of _ [] rfl rfl ?_)
      simp only [VCA, simprocAttr, encL, MCA, e, movS_app, movS, if_pos (of_decide_eq_true b1)]
  · have hk' : k = os.length := by omega
    subst hk'
    simp only [VCA, simprocAttr, encL, MCA, List.take_length]
end Go.Proofs.YtlkdcgfjmhjjpaaGreat

set_option linter.unusedSimpArgs false
set_option linter.unusedVariables false
namespace Go.Proofs.YtlkdcgfjmhjjpaaGreat
open Go Go.Lg Go.RowKit
set_option linter.unusedVariables false
set_option linter.unusedSimpArgs false
set_option maxRecDepth 20000

theorem mo_nz (d : Nat) (l : List MPath) : (l.flatMap MPath.cells).map (nz (d + 2)) = l.flatMap MPath.cells := by
  have h1 : ∀ m : List ByteArray, (m.flatMap cS).map (nz (d + 1)) = m.flatMap cS := by
    intro m
    induction m with
    | nil => rfl
    | cons x m ih => rw [List.flatMap_cons, List.map_append, ih]; rfl
  induction l with
  | nil => rfl
  | cons x r ih => rw [List.flatMap_cons, List.map_append, ih, mp_c]; simp [nz, h1]
theorem front0 (n : Int) (l : List MPath) : List.map (nz 6) [.sl l.length (l.flatMap MPath.cells), .agg [.int .i64 n, .e0]] = [encL MPath.cells l, .agg (MPath.mk n []).cells] := by
  simp only [List.map_cons, List.map_nil, nz, mo_nz, mp_c, encL, List.length_nil, List.flatMap_nil]
theorem mp_setA (a b c : V) : setCells [a, b] 0 [c] = [c, b] := rfl
theorem aft_ret (hS : SortsP) (l : List MPath) (x : MInst) (hs : Srt l) (hl : l.length ≤ 800000) (hx : ∀ y ∈ l, smallP y) (hn : (opersL x.val).length ≤ 100000) (ho : smallO (opersL x.val)) (ht : smallP x.to) :
    PRet Tryz.prog 15 [encL MPath.cells l, .agg x.cells] (encL MPath.cells (aftS l x)) := by
  have hm := movS_len (opersL x.val) l
  have hmx : ∀ y ∈ movS l (opersL x.val), smallP y := by
    intro y h
    rcases movS_mem _ h with h | ⟨o, h1, _, rfl⟩
    · exact hx y h
    · exact ho o h1
  have hms := movS_srt (opersL x.val) hs
  refine pret_intro fdg15 (by simp) ?_
  simp only [lcg15, VCA, simprocAttr, encL, MCA]
  unfold aftS
  cases b1 : decide (x.kind = 1) <;> simp only [VCA, simprocAttr, encL, MCA, b1]
  · rw [if_neg (of_decide_eq_false b1)]
    cases b3 : decide (x.kind = 3) <;> simp only [VCA, simprocAttr, encL, MCA, b3]
    · rw [if_neg (of_decide_eq_false b3)]
      cases b2 : decide (x.kind = 2) <;> simp only [VCA, simprocAttr, encL, MCA, b2, mp_setA, List.all_cons, List.all_nil, Bool.and_true, List.map_cons, List.map_nil]
      · rw [if_neg (of_decide_eq_false b2)]
        refine callX_of (all_own l (by omega) hx).ret (.inl rfl) ?_
        simp only [VCA, simprocAttr, encL, MCA]
      · rw [if_pos (of_decide_eq_true b2)]
        refine callX_of ((add_own hS l ⟨x.to.loc, []⟩ hs (by omega) (by unfold smallP; simp) hx).ret.nz 6 (front0 _ _)) (.inl rfl) ?_
        simp only [VCA, simprocAttr, encL, MCA]
    · rw [if_pos (of_decide_eq_true b3)]
      refine callX_of (add_own hS l x.to hs (by omega) ht hx).ret (.inl rfl) ?_
      simp only [VCA, simprocAttr, encL, MCA]
  · rw [if_pos (of_decide_eq_true b1)]
    refine callX_of (moved_ret hS l x.val hs (by omega) hx hn ho) (.inl rfl) ?_
    cases b2 : x.has <;> simp only [VCA, simprocAttr, encL, MCA, b2]
    · refine callX_of (all_own _ (by omega) hmx).ret (.inl rfl) ?_
      simp only [VCA, simprocAttr, encL, MCA]
    · refine callX_of (put_own _ x.to (by omega) ht hmx).ret (.inl rfl) ?_
      simp only [VCA, simprocAttr, encL, MCA]
end Go.Proofs.YtlkdcgfjmhjjpaaGreat

set_option linter.unusedSimpArgs false
set_option linter.unusedVariables false
namespace Go.Lg
open Go Go.RowKit
end Go.Lg
namespace Go.Proofs.YtlkdcgfjmhjjpaaGreat
open Go Go.Lg Go.RowKit
set_option linter.unusedVariables false
set_option linter.unusedSimpArgs false
set_option maxRecDepth 20000

/-- The text's front: so many steps as stand ahead of the first star. -/
def frontN : List ByteArray → Nat
  | [] => 0
  | x :: r => if x = ⟨#[42]⟩ then 0 else frontN r + 1
def frontP (p : MPath) : MPath := ⟨p.loc, p.steps.take (frontN p.steps)⟩
theorem frontN_le : ∀ l : List ByteArray, frontN l ≤ l.length
  | [] => Nat.le_refl _
  | x :: r => by rw [frontN]; split <;> simp only [List.length_cons] <;> have := frontN_le r <;> omega
end Go.Proofs.YtlkdcgfjmhjjpaaGreat

set_option linter.unusedSimpArgs false
set_option linter.unusedVariables false
namespace Go.Proofs.YtlkdcgfjmhjjpaaGreat
open Go Go.Lg Go.RowKit
set_option linter.unusedVariables false
set_option linter.unusedSimpArgs false
set_option maxRecDepth 20000

end Go.Proofs.YtlkdcgfjmhjjpaaGreat

set_option linter.unusedSimpArgs false
set_option linter.unusedVariables false
namespace Go.Proofs.YtlkdcgfjmhjjpaaGreat
open Go Go.Lg Go.RowKit
set_option linter.unusedVariables false
set_option linter.unusedSimpArgs false
set_option maxRecDepth 20000
end Go.Proofs.YtlkdcgfjmhjjpaaGreat

set_option linter.unusedSimpArgs false
set_option linter.unusedVariables false
namespace Go.Lg
open Go Go.RowKit
/-- A list of paths as it lies: nil where there is none. -/
def encE (l : List MPath) : V := if l = [] then .e0 else encL MPath.cells l
theorem encE_ne {l : List MPath} (h : l ≠ []) : encE l = encL MPath.cells l := if_neg h
theorem imv_encE (l : List MPath) (d : Nat) : imV d (encE l) = true := by
  unfold encE
  split
  · cases d <;> rfl
  · cases d <;> rfl
/-- What came of adding one behind the other. -/
def foldA (l : List MPath) (ps : List MPath) : List MPath := ps.foldl addS l
theorem foldA_app (l a b : List MPath) : foldA l (a ++ b) = foldA (foldA l a) b := List.foldl_append ..
theorem foldA_srt : ∀ (ps : List MPath) {l : List MPath}, Srt l → Srt (foldA l ps)
  | [], _, h => h
  | p :: ps, _, h => foldA_srt ps (srt_add h)
theorem foldA_len : ∀ (ps l : List MPath), (foldA l ps).length ≤ l.length + ps.length
  | [], l => Nat.le_refl _
  | p :: ps, l => by
    have h := foldA_len ps (addS l p)
    have := add_len l p
    simp only [foldA, List.foldl_cons, List.length_cons] at h ⊢; omega
theorem foldA_mem : ∀ (ps : List MPath) {l : List MPath} {x : MPath}, x ∈ foldA l ps → x ∈ l ∨ x ∈ ps
  | [], _, _, h => .inl h
  | p :: ps, l, x, h => by
    rcases foldA_mem ps h with h | h
    · rcases mem_add_or h with h | h
      · exact .inl h
      · rw [h]; exact .inr (List.mem_cons_self ..)
    · exact .inr (List.mem_cons_of_mem _ h)
theorem foldA_cov : ∀ (ps l : List MPath), Cov l (foldA l ps) ∧ Cov ps (foldA l ps)
  | [], l => ⟨Cov.rfl, fun x h => by cases h⟩
  | p :: ps, l => by
    obtain ⟨h1, h2⟩ := foldA_cov ps (addS l p)
    obtain ⟨h3, h4⟩ := cov_add l p
    refine ⟨h3.trans h1, fun x hx => ?_⟩
    rcases List.mem_cons.1 hx with rfl | hx
    · obtain ⟨y, hy, e⟩ := h4
      obtain ⟨z, hz, e2⟩ := h1 y hy
      exact ⟨z, hz, prefS_trans e2 e⟩
    · exact h2 x hx
end Go.Lg
namespace Go.Proofs.YtlkdcgfjmhjjpaaGreat
open Go Go.Lg Go.RowKit
set_option linter.unusedVariables false
set_option linter.unusedSimpArgs false
set_option maxRecDepth 20000

theorem nz_cells (p : MPath) : p.cells.map (nz 5) = p.cells := by
  have := mo_nz 3 [p]
  simpa using this
theorem argsE (l : List MPath) (p : MPath) : List.map (nz 6) [encE l, .agg p.cells] = [encL MPath.cells l, .agg p.cells] := by
  unfold encE
  split
  · rename_i e; subst e; simp only [List.map_cons, List.map_nil, nz, nz_cells]; rfl
  · simp only [List.map_cons, List.map_nil, nz, encL, mo_nz, nz_cells]
theorem snap_encE (H : Heap) (d : Nat) (l : List MPath) : snap H (d + 1) (encE l) = encE l := by
  unfold encE; split <;> rfl
theorem sok_encE (H : Heap) (d : Nat) (l : List MPath) : sok H (d + 1) (encE l) = true := by
  unfold encE; split <;> rfl
end Go.Proofs.YtlkdcgfjmhjjpaaGreat

set_option linter.unusedSimpArgs false
set_option linter.unusedVariables false
namespace Go.Lg
open Go Go.RowKit

/-- The least ones of a set: no other one is a part of them. -/
def Least (S : MPath → Prop) (x : MPath) : Prop := S x ∧ ∀ y, S y → prefS y x = true → y = x
structure Gone (l : List MPath) (S : MPath → Prop) : Prop where
  mem : ∀ x, x ∈ l ↔ Least S x
  cov : ∀ x, S x → ∃ y ∈ l, prefS y x = true
theorem Gone.nil : Gone [] fun _ => False := ⟨fun x => ⟨fun h => (by cases h), fun h => h.1.elim⟩, fun _ h => h.elim⟩
theorem Gone.add {l : List MPath} {S : MPath → Prop} (h : Gone l S) (p : MPath) : Gone (addS l p) fun x => S x ∨ x = p := by
  have hc : ∀ x, (S x ∨ x = p) → ∃ y ∈ addS l p, prefS y x = true := by
    obtain ⟨h1, h2⟩ := cov_add l p
    rintro x (hx | rfl)
    · obtain ⟨y, hy, e⟩ := h.cov x hx
      obtain ⟨z, hz, e2⟩ := h1 y hy
      exact ⟨z, hz, prefS_trans e2 e⟩
    · exact h2
  refine ⟨fun x => ?_, hc⟩
  rw [mem_add]
  cases ha : l.any fun y => prefS y p with
  | true =>
    obtain ⟨y, hy, e⟩ := List.any_eq_true.1 ha
    have hyS := ((h.mem y).1 hy).1
    simp only [true_and, Bool.true_eq_false, false_and, or_false, reduceCtorEq]
    rw [h.mem]
    constructor
    · rintro ⟨h1, h2⟩
      refine ⟨.inl h1, fun z hz hzx => ?_⟩
      rcases hz with hz | rfl
      · exact h2 z hz hzx
      · have := h2 y hyS (prefS_trans e hzx)
        subst this
        exact prefS_anti hzx e
    · rintro ⟨h1, h2⟩
      have hxS : S x := by
        rcases h1 with h1 | rfl
        · exact h1
        · have := h2 y (.inl hyS) e; exact this ▸ hyS
      exact ⟨hxS, fun z hz hzx => h2 z (.inl hz) hzx⟩
  | false =>
    have hno : ∀ s, S s → prefS s p = false := by
      intro s hs
      cases e : prefS s p with
      | false => rfl
      | true =>
        obtain ⟨y, hy, e2⟩ := h.cov s hs
        have := List.any_eq_false.1 ha y hy
        rw [prefS_trans e2 e] at this; exact absurd rfl this
    simp only [Bool.false_eq_true, false_and, true_and, false_or, reduceCtorEq]
    rw [h.mem]
    constructor
    · rintro (rfl | ⟨⟨h1, h2⟩, h3⟩)
      · refine ⟨.inr rfl, fun z hz hzx => ?_⟩
        rcases hz with hz | hz
        · rw [hno z hz] at hzx; cases hzx
        · exact hz
      · refine ⟨.inl h1, fun z hz hzx => ?_⟩
        rcases hz with hz | rfl
        · exact h2 z hz hzx
        · rw [h3] at hzx; cases hzx
    · rintro ⟨h1, h2⟩
      rcases h1 with h1 | h1
      · right
        refine ⟨⟨h1, fun z hz hzx => h2 z (.inl hz) hzx⟩, ?_⟩
        cases e : prefS p x with
        | false => rfl
        | true =>
          have := h2 p (.inr rfl) e
          subst this
          have := hno p h1
          rw [prefS_refl] at this; cases this
      · exact .inl h1
end Go.Lg

set_option linter.unusedSimpArgs false
set_option linter.unusedVariables false
namespace Go.Lg
open Go Go.RowKit

structure WS where
  seen : List Bool
  work : List Nat
  out : List (List MPath)
def WS.at (s : WS) (n : Nat) : List MPath := s.out.getD n []
/-- One way onward. -/
def pushS (b : List MPath) (s : WS) (n : Nat) : WS :=
  if (!(s.seen.getD n false) || !decide (foldA (s.at n) b = s.at n)) = true then
    ⟨s.seen, if s.work.contains n then s.work else s.work ++ [n], s.out.set n (foldA (s.at n) b)⟩ else s

/-! What is not covered yet. -/
def uncov (U l : List MPath) : Nat := U.countP fun u => !l.any fun y => prefS y u
def free (s : WS) (N : Nat) : Nat := (List.range N).countP fun n => !s.seen.getD n false && !s.work.contains n
def pot (U : List MPath) (N : Nat) (s : WS) : Nat := 2 * (s.out.map (uncov U)).sum + 2 * free s N + s.work.length

theorem add_same {l : List MPath} {p : MPath} (h : l.any (fun y => prefS y p) = true) : addS l p = l := if_pos h
theorem fold_cov {b l : List MPath} (h : ∀ p ∈ b, l.any (fun y => prefS y p) = true) : foldA l b = l := by
  induction b with
  | nil => rfl
  | cons p b ih =>
    show foldA (addS l p) b = l
    rw [add_same (h p (List.mem_cons_self ..))]
    exact ih fun q hq => h q (List.mem_cons_of_mem _ hq)
theorem uncov_le {U l m : List MPath} (h : Cov l m) : uncov U m ≤ uncov U l := by
  unfold uncov
  refine List.countP_mono_left fun u hu hm => ?_
  simp only [Bool.not_eq_true', List.any_eq_false] at hm ⊢
  intro y hy e
  obtain ⟨z, hz, e2⟩ := h y hy
  exact hm z hz (prefS_trans e2 e)
theorem countP_lt {α : Type} {p q : α → Bool} : ∀ {l : List α}, (∀ x ∈ l, p x = true → q x = true) → (∃ x ∈ l, p x = false ∧ q x = true) → l.countP p < l.countP q
  | [], _, h => by obtain ⟨x, hx, _⟩ := h; cases hx
  | x :: l, h1, h2 => by
    have hl : ∀ y ∈ l, p y = true → q y = true := fun y hy => h1 y (List.mem_cons_of_mem _ hy)
    obtain ⟨y, hy, e1, e2⟩ := h2
    rcases List.mem_cons.1 hy with rfl | hy
    · rw [List.countP_cons_of_neg (by rw [e1]; decide), List.countP_cons_of_pos e2]
      have := List.countP_mono_left hl
      omega
    · have ih := countP_lt hl ⟨y, hy, e1, e2⟩
      by_cases hp : p x = true
      · rw [List.countP_cons_of_pos hp, List.countP_cons_of_pos (h1 x (List.mem_cons_self ..) hp)]; omega
      · rw [List.countP_cons_of_neg hp]
        by_cases hq : q x = true
        · rw [List.countP_cons_of_pos hq]; omega
        · rw [List.countP_cons_of_neg hq]; omega
/-- A change covers more. -/
theorem uncov_lt {U l b : List MPath} (hb : ∀ p ∈ b, p ∈ U) (h : foldA l b ≠ l) : uncov U (foldA l b) < uncov U l := by
  have hex : ∃ p ∈ b, l.any (fun y => prefS y p) = false := by
    rcases Classical.em (∃ p ∈ b, l.any (fun y => prefS y p) = false) with h1 | h1
    · exact h1
    · refine absurd (fold_cov fun p hp => ?_) h
      cases e : l.any fun y => prefS y p with
      | true => rfl
      | false => exact absurd ⟨p, hp, e⟩ h1
  obtain ⟨p, hp, e⟩ := hex
  obtain ⟨h1, h2⟩ := foldA_cov b l
  refine countP_lt (fun u _ hm => ?_) ⟨p, hb p hp, ?_, ?_⟩
  · simp only [Bool.not_eq_true', List.any_eq_false] at hm ⊢
    intro y hy e
    obtain ⟨z, hz, e2⟩ := h1 y hy
    exact hm z hz (prefS_trans e2 e)
  · obtain ⟨z, hz, e2⟩ := h2 p hp
    rw [List.any_eq_true.2 ⟨z, hz, e2⟩]; rfl
  · rw [e]; rfl
theorem sum_set {l : List Nat} {n v : Nat} (h : n < l.length) : (l.set n v).sum + l[n] = l.sum + v := by
  induction l generalizing n with
  | nil => cases h
  | cons x l ih =>
    cases n with
    | zero => simp only [List.set_cons_zero, List.sum_cons, List.getElem_cons_zero]; omega
    | succ n =>
      have := ih (n := n) (by simpa using h)
      simp only [List.set_cons_succ, List.sum_cons, List.getElem_cons_succ]; omega

/-- The lists that a worklist holds are as many as there are points. -/
structure WS.ok (s : WS) (N : Nat) : Prop where
  seen : s.seen.length = N
  out : s.out.length = N
theorem push_ok {b : List MPath} {s : WS} {n N : Nat} (h : s.ok N) : (pushS b s n).ok N := by
  unfold pushS
  split
  · exact ⟨h.seen, by simpa using h.out⟩
  · exact h
theorem at_eq {s : WS} {N n : Nat} (h : s.ok N) (hn : n < N) : s.at n = s.out[n]'(by rw [h.out]; exact hn) := by
  unfold WS.at
  rw [List.getD_eq_getElem?_getD, List.getElem?_eq_getElem (by rw [h.out]; exact hn)]; rfl
theorem push_pot {U b : List MPath} {s : WS} {n N : Nat} (h : s.ok N) (hn : n < N) (hb : ∀ p ∈ b, p ∈ U) : pot U N (pushS b s n) ≤ pot U N s := by
  unfold pushS
  split
  · rename_i hc
    have hno : n < s.out.length := by rw [h.out]; exact hn
    have hsum : ((s.out.set n (foldA (s.at n) b)).map (uncov U)).sum + uncov U (s.at n) = (s.out.map (uncov U)).sum + uncov U (foldA (s.at n) b) := by
      rw [List.map_set]
      have := sum_set (l := s.out.map (uncov U)) (n := n) (v := uncov U (foldA (s.at n) b)) (by simpa using hno)
      rw [List.getElem_map, ← at_eq h hn] at this
      exact this
    have hle : uncov U (foldA (s.at n) b) ≤ uncov U (s.at n) := uncov_le (foldA_cov b (s.at n)).1
    unfold pot
    simp only []
    by_cases hw : s.work.contains n = true
    · simp only [hw, if_true]
      have : free ⟨s.seen, s.work, s.out.set n (foldA (s.at n) b)⟩ N = free s N := rfl
      rw [this]; omega
    · simp only [hw, Bool.false_eq_true, if_false]
      rw [List.length_append]
      simp only [List.length_cons, List.length_nil]
      have hfr : free ⟨s.seen, s.work ++ [n], s.out.set n (foldA (s.at n) b)⟩ N ≤ free s N := by
        unfold free
        refine List.countP_mono_left fun m _ hm => ?_
        simp only [Bool.and_eq_true, Bool.not_eq_true', List.contains_eq_mem, List.mem_append, decide_eq_false_iff_not, not_or] at hm ⊢
        exact ⟨hm.1, hm.2.1⟩
      by_cases hs : s.seen.getD n false = true
      · have hne : foldA (s.at n) b ≠ s.at n := by
          rw [hs] at hc
          simpa using hc
        have := uncov_lt hb hne
        omega
      · have hlt : free ⟨s.seen, s.work ++ [n], s.out.set n (foldA (s.at n) b)⟩ N < free s N := by
          unfold free
          refine countP_lt (fun m _ hm => ?_) ⟨n, List.mem_range.2 hn, ?_, ?_⟩
          · simp only [Bool.and_eq_true, Bool.not_eq_true', List.contains_eq_mem, List.mem_append, decide_eq_false_iff_not, not_or] at hm ⊢
            exact ⟨hm.1, hm.2.1⟩
          · simp
          · simp only [Bool.not_eq_true] at hs hw
            rw [hs, hw]; rfl
        omega
  · exact Nat.le_refl _
theorem push_all_pot {U b : List MPath} {N : Nat} (hb : ∀ p ∈ b, p ∈ U) : ∀ (ns : List Nat) {s : WS}, s.ok N → (∀ n ∈ ns, n < N) → pot U N (ns.foldl (pushS b) s) ≤ pot U N s ∧ (ns.foldl (pushS b) s).ok N
  | [], _, h, _ => ⟨Nat.le_refl _, h⟩
  | n :: ns, s, h, hn => by
    have ih := push_all_pot hb ns (push_ok (b := b) (n := n) h) fun m hm => hn m (List.mem_cons_of_mem _ hm)
    exact ⟨Nat.le_trans ih.1 (push_pot h (hn n (List.mem_cons_self ..)) hb), ih.2⟩
theorem pop_pot {U : List MPath} {N i : Nat} {w : List Nat} {s : WS} (h : s.ok N) (hw : s.work = i :: w) (hi : i < N) : pot U N ⟨s.seen.set i true, w, s.out⟩ < pot U N s := by
  have hfr : free ⟨s.seen.set i true, w, s.out⟩ N ≤ free s N := by
    unfold free
    refine List.countP_mono_left fun m hm hf => ?_
    have hm := List.mem_range.1 hm
    simp only [Bool.and_eq_true, Bool.not_eq_true', List.contains_eq_mem, decide_eq_false_iff_not] at hf ⊢
    have hne : i ≠ m := by
      rintro rfl
      have := hf.1
      rw [List.getD_eq_getElem?_getD, List.getElem?_set_self (by rw [h.seen]; exact hi)] at this
      cases this
    refine ⟨?_, ?_⟩
    · have := hf.1
      rwa [List.getD_eq_getElem?_getD, List.getElem?_set_ne hne, ← List.getD_eq_getElem?_getD] at this
    · rw [hw, List.mem_cons, not_or]
      exact ⟨Ne.symm hne, hf.2⟩
  unfold pot
  simp only [hw, List.length_cons]
  omega

/-! The worklist goes on until it is empty. 'af': what is gone behind a point; 'nx': its nexts. -/
section
variable (af : Nat → List MPath → List MPath) (nx : Nat → List Nat)
def stepS (s : WS) : WS := match s.work with
  | [] => s
  | i :: w => (nx i).foldl (pushS (af i (s.at i))) ⟨s.seen.set i true, w, s.out⟩
def runS : Nat → WS → WS
  | 0, s => s
  | f + 1, s => if s.work = [] then s else runS f (stepS af nx s)
/-- What holds of a worklist all along. -/
structure WOk (U : List MPath) (N : Nat) (s : WS) : Prop where
  ok : s.ok N
  work : ∀ i ∈ s.work, i < N
  mem : ∀ l ∈ s.out, ∀ p ∈ l, p ∈ U
  srt : ∀ l ∈ s.out, Srt l
variable {af nx} {U : List MPath} {N : Nat}
theorem WOk.at_mem {s : WS} (h : WOk U N s) (n : Nat) : (∀ p ∈ s.at n, p ∈ U) ∧ Srt (s.at n) := by
  unfold WS.at
  rw [List.getD_eq_getElem?_getD]
  cases e : s.out[n]? with
  | none => exact ⟨fun p hp => (by cases hp), List.Pairwise.nil⟩
  | some l => exact ⟨h.mem l (List.mem_of_getElem? e), h.srt l (List.mem_of_getElem? e)⟩
theorem WOk.push {s : WS} (h : WOk U N s) {b : List MPath} (hb : ∀ p ∈ b, p ∈ U) {n : Nat} (hn : n < N) : WOk U N (pushS b s n) := by
  refine ⟨push_ok h.ok, ?_, ?_, ?_⟩
  · unfold pushS
    split
    · intro i hi
      simp only at hi
      split at hi
      · exact h.work i hi
      · rcases List.mem_append.1 hi with hi | hi
        · exact h.work i hi
        · rw [List.mem_singleton.1 hi]; exact hn
    · exact h.work
  · unfold pushS
    split
    · intro l hl p hp
      rcases List.mem_or_eq_of_mem_set hl with hl | rfl
      · exact h.mem l hl p hp
      · rcases foldA_mem _ hp with hp | hp
        · exact (h.at_mem n).1 p hp
        · exact hb p hp
    · exact h.mem
  · unfold pushS
    split
    · intro l hl
      rcases List.mem_or_eq_of_mem_set hl with hl | rfl
      · exact h.srt l hl
      · exact foldA_srt _ (h.at_mem n).2
    · exact h.srt
theorem WOk.pushes {b : List MPath} (hb : ∀ p ∈ b, p ∈ U) : ∀ (ns : List Nat) {s : WS}, WOk U N s → (∀ n ∈ ns, n < N) → WOk U N (ns.foldl (pushS b) s)
  | [], _, h, _ => h
  | n :: ns, _, h, hn => WOk.pushes hb ns (h.push hb (hn n (List.mem_cons_self ..))) fun m hm => hn m (List.mem_cons_of_mem _ hm)
theorem WOk.pop {s : WS} (h : WOk U N s) {i : Nat} {w : List Nat} (hw : s.work = i :: w) : WOk U N ⟨s.seen.set i true, w, s.out⟩ :=
  ⟨⟨by simpa using h.ok.seen, h.ok.out⟩, fun j hj => h.work j (by rw [hw]; exact List.mem_cons_of_mem _ hj), h.mem, h.srt⟩
theorem step_pot (haf : ∀ i l, (∀ p ∈ l, p ∈ U) → ∀ p ∈ af i l, p ∈ U) (hnx : ∀ i < N, ∀ n ∈ nx i, n < N) {s : WS} (h : WOk U N s) (hne : s.work ≠ []) : WOk U N (stepS af nx s) ∧ pot U N (stepS af nx s) < pot U N s := by
  unfold stepS
  cases hw : s.work with
  | nil => exact absurd hw hne
  | cons i w =>
    simp only []
    have hi : i < N := h.work i (by rw [hw]; exact List.mem_cons_self ..)
    have hb := haf i (s.at i) (h.at_mem i).1
    have h1 := h.pop hw
    refine ⟨WOk.pushes hb _ h1 (hnx i hi), Nat.lt_of_le_of_lt (push_all_pot hb _ h1.ok (hnx i hi)).1 (pop_pot h.ok hw hi)⟩
theorem run_end (haf : ∀ i l, (∀ p ∈ l, p ∈ U) → ∀ p ∈ af i l, p ∈ U) (hnx : ∀ i < N, ∀ n ∈ nx i, n < N) : ∀ (f : Nat) {s : WS}, WOk U N s → pot U N s < f → (runS af nx f s).work = [] ∧ WOk U N (runS af nx f s)
  | 0, _, _, h => absurd h (Nat.not_lt_zero _)
  | f + 1, s, hs, h => by
    rw [runS]
    split
    · rename_i e; exact ⟨e, hs⟩
    · rename_i e
      obtain ⟨h1, h2⟩ := step_pot haf hnx hs e
      exact run_end haf hnx f h1 (by omega)
end
end Go.Lg

set_option linter.unusedSimpArgs false
set_option linter.unusedVariables false
namespace Go.Lg
open Go Go.RowKit
section
variable {af : Nat → List MPath → List MPath} {nx : Nat → List Nat} {N : Nat}

theorem push_at {b : List MPath} {s : WS} {n : Nat} (h : s.ok N) (hn : n < N) (m : Nat) : (pushS b s n).at m = if m = n ∧ (!(s.seen.getD n false) || !decide (foldA (s.at n) b = s.at n)) = true then foldA (s.at n) b else s.at m := by
  unfold pushS
  by_cases hc : (!(s.seen.getD n false) || !decide (foldA (s.at n) b = s.at n)) = true
  · rw [if_pos hc]
    unfold WS.at
    simp only []
    by_cases e : m = n
    · subst e
      rw [if_pos ⟨rfl, hc⟩, List.getD_eq_getElem?_getD, List.getElem?_set_self (by rw [h.out]; exact hn)]; rfl
    · rw [if_neg (fun h => e h.1), List.getD_eq_getElem?_getD, List.getElem?_set_ne (Ne.symm e), ← List.getD_eq_getElem?_getD]
  · rw [if_neg hc, if_neg (fun h => hc h.2)]
theorem push_grow {b : List MPath} {s : WS} {n : Nat} (h : s.ok N) (hn : n < N) (m : Nat) : Cov (s.at m) ((pushS b s n).at m) := by
  rw [push_at h hn]
  split
  · rename_i e; rw [e.1]; exact (foldA_cov b _).1
  · exact Cov.rfl
theorem push_work {b : List MPath} {s : WS} {n : Nat} {m : Nat} (h : m ∈ s.work) : m ∈ (pushS b s n).work := by
  unfold pushS
  split
  · simp only []; split
    · exact h
    · exact List.mem_append_left _ h
  · exact h
theorem push_seen (b : List MPath) (s : WS) (n : Nat) : (pushS b s n).seen = s.seen := by unfold pushS; split <;> rfl
/-- What is not queued did not change. -/
theorem push_still {b : List MPath} {s : WS} {n m : Nat} (h : s.ok N) (hn : n < N) (hm : m ∉ (pushS b s n).work) : (pushS b s n).at m = s.at m := by
  rw [push_at h hn]
  split
  · rename_i e
    exfalso
    apply hm
    unfold pushS
    rw [if_pos e.2, e.1]
    simp only []
    split
    · rename_i h1; simpa using h1
    · exact List.mem_append_right _ (List.mem_singleton.2 rfl)
  · rfl
/-- Each point that was come to, but one, and that waits not: its nexts hold what is gone behind it. -/
def ClsX (af : Nat → List MPath → List MPath) (nx : Nat → List Nat) (s : WS) (x : Nat → Prop) : Prop := ∀ i, ¬ x i → s.seen.getD i false = true → i ∉ s.work → ∀ n ∈ nx i, Cov (af i (s.at i)) (s.at n) ∧ (s.seen.getD n false = true ∨ n ∈ s.work)
theorem ClsX.push {s : WS} {x : Nat → Prop} (h : ClsX af nx s x) (hok : s.ok N) {b : List MPath} {n : Nat} (hn : n < N) : ClsX af nx (pushS b s n) x := by
  intro i hx hs hw m hm
  rw [push_seen] at hs
  have hw' : i ∉ s.work := fun hh => hw (push_work hh)
  obtain ⟨h1, h2⟩ := h i hx hs hw' m hm
  rw [push_still hok hn hw, push_seen]
  exact ⟨h1.trans (push_grow hok hn m), h2.imp id push_work⟩
end
end Go.Lg

set_option linter.unusedSimpArgs false
set_option linter.unusedVariables false
namespace Go.Proofs.YtlkdcgfjmhjjpaaGreat
open Go Go.Lg Go.RowKit
set_option linter.unusedVariables false

/-- The paths that a point may take away. -/
def takes1 (x : MInst) : List MPath := x.to :: ⟨x.to.loc, []⟩ :: (opersL x.val).map (·.path)
theorem aft_mem {l : List MPath} {x : MInst} {p : MPath} (h : p ∈ aftS l x) : p ∈ l ∨ p ∈ takes1 x := by
  unfold aftS at h
  have hm : ∀ q, q ∈ movS l (opersL x.val) → q ∈ l ∨ q ∈ takes1 x := by
    intro q hq
    rcases movS_mem _ hq with hq | ⟨o, h1, _, rfl⟩
    · exact .inl hq
    · exact .inr (List.mem_cons_of_mem _ (List.mem_cons_of_mem _ (List.mem_map.2 ⟨o, h1, rfl⟩)))
  split at h
  · split at h
    · exact hm p (put_sub h)
    · exact hm p h
  · split at h
    · rcases mem_add_or h with h | h
      · exact .inl h
      · rw [h]; exact .inr (List.mem_cons_self ..)
    · split at h
      · rcases mem_add_or h with h | h
        · exact .inl h
        · rw [h]; exact .inr (List.mem_cons_of_mem _ (List.mem_cons_self ..))
      · exact .inl h
theorem aft_srt {l : List MPath} (x : MInst) (h : Srt l) : Srt (aftS l x) := by
  unfold aftS
  split
  · split
    · exact srt_put (movS_srt _ h)
    · exact movS_srt _ h
  · split
    · exact srt_add h
    · split
      · exact srt_add h
      · exact h
end Go.Proofs.YtlkdcgfjmhjjpaaGreat

set_option linter.unusedSimpArgs false
set_option linter.unusedVariables false
namespace Go.Lg

/-- A way of so many steps. -/
def pth (g : Nat → List Nat) : Nat → Nat → Nat → Prop
  | 0, s, t => s = t
  | d + 1, s, t => ∃ u, pth g d s u ∧ t ∈ g u

/-- The least number with a property, or -1. -/
def isLst (P : Nat → Prop) (v : Int) : Prop := (∃ d : Nat, P d ∧ (∀ e, P e → d ≤ e) ∧ v = d) ∨ ((∀ d, ¬ P d) ∧ v = -1)

theorem isLst_exists (P : Nat → Prop) : ∃ v, isLst P v := by
  by_cases h : ∃ d, P d
  · obtain ⟨d, hd⟩ := h
    have key : ∀ n, ∀ d, d ≤ n → P d → ∃ d : Nat, P d ∧ ∀ e, P e → d ≤ e := by
      intro n
      induction n with
      | zero =>
        intro d hd hp
        exact ⟨d, hp, fun e _ => by omega⟩
      | succ n ih =>
        intro d hd hp
        by_cases h2 : ∃ e, P e ∧ e < d
        · obtain ⟨e, he, hlt⟩ := h2
          exact ih e (by omega) he
        · exact ⟨d, hp, fun e he => by
            rcases Nat.lt_or_ge e d with h | h
            · exact absurd ⟨e, he, h⟩ h2
            · exact h⟩
    obtain ⟨d, h1, h2⟩ := key d d (Nat.le_refl _) hd
    exact ⟨d, .inl ⟨d, h1, h2, rfl⟩⟩
  · exact ⟨-1, .inr ⟨fun d hd => h ⟨d, hd⟩, rfl⟩⟩

theorem isLst_unique {P : Nat → Prop} {v w : Int} (h : isLst P v) (k : isLst P w) : v = w := by
  rcases h with ⟨d, h1, h2, rfl⟩ | ⟨h1, rfl⟩ <;> rcases k with ⟨e, k1, k2, rfl⟩ | ⟨k1, rfl⟩
  · have := h2 e k1
    have := k2 d h1
    omega
  · exact absurd h1 (k1 d)
  · exact absurd k1 (h1 e)
  · rfl

noncomputable def least (P : Nat → Prop) : Int := Classical.choose (isLst_exists P)
theorem least_isLst (P : Nat → Prop) : isLst P (least P) := Classical.choose_spec (isLst_exists P)
theorem least_eq {P : Nat → Prop} {v : Int} (h : isLst P v) : least P = v := isLst_unique (least_isLst P) h
section
variable (g : Nat → List Nat)
noncomputable def dist0 (s t : Nat) : Int := least fun d => pth g d s t
noncomputable def dist1 (s t : Nat) : Int := least fun d => 1 ≤ d ∧ pth g d s t
end

section
variable {g : Nat → List Nat}

theorem dist1_spec (s t : Nat) : isLst (fun d => 1 ≤ d ∧ pth g d s t) (dist1 g s t) := least_isLst _
/-- What is come to by one step more. -/
theorem dist1_step {s t : Nat} {n : Nat} (hn : 1 ≤ n) : dist1 g s t = n ↔ (∃ u, (if n = 1 then u = s else dist1 g s u = ((n - 1 : Nat) : Int)) ∧ t ∈ g u) ∧ ¬ (1 ≤ dist1 g s t ∧ dist1 g s t < n) := by
  constructor
  · intro h
    refine ⟨?_, by omega⟩
    rcases dist1_spec (g := g) s t with ⟨d, ⟨h1, h2⟩, h3, h4⟩ | ⟨_, h4⟩
    · obtain rfl : d = n := by omega
      obtain ⟨d, rfl⟩ : ∃ e, d = e + 1 := ⟨d - 1, by omega⟩
      obtain ⟨u, hu, ht⟩ := h2
      refine ⟨u, ?_, ht⟩
      by_cases hd : d = 0
      · subst hd
        rw [if_pos rfl]; exact (show s = u from hu).symm
      · rw [if_neg (by omega), Nat.add_sub_cancel]
        refine isLst_unique (dist1_spec s u) (.inl ⟨d, ⟨by omega, hu⟩, fun e he => ?_, rfl⟩)
        have := h3 (e + 1) ⟨by omega, u, he.2, ht⟩
        omega
    · omega
  · rintro ⟨⟨u, hu, ht⟩, hlt⟩
    have hp : pth g n s t := by
      obtain ⟨d, rfl⟩ : ∃ e, n = e + 1 := ⟨n - 1, by omega⟩
      refine ⟨u, ?_, ht⟩
      by_cases hd : d = 0
      · subst hd
        rw [if_pos rfl] at hu; subst hu; rfl
      · rw [if_neg (by omega), Nat.add_sub_cancel] at hu
        rcases dist1_spec (g := g) s u with ⟨e, ⟨_, h2⟩, _, h4⟩ | ⟨_, h4⟩
        · obtain rfl : e = d := by omega
          exact h2
        · omega
    rcases dist1_spec (g := g) s t with ⟨e, ⟨h1, h2⟩, h3, h4⟩ | ⟨h3, h4⟩
    · have := h3 n ⟨hn, hp⟩
      omega
    · exact absurd ⟨hn, hp⟩ (h3 n)

theorem dist1_pos {s t : Nat} : 1 ≤ dist1 g s t ∨ dist1 g s t = -1 := by
  rcases dist1_spec (g := g) s t with ⟨d, ⟨h1, _⟩, _, h4⟩ | ⟨_, h4⟩
  · left; omega
  · exact .inr h4

/-- By levels: where no level is reached, none behind is. -/
theorem dist1_gap {s : Nat} {n : Nat} (hn : 1 ≤ n) (h : ∀ t, dist1 g s t ≠ n) : ∀ (k : Nat) (t : Nat), dist1 g s t ≠ (n + k : Nat) := by
  intro k
  induction k with
  | zero => exact h
  | succ k ih =>
    intro t ht
    have := (dist1_step (g := g) (s := s) (t := t) (n := n + (k + 1)) (by omega)).1 ht
    obtain ⟨⟨u, hu, _⟩, _⟩ := this
    rw [if_neg (by omega)] at hu
    exact ih u (by rw [hu]; congr 1)

theorem dist0_of_dist1 {s t : Nat} (h : t ≠ s) : dist0 g s t = dist1 g s t := by
  refine least_eq ?_
  rcases dist1_spec (g := g) s t with ⟨d, ⟨h1, h2⟩, h3, h4⟩ | ⟨h3, h4⟩
  · refine .inl ⟨d, h2, fun e he => ?_, h4⟩
    cases e with
    | zero => exact absurd (show s = t from he).symm h
    | succ e => exact h3 _ ⟨by omega, he⟩
  · refine .inr ⟨fun d hd => ?_, h4⟩
    cases d with
    | zero => exact absurd (show s = t from hd).symm h
    | succ d => exact h3 _ ⟨by omega, hd⟩
theorem dist0_self (s : Nat) : dist0 g s s = 0 := least_eq (.inl ⟨0, rfl, fun _ _ => Nat.zero_le _, rfl⟩)

end

/-- The points behind a point. -/
def nx (m : Mir) (i : Nat) : List Nat := match m.code[i]? with
  | some x => x.next.map Int.toNat
  | none => []

end Go.Lg

set_option linter.unusedSimpArgs false
set_option linter.unusedVariables false
namespace Go.Lg
open Go Go.RowKit Go.Proofs.YtlkdcgfjmhjjpaaGreat

/-! Lists of lists, as they lie. -/
def cE (l : List MPath) : List V := [encE l]
theorem cE_len (l : List MPath) : (cE l).length = 1 := rfl
theorem lE_len (l : List (List MPath)) : (l.flatMap cE).length = l.length := by rw [flat_len cE_len, Nat.mul_one]
theorem lE_snap (H : Heap) (d : Nat) (l : List (List MPath)) : (l.flatMap cE).map (snap H (d + 1)) = l.flatMap cE := by
  induction l with
  | nil => rfl
  | cons x r ih => rw [List.flatMap_cons, List.map_append, ih]; unfold cE; rw [List.map_cons, List.map_nil, snap_encE]
theorem lE_sok (H : Heap) (d : Nat) (l : List (List MPath)) : (l.flatMap cE).all (sok H (d + 1)) = true := by
  induction l with
  | nil => rfl
  | cons x r ih => rw [List.flatMap_cons, List.all_append, ih]; unfold cE; rw [List.all_cons, List.all_nil, sok_encE]; rfl
theorem lE_imv (d : Nat) (l : List (List MPath)) : (l.flatMap cE).all (imV d) = true := by
  induction l with
  | nil => rfl
  | cons x r ih => rw [List.flatMap_cons, List.all_append, ih]; unfold cE; rw [List.all_cons, List.all_nil, imv_encE]; rfl
theorem one_encE (l : List MPath) : V.one (encE l) = true := by unfold encE; split <;> rfl
theorem cells_encE (l : List MPath) : (encE l).cells = [encE l] := by unfold encE; split <;> rfl
theorem lE_take {l : List (List MPath)} {n : Nat} (h : l.length ≤ n) : (l.flatMap cE).take n = l.flatMap cE := List.take_of_length_le (by rw [lE_len]; exact h)
theorem lE_set {l : List (List MPath)} {k : Nat} {v : List MPath} (h : k < l.length) : setCells (l.flatMap cE) k [encE v] = (l.set k v).flatMap cE := by
  induction l generalizing k with
  | nil => cases h
  | cons x r ih =>
    cases k with
    | zero => simp [setCells, cE]
    | succ k =>
      have := ih (k := k) (by simpa using h)
      simp only [setCells, List.flatMap_cons, List.set_cons_succ, cE, List.cons_append, List.nil_append, List.length_singleton, List.take_succ_cons] at this ⊢
      rw [show k + 1 + 1 = (k + 1) + 1 from rfl, List.drop_succ_cons, this]
theorem lE_mk (n : Nat) : (List.replicate n [V.e0]).flatten = (List.replicate n ([] : List MPath)).flatMap cE := by rw [List.flatMap_def, List.map_replicate]; rfl

theorem ld_cE {l : List (List MPath)} {i : Nat} (h : i < l.length) : ldV false 1 (l.flatMap cE) i = some (encE l[i]) := by
  have := ld_flat0 (agg := false) (n := 1) cE_len h (by decide) (by decide)
  rw [Nat.mul_one] at this; rw [this]; rfl

theorem foldA_take {l b : List MPath} {j : Nat} (h : j < b.length) : foldA l (b.take (j + 1)) = addS (foldA l (b.take j)) b[j] := by
  rw [List.take_succ_eq_append_getElem h, foldA_app]; rfl
/-! One way onward: what comes of it. -/
theorem push_no {b : List MPath} {s : WS} {n N : Nat} (h : s.ok N) (hn : n < N) (h1 : s.seen[n]'(by rw [h.seen]; exact hn) = true) (h2 : foldA (s.at n) b = s.at n) : pushS b s n = s := by
  unfold pushS
  rw [if_neg]
  rw [List.getD_eq_getElem?_getD, List.getElem?_eq_getElem (by rw [h.seen]; exact hn), Option.getD_some, h1, decide_eq_true h2]; decide
theorem push_yes {b : List MPath} {s : WS} {n N : Nat} (h : s.ok N) (hn : n < N) (h1 : s.seen[n]'(by rw [h.seen]; exact hn) = false ∨ foldA (s.at n) b ≠ s.at n) :
    pushS b s n = ⟨s.seen, if s.work.contains n then s.work else s.work ++ [n], s.out.set n (foldA (s.at n) b)⟩ := by
  unfold pushS
  rw [if_pos]
  rw [List.getD_eq_getElem?_getD, List.getElem?_eq_getElem (by rw [h.seen]; exact hn), Option.getD_some]
  rcases h1 with h1 | h1
  · rw [h1]; rfl
  · rw [decide_eq_false h1]; simp

/-! The worklist of a program. -/
/-- The locals that hold nothing at first, of the first ones. -/
def freeL (m : Mir) : Nat → List MPath
  | 0 => []
  | k + 1 => freeL m k ++ (if (m.locals[k]?.map (·.param)).getD true then [] else [⟨(k : Int), []⟩])
def afM (m : Mir) (i : Nat) (l : List MPath) : List MPath := match m.code[i]? with
  | some x => aftS l x
  | none => l
def univ (m : Mir) : List MPath := freeL m m.locals.length ++ m.code.flatMap takes1
def ws0 (m : Mir) : WS := ⟨List.replicate m.code.length false, [0], (List.replicate m.code.length []).set 0 (foldA [] (freeL m m.locals.length))⟩
def runG (m : Mir) : WS := runS (afM m) (nx m) (pot (univ m) m.code.length (ws0 m) + 1) (ws0 m)

theorem freeL_len (m : Mir) : ∀ k, (freeL m k).length ≤ k
  | 0 => Nat.le_refl _
  | k + 1 => by
    have := freeL_len m k
    rw [freeL, List.length_append]
    split
    · simp only [List.length_nil]; omega
    · simp only [List.length_cons, List.length_nil]; omega
theorem freeL_small (m : Mir) : ∀ k, ∀ p ∈ freeL m k, p.steps = []
  | 0, _, h => by cases h
  | k + 1, p, h => by
    rcases List.mem_append.1 h with h | h
    · exact freeL_small m k p h
    · split at h
      · cases h
      · rw [List.mem_singleton.1 h]
theorem freeL_yes {m : Mir} {k : Nat} (h : k < m.locals.length) (hp : m.locals[k].param = true) : freeL m (k + 1) = freeL m k := by
  rw [freeL, List.getElem?_eq_getElem h]; simp [hp]
theorem freeL_no {m : Mir} {k : Nat} (h : k < m.locals.length) (hp : m.locals[k].param = false) : freeL m (k + 1) = freeL m k ++ [⟨(k : Int), []⟩] := by
  rw [freeL, List.getElem?_eq_getElem h]; simp [hp]
/-- The lists at first, behind some locals. -/
def out0 (m : Mir) (k : Nat) : List (List MPath) := (List.replicate m.code.length []).set 0 (foldA [] (freeL m k))
theorem out0_len (m : Mir) (k : Nat) : (out0 m k).length = m.code.length := by simp [out0]
theorem out0_z (m : Mir) : out0 m 0 = List.replicate m.code.length [] := by
  rw [out0, freeL]
  cases m.code.length with
  | zero => rfl
  | succ n => rfl
theorem out0_get {m : Mir} {k : Nat} (h : 0 < (out0 m k).length) : (out0 m k)[0] = foldA [] (freeL m k) := by simp [out0]
theorem out0_set {m : Mir} {k : Nat} (h : k < m.locals.length) (hp : m.locals[k].param = false) : (out0 m k).set 0 (addS (foldA [] (freeL m k)) ⟨(k : Int), []⟩) = out0 m (k + 1) := by
  rw [out0, List.set_set, out0, freeL_no h hp, foldA_app]; rfl
/-- Sorted lists out of few are short. -/
theorem nodup_len : ∀ {l U : List MPath}, l.Nodup → (∀ x ∈ l, x ∈ U) → l.length ≤ U.length
  | [], _, _, _ => Nat.zero_le _
  | x :: l, U, h, hU => by
    have hx := hU x (List.mem_cons_self ..)
    have := nodup_len (l := l) (U := U.erase x) (List.nodup_cons.1 h).2 fun y hy => by
      refine (List.mem_erase_of_ne ?_).2 (hU y (List.mem_cons_of_mem _ hy))
      rintro rfl
      exact (List.nodup_cons.1 h).1 hy
    rw [List.length_erase_of_mem hx] at this
    have h0 : 0 < U.length := List.length_pos_of_mem hx
    rw [List.length_cons]; omega
theorem srt_nodup {l : List MPath} (h : Srt l) : l.Nodup := h.imp fun {a b} h e => by rw [e, ltP_irrefl] at h; cases h
theorem srt_len {l U : List MPath} (h : Srt l) (hU : ∀ x ∈ l, x ∈ U) : l.length ≤ U.length := nodup_len (srt_nodup h) hU

theorem afM_mem (m : Mir) (i : Nat) (l : List MPath) (h : ∀ p ∈ l, p ∈ univ m) : ∀ p ∈ afM m i l, p ∈ univ m := by
  intro p hp
  unfold afM at hp
  split at hp
  · rename_i x e
    rcases aft_mem hp with hp | hp
    · exact h p hp
    · exact List.mem_append_right _ (List.mem_flatMap.2 ⟨x, List.mem_of_getElem? e, hp⟩)
  · exact h p hp
theorem ws0_ok (m : Mir) (hN : 0 < m.code.length) : WOk (univ m) m.code.length (ws0 m) := by
  refine ⟨⟨by simp [ws0], by simp [ws0]⟩, ?_, ?_, ?_⟩
  · intro i hi
    rw [List.mem_singleton.1 hi]; exact hN
  · intro l hl p hp
    rcases List.mem_or_eq_of_mem_set hl with hl | rfl
    · rw [(List.mem_replicate.1 hl).2] at hp; cases hp
    · rcases foldA_mem _ hp with hp | hp
      · cases hp
      · exact List.mem_append_left _ hp
  · intro l hl
    rcases List.mem_or_eq_of_mem_set hl with hl | rfl
    · rw [(List.mem_replicate.1 hl).2]; exact List.Pairwise.nil
    · exact foldA_srt _ List.Pairwise.nil
theorem uncov_len (U l : List MPath) : uncov U l ≤ U.length := List.countP_le_length
theorem sum_le {l : List Nat} {b : Nat} (h : ∀ x ∈ l, x ≤ b) : l.sum ≤ l.length * b := by
  induction l with
  | nil => simp
  | cons x l ih =>
    have h1 := h x (List.mem_cons_self ..)
    have h2 := ih fun y hy => h y (List.mem_cons_of_mem _ hy)
    rw [List.sum_cons, List.length_cons, Nat.add_mul]; omega
theorem pot_le {U : List MPath} {N : Nat} {s : WS} (h : s.ok N) : pot U N s ≤ 2 * (N * U.length) + 2 * N + s.work.length := by
  have h1 := sum_le (l := s.out.map (uncov U)) (b := U.length) fun x hx => by
    obtain ⟨l, _, rfl⟩ := List.mem_map.1 hx
    exact uncov_len U l
  rw [List.length_map, h.out] at h1
  have h2 : free s N ≤ N := by
    have := List.countP_le_length (p := fun n => !s.seen.getD n false && !s.work.contains n) (l := List.range N)
    rw [List.length_range] at this; exact this
  unfold pot; omega
theorem work_pot {U : List MPath} {N : Nat} (s : WS) : s.work.length ≤ pot U N s := by unfold pot; omega
end Go.Lg

namespace Go.Proofs.YtlkdcgfjmhjjpaaGreat
open Go Go.Lg
set_option maxRecDepth 100000

def lcg47 : LC := .seq (.rego 0 [⟨some 6, .mov (.con (.bool false)), none⟩]) (.keep [0, 1, 2] (.seq (.seq (.rego 1 [⟨some 10, .mov (.tmp 0), none⟩, ⟨some 11, .len false (.tmp 10), none⟩, ⟨some 12, .mov (.tmp 1), none⟩, ⟨some 13, .len false (.tmp 12), none⟩, ⟨some 14, .bin .neq (.tmp 11) (.tmp 13), none⟩]) (.keep [0, 1, 2, 14] (.cond (.tmp 14) (.keep [] (.seq (.rego 2 [⟨some 6, .mov (.con (.bool false)), none⟩]) .ret)) .skip))) (.keep [0, 1, 2] (.seq (.seq (.rego 3 [⟨some 15, .mov (.tmp 0), none⟩, ⟨some 16, .len false (.tmp 15), none⟩, ⟨some 17, .mov (.con (.int .i64 0)), none⟩]) (.keep [1, 2, 15, 16, 17] (.block 0 (.loop (.seq (.rego 4 [⟨some 18, .bin .lss (.tmp 17) (.tmp 16), none⟩]) (.keep [1, 2, 15, 16, 17, 18] (.seq (.cond (.tmp 18) .skip (.exit 0)) (.keep [1, 2, 15, 16, 17] (.seq (.block 1 (.seq (.rego 5 [⟨some 19, .mov (.tmp 17), none⟩, ⟨some 20, .iaS 2 (.tmp 15) (.tmp 17), none⟩, ⟨some 21, .load true 2 (.tmp 20), none⟩, ⟨some 8, .new [.int .i64 0, .e0], none⟩, ⟨some 7, .mov (.tmp 19), none⟩, ⟨none, .store 2 (.tmp 8) (.tmp 21), none⟩]) (.keep [1, 2, 7, 8, 15, 16, 17] (.seq (.rego 6 [⟨some 22, .mov (.tmp 1), none⟩, ⟨some 23, .mov (.tmp 7), none⟩, ⟨some 24, .iaS 2 (.tmp 22) (.tmp 23), none⟩, ⟨some 25, .load true 2 (.tmp 24), none⟩, ⟨some 9, .new [.int .i64 0, .e0], none⟩, ⟨none, .store 2 (.tmp 9) (.tmp 25), none⟩]) (.keep [1, 2, 8, 9, 15, 16, 17] (.seq (.rego 7 [⟨some 26, .mov (.tmp 2), none⟩, ⟨some 27, .load true 2 (.tmp 8), none⟩, ⟨some 28, .load true 2 (.tmp 9), none⟩, ⟨some 29, .callv (.tmp 26) [.tmp 27, .tmp 28], none⟩, ⟨some 30, .un .not (.tmp 29), none⟩]) (.keep [1, 2, 15, 16, 17, 30] (.cond (.tmp 30) (.keep [] (.seq (.rego 8 [⟨some 6, .mov (.con (.bool false)), none⟩]) .ret)) .skip)))))))) (.keep [1, 2, 15, 16, 17] (.rego 9 [⟨some 31, .bin .add (.tmp 17) (.con (.int .i64 1)), none⟩, ⟨some 17, .mov (.tmp 31), none⟩]))))))))))) (.keep [] (.seq (.rego 10 [⟨some 6, .mov (.con (.bool true)), none⟩]) .ret))))))
theorem fdg47 : fnData Tryz.prog 47 = some (32, lcg47.erase, [LRV.tmp 6]) := by kernel_rfl

def lcg48 : LC := .seq (.rego 0 [⟨some 4, .mov (.con (.bool false)), none⟩]) (.keep [0, 1] (.seq (.rego 1 [⟨some 5, .mov (.tmp 0), none⟩, ⟨some 6, .mov (.tmp 1), none⟩, ⟨some 7, .call 65 [.tmp 5, .tmp 6], none⟩, ⟨some 8, .bin .geq (.tmp 7) (.con (.int .i64 0)), none⟩, ⟨some 4, .mov (.tmp 8), none⟩]) .ret))
theorem fdg48 : fnData Tryz.prog 48 = some (9, lcg48.erase, [LRV.tmp 4]) := by kernel_rfl

def lcg65 : LC := .seq (.rego 0 [⟨some 4, .mov (.con (.int .i64 0)), none⟩]) (.keep [0, 1] (.seq (.seq (.rego 1 [⟨some 6, .mov (.tmp 0), none⟩, ⟨some 7, .len false (.tmp 6), none⟩, ⟨some 8, .mov (.con (.int .i64 0)), none⟩]) (.keep [0, 1, 7, 8] (.block 0 (.loop (.seq (.rego 2 [⟨some 9, .bin .lss (.tmp 8) (.tmp 7), none⟩]) (.keep [0, 1, 7, 8, 9] (.seq (.cond (.tmp 9) .skip (.exit 0)) (.keep [0, 1, 7, 8] (.seq (.block 1 (.seq (.rego 3 [⟨some 10, .mov (.tmp 8), none⟩, ⟨some 5, .mov (.tmp 10), none⟩]) (.keep [0, 1, 5, 7, 8] (.seq (.rego 4 [⟨some 11, .mov (.tmp 1), none⟩, ⟨some 12, .mov (.tmp 0), none⟩, ⟨some 13, .mov (.tmp 5), none⟩, ⟨some 14, .iaS 1 (.tmp 12) (.tmp 13), none⟩, ⟨some 15, .load false 1 (.tmp 14), none⟩, ⟨some 16, .bin .eql (.tmp 11) (.tmp 15), none⟩]) (.keep [0, 1, 5, 7, 8, 16] (.cond (.tmp 16) (.keep [5] (.seq (.rego 5 [⟨some 17, .mov (.tmp 5), none⟩, ⟨some 4, .mov (.tmp 17), none⟩]) .ret)) .skip)))))) (.keep [0, 1, 7, 8] (.rego 6 [⟨some 18, .bin .add (.tmp 8) (.con (.int .i64 1)), none⟩, ⟨some 8, .mov (.tmp 18), none⟩]))))))))))) (.keep [] (.seq (.rego 7 [⟨some 4, .mov (.con (.int .i64 (-1))), none⟩]) .ret))))
theorem fdg65 : fnData Tryz.prog 65 = some (19, lcg65.erase, [LRV.tmp 4]) := by kernel_rfl

def lcg67 : LC := .seq (.rego 0 [⟨some 3, .box (.tmp 1), none⟩, ⟨some 4, .mov (.con (.bool false)), none⟩]) (.keep [0, 3] (.seq (.rego 1 [⟨some 6, .load true 2 (.tmp 3), none⟩, ⟨some 7, .call 76 [.tmp 6], none⟩, ⟨some 5, .new [.int .i64 0, .e0], none⟩, ⟨none, .store 2 (.tmp 5) (.tmp 7), none⟩]) (.keep [0, 5] (.seq (.rego 2 [⟨some 8, .mov (.tmp 0), none⟩, ⟨some 9, .mkfn 77 [.tmp 5], none⟩, ⟨some 10, .call 28 [.tmp 8, .tmp 9], none⟩, ⟨some 4, .mov (.tmp 10), none⟩]) .ret))))
theorem fdg67 : fnData Tryz.prog 67 = some (11, lcg67.erase, [LRV.tmp 4]) := by kernel_rfl

def lcg76 : LC := .seq (.rego 0 [⟨some 1, .box (.tmp 0), none⟩, ⟨some 2, .new [.int .i64 0, .e0], none⟩]) (.keep [1, 2] (.seq (.rego 1 [⟨some 4, .fad 1 (.tmp 1), none⟩, ⟨some 5, .load false 1 (.tmp 4), none⟩, ⟨some 6, .call 62 [.tmp 5, .con (.str { data := #[42] })], none⟩, ⟨some 3, .mov (.tmp 6), none⟩]) (.keep [1, 2, 3] (.seq (.seq (.rego 2 [⟨some 7, .mov (.tmp 3), none⟩, ⟨some 8, .bin .lss (.tmp 7) (.con (.int .i64 0)), none⟩]) (.keep [1, 2, 3, 8] (.cond (.tmp 8) (.keep [1, 2] (.rego 3 [⟨some 9, .fad 1 (.tmp 1), none⟩, ⟨some 10, .load false 1 (.tmp 9), none⟩, ⟨some 11, .len false (.tmp 10), none⟩, ⟨some 3, .mov (.tmp 11), none⟩])) .skip))) (.keep [1, 2, 3] (.seq (.reg 4 [⟨some 12, .fad 0 (.tmp 1), none⟩, ⟨some 13, .load false 1 (.tmp 12), none⟩, ⟨some 14, .fad 1 (.tmp 1), none⟩, ⟨some 15, .load false 1 (.tmp 14), none⟩, ⟨some 16, .mov (.tmp 3), none⟩, ⟨some 17, .slV 1 (.tmp 15) none (some (.tmp 16)), none⟩, ⟨some 18, .appE 1 16 (.con .e0) (.tmp 17), none⟩, ⟨some 19, .build [.int .i64 0, .e0] [⟨0, 1, .tmp 13⟩, ⟨1, 1, .tmp 18⟩], none⟩, ⟨none, .store 2 (.tmp 2) (.tmp 19), none⟩]) .ret))))))
theorem fdg76 : fnData Tryz.prog 76 = some (20, lcg76.erase, [LRV.cell 2 true 2]) := by kernel_rfl

def lcg77 : LC := .seq (.rego 0 [⟨some 2, .box (.tmp 0), none⟩, ⟨some 3, .mov (.con (.bool false)), none⟩]) (.keep [1, 2] (.seq (.rego 1 [⟨some 4, .load true 2 (.tmp 1), none⟩, ⟨some 5, .load true 2 (.tmp 2), none⟩, ⟨some 6, .call 30 [.tmp 4, .tmp 5], none⟩, ⟨some 7, .mov (.tmp 6), none⟩, ⟨some 8, .load true 2 (.tmp 2), some ⟨7, false⟩⟩, ⟨some 9, .load true 2 (.tmp 1), some ⟨7, false⟩⟩, ⟨some 10, .call 30 [.tmp 8, .tmp 9], some ⟨7, false⟩⟩, ⟨some 11, .pick (.tmp 7) (.con (.bool true)) (.tmp 10), none⟩, ⟨some 3, .mov (.tmp 11), none⟩]) .ret))
theorem fdg77 : fnData Tryz.prog 77 = some (12, lcg77.erase, [LRV.tmp 3]) := by kernel_rfl

def lcg50 : LC := .seq (.rego 0 [⟨some 3, .box (.tmp 1), none⟩, ⟨some 4, .mov (.con (.bool false)), none⟩]) (.keep [0, 3] (.seq (.seq (.rego 1 [⟨some 5, .fad 0 (.tmp 3), none⟩, ⟨some 6, .load false 1 (.tmp 5), none⟩, ⟨some 7, .bin .neq (.tmp 6) (.con (.int .i64 1)), none⟩, ⟨some 8, .mov (.tmp 7), none⟩, ⟨some 9, .fad 2 (.tmp 3), some ⟨8, false⟩⟩, ⟨some 10, .load false 1 (.tmp 9), some ⟨8, false⟩⟩, ⟨some 11, .un .not (.tmp 10), some ⟨8, false⟩⟩, ⟨some 12, .pick (.tmp 8) (.con (.bool true)) (.tmp 11), none⟩, ⟨some 13, .mov (.tmp 12), none⟩, ⟨some 14, .fad 3 (.tmp 3), some ⟨13, false⟩⟩, ⟨some 15, .fad 1 (.tmp 14), some ⟨13, false⟩⟩, ⟨some 16, .load false 1 (.tmp 15), some ⟨13, false⟩⟩, ⟨some 17, .len false (.tmp 16), some ⟨13, false⟩⟩, ⟨some 18, .bin .eql (.tmp 17) (.con (.int .i64 0)), some ⟨13, false⟩⟩, ⟨some 19, .pick (.tmp 13) (.con (.bool true)) (.tmp 18), none⟩, ⟨some 20, .mov (.tmp 19), none⟩, ⟨some 21, .fad 3 (.tmp 3), some ⟨20, false⟩⟩, ⟨some 22, .fad 1 (.tmp 21), some ⟨20, false⟩⟩, ⟨some 23, .load false 1 (.tmp 22), some ⟨20, false⟩⟩, ⟨some 24, .call 35 [.tmp 23, .con (.str { data := #[42] })], some ⟨20, false⟩⟩, ⟨some 25, .pick (.tmp 20) (.con (.bool true)) (.tmp 24), none⟩]) (.keep [0, 3, 25] (.cond (.tmp 25) (.keep [] (.seq (.rego 2 [⟨some 4, .mov (.con (.bool false)), none⟩]) .ret)) .skip))) (.keep [0, 3] (.seq (.rego 3 [⟨some 26, .mov (.tmp 0), none⟩, ⟨some 27, .mkfn 68 [.tmp 3], none⟩, ⟨some 28, .call 28 [.tmp 26, .tmp 27], none⟩, ⟨some 4, .mov (.tmp 28), none⟩]) .ret))))
theorem fdg50 : fnData Tryz.prog 50 = some (29, lcg50.erase, [LRV.tmp 4]) := by kernel_rfl

def lcg71 : LC := .seq (.rego 0 [⟨some 2, .mov (.con (.bool false)), none⟩]) (.keep [0] (.seq (.rego 1 [⟨some 3, .mov (.tmp 0), none⟩, ⟨some 4, .mov (.tmp 0), none⟩, ⟨some 5, .bin .neq (.tmp 3) (.tmp 4), none⟩, ⟨some 2, .mov (.tmp 5), none⟩]) .ret))
theorem fdg71 : fnData Tryz.prog 71 = some (6, lcg71.erase, [LRV.tmp 2]) := by kernel_rfl

def lcg54 : LC := .seq (.rego 0 [⟨some 4, .mov (.con (.int .i64 0)), none⟩]) (.keep [0, 1] (.seq (.rego 1 [⟨some 7, .mov (.tmp 0), none⟩, ⟨some 8, .call 71 [.tmp 7], none⟩, ⟨some 5, .mov (.tmp 8), none⟩]) (.keep [0, 1, 5] (.seq (.rego 2 [⟨some 9, .mov (.tmp 1), none⟩, ⟨some 10, .call 71 [.tmp 9], none⟩, ⟨some 6, .mov (.tmp 10), none⟩]) (.keep [0, 1, 5, 6] (.seq (.seq (.rego 3 [⟨some 11, .mov (.tmp 5), none⟩]) (.keep [0, 1, 6, 11] (.cond (.tmp 11) (.keep [6] (.seq (.seq (.rego 4 [⟨some 12, .mov (.tmp 6), none⟩]) (.keep [12] (.cond (.tmp 12) (.keep [] (.seq (.rego 5 [⟨some 4, .mov (.con (.int .i64 0)), none⟩]) .ret)) .skip))) (.keep [] (.seq (.rego 6 [⟨some 4, .mov (.con (.int .i64 (-1))), none⟩]) .ret)))) .skip))) (.keep [0, 1, 6] (.seq (.seq (.rego 7 [⟨some 13, .mov (.tmp 6), none⟩]) (.keep [0, 1, 13] (.cond (.tmp 13) (.keep [] (.seq (.rego 8 [⟨some 4, .mov (.con (.int .i64 1)), none⟩]) .ret)) .skip))) (.keep [0, 1] (.seq (.seq (.rego 9 [⟨some 14, .mov (.tmp 0), none⟩, ⟨some 15, .mov (.tmp 1), none⟩, ⟨some 16, .bin .lss (.tmp 14) (.tmp 15), none⟩]) (.keep [0, 1, 16] (.cond (.tmp 16) (.keep [] (.seq (.rego 10 [⟨some 4, .mov (.con (.int .i64 (-1))), none⟩]) .ret)) .skip))) (.keep [0, 1] (.seq (.seq (.rego 11 [⟨some 17, .mov (.tmp 0), none⟩, ⟨some 18, .mov (.tmp 1), none⟩, ⟨some 19, .bin .gtr (.tmp 17) (.tmp 18), none⟩]) (.keep [19] (.cond (.tmp 19) (.keep [] (.seq (.rego 12 [⟨some 4, .mov (.con (.int .i64 1)), none⟩]) .ret)) .skip))) (.keep [] (.seq (.rego 13 [⟨some 4, .mov (.con (.int .i64 0)), none⟩]) .ret))))))))))))))
theorem fdg54 : fnData Tryz.prog 54 = some (20, lcg54.erase, [LRV.tmp 4]) := by kernel_rfl

def lcg53 : LC := .seq (.rego 0 [⟨some 2, .mov (.con (.int .i64 0)), none⟩]) (.keep [0] (.seq (.rego 1 [⟨some 3, .mov (.con (.int .i64 0)), none⟩]) (.keep [0, 3] (.seq (.seq (.rego 2 [⟨some 6, .mov (.tmp 0), none⟩, ⟨some 7, .len false (.tmp 6), none⟩, ⟨some 8, .mov (.con (.int .i64 0)), none⟩]) (.keep [3, 6, 7, 8] (.block 0 (.loop (.seq (.rego 3 [⟨some 9, .bin .lss (.tmp 8) (.tmp 7), none⟩]) (.keep [3, 6, 7, 8, 9] (.seq (.cond (.tmp 9) .skip (.exit 0)) (.keep [3, 6, 7, 8] (.seq (.block 1 (.seq (.rego 4 [⟨some 10, .iaS 1 (.tmp 6) (.tmp 8), none⟩, ⟨some 11, .load false 1 (.tmp 10), none⟩, ⟨some 5, .mov (.tmp 11), none⟩]) (.keep [3, 5, 6, 7, 8] (.seq (.rego 5 [⟨some 12, .mov (.tmp 5), none⟩, ⟨some 13, .mov (.tmp 3), none⟩, ⟨some 14, .bin .neq (.tmp 12) (.tmp 13), none⟩]) (.keep [3, 5, 6, 7, 8, 14] (.cond (.tmp 14) (.keep [5] (.seq (.rego 6 [⟨some 15, .mov (.tmp 5), none⟩, ⟨some 2, .mov (.tmp 15), none⟩]) .ret)) .skip)))))) (.keep [3, 6, 7, 8] (.rego 7 [⟨some 16, .bin .add (.tmp 8) (.con (.int .i64 1)), none⟩, ⟨some 8, .mov (.tmp 16), none⟩]))))))))))) (.keep [3] (.seq (.rego 8 [⟨some 17, .mov (.tmp 3), none⟩, ⟨some 2, .mov (.tmp 17), none⟩]) .ret))))))
theorem fdg53 : fnData Tryz.prog 53 = some (18, lcg53.erase, [LRV.tmp 2]) := by kernel_rfl

def lcg52 : LC := .seq (.rego 0 [⟨some 2, .box (.tmp 0), none⟩, ⟨some 3, .box (.tmp 1), none⟩, ⟨some 4, .mov (.con (.int .i64 0)), none⟩]) (.keep [2, 3] (.seq (.regf 1 [0, 1, 0, 4, 15, 0, 32, 0, 128, 511, 1023, 2047, 4095] [⟨some 5, .fad 0 (.tmp 2), none⟩, ⟨some 6, .load false 1 (.tmp 5), none⟩, ⟨some 7, .fad 0 (.tmp 3), none⟩, ⟨some 8, .load false 1 (.tmp 7), none⟩, ⟨some 9, .call 54 [.tmp 6, .tmp 8], none⟩, ⟨some 10, .fad 1 (.tmp 2), none⟩, ⟨some 11, .load false 1 (.tmp 10), none⟩, ⟨some 12, .fad 1 (.tmp 3), none⟩, ⟨some 13, .load false 1 (.tmp 12), none⟩, ⟨some 14, .call 54 [.tmp 11, .tmp 13], none⟩, ⟨some 15, .bsl 2 [.int .i64 0, .int .i64 0] [⟨0, 1, .tmp 9⟩, ⟨1, 1, .tmp 14⟩], none⟩, ⟨some 16, .call 53 [.tmp 15], none⟩, ⟨some 4, .mov (.tmp 16), none⟩]) .ret))
theorem fdg52 : fnData Tryz.prog 52 = some (17, lcg52.erase, [LRV.tmp 4]) := by kernel_rfl

end Go.Proofs.YtlkdcgfjmhjjpaaGreat

set_option linter.unusedSimpArgs false
set_option linter.unusedVariables false
namespace Go.Proofs.YtlkdcgfjmhjjpaaGreat
open Go Go.Lg Go.RowKit
set_option linter.unusedVariables false
set_option linter.unusedSimpArgs false
set_option maxRecDepth 20000

theorem idxI_ret (l : List Int) (s : Int) (hl : l.length ≤ 4611686018427387904) : PRet Tryz.prog 65 [encL cI l, .int .i64 s] (.int .i64 (idx (fun x => decide (s = x)) l 0)) := by
  refine pret_intro fdg65 (by simp) ?_
  simp only [lcg65, VCA, simprocAttr, encL, MCA]
  refine loop_vcg (ι := Nat × (Nat → Nat)) (fun y => stO [(0, .val (encL cI l)), (1, .val (.int .i64 s)), (7, .val (.int .i64 l.length)), (8, .val (.int .i64 y.1))] y.2)
    (fun y => y.1 ≤ l.length ∧ idx (fun x => decide (s = x)) l 0 = idx (fun x => decide (s = x)) (l.drop y.1) y.1) (fun y => l.length - y.1) (0, _) ⟨Nat.zero_le _, rfl⟩ (ent_of _ [] rfl rfl (by simp only [VCA, simprocAttr, encL, MCA])) ?_
  rintro ⟨k, c⟩ hk
  obtain ⟨hk, hb⟩ : k ≤ l.length ∧ idx (fun x => decide (s = x)) l 0 = idx (fun x => decide (s = x)) (l.drop k) k := hk
  simp only [VCA, simprocAttr, encL, MCA]
  refine condD_of (fun h => ?_) (fun h => ?_)
  · have hk' : k < l.length := by omega
    have i1 : 0 ≤ (k : Int) ∧ (k : Int) < l.length := by omega
    have i3 : InI64 ((k : Int) + 1) := by unfold InI64; omega
    rw [drop_idx _ hk'] at hb
    simp only [VCA, simprocAttr, encL, MCA, hk', i1, i3]
    cases b1 : decide (s = l[k]) <;> simp only [VCA, simprocAttr, encL, MCA, b1, i3]
    · rw [if_neg (by rw [b1]; decide)] at hb
      exact backTo_of (k + 1, _) ⟨hk', hb⟩ (by simp only []; omega) (ent_of _ [] rfl rfl (by simp only [VCA, simprocAttr, encL, MCA]))
    · rw [if_pos b1] at hb
      rw [hb]
  · have hk' : k = l.length := by omega
    subst hk'
    simp only [VCA, simprocAttr, encL, MCA]
    rw [hb, List.drop_length]; rfl
theorem hasI_ret (l : List Int) (s : Int) (hl : l.length ≤ 4611686018427387904) : PRet Tryz.prog 48 [encL cI l, .int .i64 s] (.bool (l.any fun x => decide (s = x))) := by
  refine pret_intro fdg48 (by simp) ?_
  simp only [lcg48, VCA, simprocAttr, encL, MCA]
  refine callX_of (idxI_ret l s hl) (.inr rfl) ?_
  simp only [VCA, simprocAttr, encL, idx_any _ l 0 (by decide)]

theorem same_eq (a b : MPath) : (prefS a b && prefS b a) = decide (a = b) := by
  rw [Bool.eq_iff_iff, Bool.and_eq_true, decide_eq_true_eq]
  exact ⟨fun h => prefS_anti h.1 h.2, fun h => by rw [h]; exact ⟨prefS_refl b, prefS_refl b⟩⟩
theorem eqf_ret (a b : List MPath) (hl : a.length ≤ 1000000) (ha : ∀ x ∈ a, smallP x) (hb : ∀ x ∈ b, smallP x) :
    PRet Tryz.prog 47 [encL MPath.cells a, encL MPath.cells b, .fn 37 []] (.bool (decide (a = b))) := by
  refine pret_intro fdg47 (by simp) ?_
  simp only [lcg47, VCA, simprocAttr, encL, MCA]
  cases b0 : decide ((a.length : Int) = b.length) <;> simp only [VCA, simprocAttr, encL, MCA, b0]
  · have : decide (a = b) = false := decide_eq_false (by rintro rfl; simp at b0)
    rw [this]
  have hab : a.length = b.length := by have := of_decide_eq_true b0; omega
  refine loop_vcg (ι := Nat × (Nat → Nat)) (fun y => stO [(1, .val (encL MPath.cells b)), (2, .clo 37 []), (15, .val (encL MPath.cells a)), (16, .val (.int .i64 a.length)), (17, .val (.int .i64 y.1))] y.2)
    (fun y => y.1 ≤ a.length ∧ decide (a.drop y.1 = b.drop y.1) = decide (a = b)) (fun y => a.length - y.1) (0, _) ⟨Nat.zero_le _, rfl⟩ (ent_of _ [] rfl rfl (by simp only [VCA, simprocAttr, encL, MCA, List.map_nil, List.all_nil])) ?_
  rintro ⟨k, c⟩ hk
  obtain ⟨hk, hb'⟩ : k ≤ a.length ∧ decide (a.drop k = b.drop k) = decide (a = b) := hk
  simp only [VCA, simprocAttr, encL, MCA, List.map_nil]
  refine condD_of (fun h => ?_) (fun h => ?_)
  · have ha' : k < a.length := by omega
    have hbk : k < b.length := by omega
    have h1 : 0 ≤ (k : Int) ∧ (k : Int) < a.length := by omega
    have h2 : 0 ≤ (k : Int) ∧ (k : Int) < b.length := by omega
    have i2 : InI64 ((k : Int) + 1) := by unfold InI64; omega
    rw [List.drop_eq_getElem_cons ha', List.drop_eq_getElem_cons hbk] at hb'
    simp only [VCA, simprocAttr, encL, MCA, ha', hbk, h1, h2, mp_set0, mp_ld, List.map_nil]
    refine callX_of (same_ret a[k] b[k] (ha _ (List.getElem_mem ha')) (hb _ (List.getElem_mem hbk))) (.inr rfl) ?_
    simp only [VCA, simprocAttr, encL, MCA, same_eq]
    cases b1 : decide (a[k] = b[k]) <;> simp only [VCA, simprocAttr, encL, MCA, b1, i2]
    · have : decide (a = b) = false := by
        rw [← hb']
        exact decide_eq_false (by intro e; injection e with e1; exact of_decide_eq_false b1 e1)
      rw [this]
    · refine backTo_of (k + 1, _) ⟨ha', ?_⟩ (by simp only []; omega) (ent_of _ [] rfl rfl (by simp only [VCA, simprocAttr, encL, MCA, List.map_nil, List.all_nil]))
      have e := of_decide_eq_true b1
      rw [← hb', e, Bool.eq_iff_iff, decide_eq_true_eq, decide_eq_true_eq]
      exact ⟨fun q => congrArg _ q, fun q => by injection q⟩
  · have hk' : k = a.length := by omega
    subst hk'
    rw [List.drop_length, hab, List.drop_length] at hb'
    simp only [VCA, simprocAttr, encL, MCA, ← hb']
end Go.Proofs.YtlkdcgfjmhjjpaaGreat

set_option linter.unusedSimpArgs false
set_option linter.unusedVariables false
namespace Go.Proofs.YtlkdcgfjmhjjpaaGreat
open Go Go.Lg Go.RowKit
set_option maxRecDepth 20000

def instA (x : MInst) (locals regions : Int) : Bool :=
  if x.kind = 1 then valB x.val locals regions && (!x.has || inB x.to.loc locals) else if x.kind = 2 ∨ x.kind = 3 then inB x.to.loc locals else if x.kind = 4 then operB x.val.a locals else decide (x.kind = 5 ∨ x.kind = 6)
def instWant (x : MInst) : Nat := if x.kind = 4 then 2 else if x.kind = 6 then 0 else 1
theorem instB_eq (x : MInst) (l r p : Int) : instB x l r p = (instA x l r && (decide (x.next.length = instWant x) && x.next.all fun i => inB i p)) := rfl

theorem known_cell {l : List (List Int)} {i j : Nat} (hl : ∀ k ∈ l, k.length = 2) (h : i < l.length) (hj : j < 2) : ldV false 1 (l.flatMap fun k => k.flatMap cI) (i * 2 + j) = some (.int .i64 (l[i][j]'(by rw [hl _ (List.getElem_mem h)]; exact hj))) := by
  have h1 := known_ld hl h
  have h2 : (l[i].flatMap cI)[j]? = some (.int .i64 (l[i][j]'(by rw [hl _ (List.getElem_mem h)]; exact hj))) := by
    have := ld_cI (l := l[i]) (i := j) (by rw [hl _ (List.getElem_mem h)]; exact hj)
    simpa [ldV] using this
  simp only [ldV, if_true] at h1
  split at h1
  · simp only [Option.some.injEq, V.agg.injEq] at h1
    rw [← h1, List.getElem?_take, if_pos hj, List.getElem?_drop] at h2
    simpa [ldV] using h2
  · cases h1

theorem may16_ret (m : Mir) (hm : m.ok) : PRet Tryz.prog 22 [.agg m.cells] (.bool (mayB m)) := by
  obtain ⟨_, hfr, hrg, ⟨hkn, hkno⟩, ⟨hl, hlo⟩, hc, hco⟩ := hm
  rw [maxLen_eq] at hl hc hkn
  refine pret_intro fd22 (by simp) ?_
  simp only [lc22, VCA, simprocAttr, encL, MCA]
  repeat' (first | refine condDn_of (fun h => ?_) (fun h => ?_) <;> simp only [VCA, simprocAttr, encL, MCA, h] | refine condD_of (fun h => ?_) (fun h => ?_) <;> simp only [VCA, simprocAttr, encL, MCA, h] | refine condVn_of (fun h => ?_) (fun h => ?_) <;> simp only [VCA, simprocAttr, encL, MCA, h] | refine condV_of (fun h => ?_) (fun h => ?_) <;> simp only [VCA, simprocAttr, encL, MCA, h] | refine gdDn_of (fun h => ?_) (fun h => ?_) <;> simp only [VCA, simprocAttr, encL, MCA, h] | refine gdD_of (fun h => ?_) (fun h => ?_) <;> simp only [VCA, simprocAttr, encL, MCA, h] | refine gdVMn_of (fun h => ?_) (fun h => ?_) <;> simp only [VCA, simprocAttr, encL, MCA, h] | refine gdVM_of (fun h => ?_) (fun h => ?_) <;> simp only [VCA, simprocAttr, encL, MCA, h] | refine gpDn_of (fun h => ?_) (fun h => ?_) <;> simp only [VCA, simprocAttr, encL, MCA, h] | refine gpD_of (fun h => ?_) (fun h => ?_) <;> simp only [VCA, simprocAttr, encL, MCA, h] | refine gdVn_of (fun h => ?_) (fun h => ?_) <;> simp only [VCA, simprocAttr, encL, MCA, h] | refine gdV_of (fun h => ?_) (fun h => ?_) <;> simp only [VCA, simprocAttr, encL, MCA, h] | (unfold InI64; omega) | refine And.intro ?_ ?_)
  all_goals try omega
  all_goals try (simp only [V.bool.injEq, mayB, mayHead, inB]; simp [*]; done)
  all_goals try (simp only [V.bool.injEq, mayB, mayHead, inB]; simp [*]; omega)
  rename_i h1 h2 h3 h4 h5 h6
  have hhead : mayHead m = true := by simp only [mayHead, inB]; simp; omega
  clear h1 h2 h3 h4 h5 h6 h
  refine loop_vcg (ι := Nat × (Nat → Nat)) (fun (k, c) => stO [(1, .box m.cells), (3, .val (.int .i64 k))] c)
    (fun (k, _) => k ≤ m.known.length ∧ (m.known.drop k).all (fun k => k.all fun i => inB i m.free) = m.known.all (fun k => k.all fun i => inB i m.free)) (fun (k, _) => m.known.length - k) (0, _) ⟨by omega, rfl⟩ (ent_of _ [] rfl rfl (by simp only [VCA, simprocAttr, encL, MCA])) ?_
  rintro ⟨k, c⟩ ⟨hk, hb⟩
  simp only [VCA, simprocAttr, encL, MCA]
  refine condD_of (fun h => ?_) (fun h => ?_)
  · have hk' : k < m.known.length := by omega
    rw [all_drop _ _ _ hk'] at hb
    have h2 := (hkno _ (List.getElem_mem hk')).1
    have hin : 0 ≤ (k : Int) ∧ (k : Int) < m.known.length := by omega
    simp only [VCA, simprocAttr, encL, MCA]
    refine loop_vcg (ι := Nat × (Nat → Nat)) (fun (j, c) => stO [(1, .box m.cells), (3, .val (.int .i64 k)), (4, .val (.int .i64 j))] c)
      (fun (j, _) => j ≤ 2 ∧ (m.known[k].drop j).all (fun i => inB i m.free) = m.known[k].all (fun i => inB i m.free)) (fun (j, _) => 2 - j) (0, _) ⟨by omega, rfl⟩ (ent_of _ [] rfl rfl (by simp only [VCA, simprocAttr, encL, MCA])) ?_
    rintro ⟨j, c⟩ ⟨hj, hbj⟩
    simp only [VCA, simprocAttr, encL, MCA]
    refine condD_of (fun h => ?_) (fun h => ?_)
    · have hj' : j < m.known[k].length := by omega
      have hld := known_cell (fun k hk => (hkno k hk).1) hk' (j := j) (by omega)
      rw [all_drop _ _ _ hj'] at hbj
      have hjn : 0 ≤ (j : Int) ∧ (j : Int) < 2 := by omega
      simp only [VCA, simprocAttr, encL, MCA, hld, hin, hjn]
      repeat' (first | refine condDn_of (fun h => ?_) (fun h => ?_) <;> simp only [VCA, simprocAttr, encL, MCA, h, hld, hin, hjn] | refine condD_of (fun h => ?_) (fun h => ?_) <;> simp only [VCA, simprocAttr, encL, MCA, h, hld, hin, hjn] | refine condVn_of (fun h => ?_) (fun h => ?_) <;> simp only [VCA, simprocAttr, encL, MCA, h, hld, hin, hjn] | refine condV_of (fun h => ?_) (fun h => ?_) <;> simp only [VCA, simprocAttr, encL, MCA, h, hld, hin, hjn] | refine gdDn_of (fun h => ?_) (fun h => ?_) <;> simp only [VCA, simprocAttr, encL, MCA, h, hld, hin, hjn] | refine gdD_of (fun h => ?_) (fun h => ?_) <;> simp only [VCA, simprocAttr, encL, MCA, h, hld, hin, hjn] | refine gdVMn_of (fun h => ?_) (fun h => ?_) <;> simp only [VCA, simprocAttr, encL, MCA, h, hld, hin, hjn] | refine gdVM_of (fun h => ?_) (fun h => ?_) <;> simp only [VCA, simprocAttr, encL, MCA, h, hld, hin, hjn] | refine gpDn_of (fun h => ?_) (fun h => ?_) <;> simp only [VCA, simprocAttr, encL, MCA, h, hld, hin, hjn] | refine gpD_of (fun h => ?_) (fun h => ?_) <;> simp only [VCA, simprocAttr, encL, MCA, h, hld, hin, hjn] | refine gdVn_of (fun h => ?_) (fun h => ?_) <;> simp only [VCA, simprocAttr, encL, MCA, h, hld, hin, hjn] | refine gdV_of (fun h => ?_) (fun h => ?_) <;> simp only [VCA, simprocAttr, encL, MCA, h, hld, hin, hjn] | (unfold InI64; omega) | refine And.intro ?_ ?_)
      all_goals first
        | omega
        | (have hop : inB m.known[k][j] m.free = false := by (clear hb hbj; simp only [inB]; simp; omega)
           rw [hop, Bool.false_and] at hbj
           rw [← hbj, Bool.false_and] at hb
           simp [mayB, ← hb]; done)
        | (have hop : inB m.known[k][j] m.free = true := by (clear hb hbj; simp only [inB]; simp; omega)
           rw [hop, Bool.true_and] at hbj
           exact backTo_of (j + 1, _) ⟨by omega, hbj⟩ (by simp only []; omega) (ent_of _ [] rfl rfl (by simp only [VCA, simprocAttr, encL, MCA])))
    · have hj' : j = m.known[k].length := by omega
      subst hj'
      simp only [List.drop_length, List.all_nil] at hbj
      rw [← hbj, Bool.true_and] at hb
      simp only [VCA, simprocAttr, encL, MCA]
      exact And.intro (by unfold InI64; omega) (backTo_of (k + 1, _) ⟨by omega, hb⟩ (by simp only []; omega) (ent_of _ [] rfl rfl (by simp only [VCA, simprocAttr, encL, MCA])))
  · have hk' : k = m.known.length := by omega
    subst hk'
    simp only [List.drop_length, List.all_nil] at hb
    clear h hk
    simp only [VCA, simprocAttr, encL, MCA]
    refine loop_vcg (ι := Nat × (Nat → Nat)) (fun (k, c) => stO [(1, .box m.cells), (5, .val (.int .i64 k))] c)
      (fun (k, _) => k ≤ m.locals.length ∧ (m.locals.drop k).all (fun l => rtB m.regions 64 l.type) = m.locals.all (fun l => rtB m.regions 64 l.type)) (fun (k, _) => m.locals.length - k) (0, _) ⟨by omega, rfl⟩ (ent_of _ [] rfl rfl (by simp only [VCA, simprocAttr, encL, MCA])) ?_
    rintro ⟨k, c⟩ ⟨hk, hb2⟩
    simp only [VCA, simprocAttr, encL, MCA]
    refine condD_of (fun h => ?_) (fun h => ?_)
    · have hk' : k < m.locals.length := by omega
      rw [all_drop _ _ _ hk'] at hb2
      have hin : 0 ≤ (k : Int) ∧ (k : Int) < m.locals.length := by omega
      simp only [VCA, simprocAttr, encL, MCA, hk', hin]
      repeat' (first | refine condDn_of (fun h => ?_) (fun h => ?_) <;> simp only [VCA, simprocAttr, encL, MCA, h] | refine condD_of (fun h => ?_) (fun h => ?_) <;> simp only [VCA, simprocAttr, encL, MCA, h] | refine condVn_of (fun h => ?_) (fun h => ?_) <;> simp only [VCA, simprocAttr, encL, MCA, h] | refine condV_of (fun h => ?_) (fun h => ?_) <;> simp only [VCA, simprocAttr, encL, MCA, h] | refine gdDn_of (fun h => ?_) (fun h => ?_) <;> simp only [VCA, simprocAttr, encL, MCA, h] | refine gdD_of (fun h => ?_) (fun h => ?_) <;> simp only [VCA, simprocAttr, encL, MCA, h] | refine gdVMn_of (fun h => ?_) (fun h => ?_) <;> simp only [VCA, simprocAttr, encL, MCA, h] | refine gdVM_of (fun h => ?_) (fun h => ?_) <;> simp only [VCA, simprocAttr, encL, MCA, h] | refine gpDn_of (fun h => ?_) (fun h => ?_) <;> simp only [VCA, simprocAttr, encL, MCA, h] | refine gpD_of (fun h => ?_) (fun h => ?_) <;> simp only [VCA, simprocAttr, encL, MCA, h] | refine gdVn_of (fun h => ?_) (fun h => ?_) <;> simp only [VCA, simprocAttr, encL, MCA, h] | refine gdV_of (fun h => ?_) (fun h => ?_) <;> simp only [VCA, simprocAttr, encL, MCA, h] | refine callV_of (typ_ret m.regions 64 _ (hlo _ (List.getElem_mem hk')).2 (by decide)) (by first | exact Or.inr rfl | exact Or.inl rfl) ?_ <;> simp only [VCA, simprocAttr, encL, MCA] | (unfold InI64; omega) | refine And.intro ?_ ?_)
      · rw [h] at hb2
        simp only [V.bool.injEq, mayB, ← hb2]; simp
      · rw [h] at hb2
        exact backTo_of (k + 1, _) ⟨by omega, hb2⟩ (by simp only []; omega) (ent_of _ [] rfl rfl (by simp only [VCA, simprocAttr, encL, MCA]))
    · have hk' : k = m.locals.length := by omega
      subst hk'
      simp only [List.drop_length, List.all_nil] at hb2
      clear h hk
      simp only [VCA, simprocAttr, encL, MCA]
      refine loop_vcg (ι := Nat × (Nat → Nat)) (fun (k, c) => stO [(1, .box m.cells), (6, .val (.int .i64 k))] c)
        (fun (k, _) => k ≤ m.code.length ∧ (m.code.drop k).all (fun x => instB x m.locals.length m.regions m.code.length) = m.code.all (fun x => instB x m.locals.length m.regions m.code.length)) (fun (k, _) => m.code.length - k) (0, _) ⟨by omega, rfl⟩ (ent_of _ [] rfl rfl (by simp only [VCA, simprocAttr, encL, MCA])) ?_
      rintro ⟨k, c⟩ ⟨hk, hb3⟩
      simp only [VCA, simprocAttr, encL, MCA]
      refine condD_of (fun h => ?_) (fun h => ?_)
      · have hk' : k < m.code.length := by omega
        rw [all_drop _ _ _ hk'] at hb3
        have hin : 0 ≤ (k : Int) ∧ (k : Int) < m.code.length := by omega
        have hx := hco _ (List.getElem_mem hk')
        simp only [VCA, simprocAttr, encL, MCA, hk', hin]
        generalize m.code[k] = x at hb3 hx
        refine join_vcg (ι := Nat → Nat) (fun c => stO [(1, .box m.cells), (6, .val (.int .i64 k)), (7, .box x.cells), (8, .val (.int .i64 (instWant x))), (9, .val (.bool (instA x m.locals.length m.regions)))] c) (fun _ => 1 ≤ x.kind ∧ x.kind ≤ 6) ?_ ?_
        · simp only [VCA, simprocAttr, encL, MCA]
          repeat' (first | refine condDn_of (fun h => ?_) (fun h => ?_) <;> simp only [VCA, simprocAttr, encL, MCA, h] | refine condD_of (fun h => ?_) (fun h => ?_) <;> simp only [VCA, simprocAttr, encL, MCA, h] | refine condVn_of (fun h => ?_) (fun h => ?_) <;> simp only [VCA, simprocAttr, encL, MCA, h] | refine condV_of (fun h => ?_) (fun h => ?_) <;> simp only [VCA, simprocAttr, encL, MCA, h] | refine gdDn_of (fun h => ?_) (fun h => ?_) <;> simp only [VCA, simprocAttr, encL, MCA, h] | refine gdD_of (fun h => ?_) (fun h => ?_) <;> simp only [VCA, simprocAttr, encL, MCA, h] | refine gdVMn_of (fun h => ?_) (fun h => ?_) <;> simp only [VCA, simprocAttr, encL, MCA, h] | refine gdVM_of (fun h => ?_) (fun h => ?_) <;> simp only [VCA, simprocAttr, encL, MCA, h] | refine gpDn_of (fun h => ?_) (fun h => ?_) <;> simp only [VCA, simprocAttr, encL, MCA, h] | refine gpD_of (fun h => ?_) (fun h => ?_) <;> simp only [VCA, simprocAttr, encL, MCA, h] | refine gdVn_of (fun h => ?_) (fun h => ?_) <;> simp only [VCA, simprocAttr, encL, MCA, h] | refine gdV_of (fun h => ?_) (fun h => ?_) <;> simp only [VCA, simprocAttr, encL, MCA, h] | refine callX_of (value16_ret x.val hx.2.2.2.1 m) (by first | exact Or.inr rfl | exact Or.inl rfl) ?_ <;> simp only [VCA, simprocAttr, encL, MCA] | refine callX_of (local_ret x.to m) (by first | exact Or.inr rfl | exact Or.inl rfl) ?_ <;> simp only [VCA, simprocAttr, encL, MCA] | refine callX_of (named_ret x.val.a) (by first | exact Or.inr rfl | exact Or.inl rfl) ?_ <;> simp only [VCA, simprocAttr, encL, MCA] | refine callX_of (local_ret x.val.a.path m) (by first | exact Or.inr rfl | exact Or.inl rfl) ?_ <;> simp only [VCA, simprocAttr, encL, MCA] | (unfold InI64; omega) | refine And.intro ?_ ?_)
          all_goals clear hb hb2 hhead hl hc hkn
          all_goals first
            | (refine joinTo_of _ (by first | exact trivial | exact ⟨by omega, by omega⟩) (ent_of _ [] rfl rfl ?_)
               simp only [VCA, simprocAttr, encL, MCA]
               simp [instA, instWant, operB_eq, *]; done)
            | (have hop : instB x m.locals.length m.regions m.code.length = false := by (clear hb3; simp [instB_eq, instA, *])
               rw [hop, Bool.false_and] at hb3
               simp [mayB, ← hb3]; done)
        · rintro c ⟨hx1, hx6⟩
          simp only [VCA, simprocAttr, encL, MCA]
          repeat' (first | refine condDn_of (fun h => ?_) (fun h => ?_) <;> simp only [VCA, simprocAttr, encL, MCA, h] | refine condD_of (fun h => ?_) (fun h => ?_) <;> simp only [VCA, simprocAttr, encL, MCA, h] | refine condVn_of (fun h => ?_) (fun h => ?_) <;> simp only [VCA, simprocAttr, encL, MCA, h] | refine condV_of (fun h => ?_) (fun h => ?_) <;> simp only [VCA, simprocAttr, encL, MCA, h] | refine gdDn_of (fun h => ?_) (fun h => ?_) <;> simp only [VCA, simprocAttr, encL, MCA, h] | refine gdD_of (fun h => ?_) (fun h => ?_) <;> simp only [VCA, simprocAttr, encL, MCA, h] | refine gdVMn_of (fun h => ?_) (fun h => ?_) <;> simp only [VCA, simprocAttr, encL, MCA, h] | refine gdVM_of (fun h => ?_) (fun h => ?_) <;> simp only [VCA, simprocAttr, encL, MCA, h] | refine gpDn_of (fun h => ?_) (fun h => ?_) <;> simp only [VCA, simprocAttr, encL, MCA, h] | refine gpD_of (fun h => ?_) (fun h => ?_) <;> simp only [VCA, simprocAttr, encL, MCA, h] | refine gdVn_of (fun h => ?_) (fun h => ?_) <;> simp only [VCA, simprocAttr, encL, MCA, h] | refine gdV_of (fun h => ?_) (fun h => ?_) <;> simp only [VCA, simprocAttr, encL, MCA, h] | (unfold InI64; omega) | refine And.intro ?_ ?_)
          all_goals try omega
          all_goals try (
            have hop : instB x m.locals.length m.regions m.code.length = false := by (clear hb hb2 hb3 hhead; simp [instB_eq, -List.length_eq_zero_iff, *]; try omega)
            rw [hop, Bool.false_and] at hb3
            simp [mayB, ← hb3]; done)
          rename_i hA
          have hlen := h
          have hxl : x.next.length ≤ 2 := by
            have : instWant x ≤ 2 := by unfold instWant; split <;> (try split) <;> omega
            omega
          refine loop_vcg (ι := Nat × (Nat → Nat)) (fun (j, c) => stO [(1, .box m.cells), (6, .val (.int .i64 k)), (7, .box x.cells), (8, .val (.int .i64 (instWant x))), (11, .val (.int .i64 j))] c)
            (fun (j, _) => j ≤ x.next.length ∧ (x.next.drop j).all (fun i => inB i m.code.length) = x.next.all (fun i => inB i m.code.length)) (fun (j, _) => x.next.length - j) (0, _) ⟨by omega, rfl⟩ (ent_of _ [] rfl rfl (by simp only [VCA, simprocAttr, encL, MCA])) ?_
          rintro ⟨j, c⟩ ⟨hj, hbj⟩
          simp only [VCA, simprocAttr, encL, MCA]
          refine condD_of (fun h => ?_) (fun h => ?_)
          · have hj' : j < x.next.length := by omega
            rw [all_drop _ _ _ hj'] at hbj
            have hjn : 0 ≤ (j : Int) ∧ (j : Int) < x.next.length := by omega
            simp only [VCA, simprocAttr, encL, MCA, hj', hjn]
            repeat' (first | refine condDn_of (fun h => ?_) (fun h => ?_) <;> simp only [VCA, simprocAttr, encL, MCA, h, hj', hjn] | refine condD_of (fun h => ?_) (fun h => ?_) <;> simp only [VCA, simprocAttr, encL, MCA, h, hj', hjn] | refine condVn_of (fun h => ?_) (fun h => ?_) <;> simp only [VCA, simprocAttr, encL, MCA, h, hj', hjn] | refine condV_of (fun h => ?_) (fun h => ?_) <;> simp only [VCA, simprocAttr, encL, MCA, h, hj', hjn] | refine gdDn_of (fun h => ?_) (fun h => ?_) <;> simp only [VCA, simprocAttr, encL, MCA, h, hj', hjn] | refine gdD_of (fun h => ?_) (fun h => ?_) <;> simp only [VCA, simprocAttr, encL, MCA, h, hj', hjn] | refine gdVMn_of (fun h => ?_) (fun h => ?_) <;> simp only [VCA, simprocAttr, encL, MCA, h, hj', hjn] | refine gdVM_of (fun h => ?_) (fun h => ?_) <;> simp only [VCA, simprocAttr, encL, MCA, h, hj', hjn] | refine gpDn_of (fun h => ?_) (fun h => ?_) <;> simp only [VCA, simprocAttr, encL, MCA, h, hj', hjn] | refine gpD_of (fun h => ?_) (fun h => ?_) <;> simp only [VCA, simprocAttr, encL, MCA, h, hj', hjn] | refine gdVn_of (fun h => ?_) (fun h => ?_) <;> simp only [VCA, simprocAttr, encL, MCA, h, hj', hjn] | refine gdV_of (fun h => ?_) (fun h => ?_) <;> simp only [VCA, simprocAttr, encL, MCA, h, hj', hjn] | (unfold InI64; omega) | refine And.intro ?_ ?_)
            all_goals first
              | omega
              | (have hop : inB x.next[j] m.code.length = false := by (clear hb hb2 hb3 hbj; simp only [inB]; simp; omega)
                 rw [hop, Bool.false_and] at hbj
                 rw [instB_eq, ← hbj, Bool.and_false, Bool.and_false, Bool.false_and] at hb3
                 simp [mayB, ← hb3]; done)
              | (have hop : inB x.next[j] m.code.length = true := by (clear hb hb2 hb3 hbj; simp only [inB]; simp; omega)
                 rw [hop, Bool.true_and] at hbj
                 exact backTo_of (j + 1, _) ⟨by omega, hbj⟩ (by simp only []; omega) (ent_of _ [] rfl rfl (by simp only [VCA, simprocAttr, encL, MCA])))
          · have hj' : j = x.next.length := by omega
            subst hj'
            simp only [List.drop_length, List.all_nil] at hbj
            have hw : decide (x.next.length = instWant x) = true := decide_eq_true (by omega)
            rw [instB_eq, ← hbj, hA, hw, Bool.true_and, Bool.true_and, Bool.true_and] at hb3
            simp only [VCA, simprocAttr, encL, MCA]
            exact And.intro (by unfold InI64; omega) (backTo_of (k + 1, _) ⟨by omega, hb3⟩ (by simp only []; omega) (ent_of _ [] rfl rfl (by simp only [VCA, simprocAttr, encL, MCA])))
      · have hk' : k = m.code.length := by omega
        subst hk'
        simp only [List.drop_length, List.all_nil] at hb3
        simp only [VCA, simprocAttr, encL, MCA]
        simp only [mayB, hhead, ← hb, ← hb2, ← hb3, Bool.true_and]

end Go.Proofs.YtlkdcgfjmhjjpaaGreat

set_option linter.unusedSimpArgs false
set_option linter.unusedVariables false
namespace Go.Proofs.YtlkdcgfjmhjjpaaGreat
open Go Go.Lg Go.RowKit
set_option maxRecDepth 20000

/-- Points whose nexts are points. -/
structure okG (m : Mir) : Prop where
  pos : 1 ≤ m.code.length
  le : m.code.length ≤ 6000
  nx : ∀ x ∈ m.code, x.next.length ≤ 2 ∧ ∀ y ∈ x.next, 0 ≤ y ∧ y < m.code.length
  en : ∀ x ∈ m.code, x.kind = 6 → x.next = []

theorem okG_of {m : Mir} (h : mayB m = true) : okG m := by
  simp only [mayB, Bool.and_eq_true, List.all_eq_true] at h
  obtain ⟨⟨⟨h1, _⟩, _⟩, h4⟩ := h
  simp only [mayHead, inB, Bool.and_eq_true, decide_eq_true_eq] at h1
  refine ⟨by omega, by omega, fun x hx => ?_, fun x hx h6 => ?_⟩
  case refine_2 =>
    have := h4 x hx
    simp only [instB_eq, Bool.and_eq_true, decide_eq_true_eq] at this
    have hw : instWant x = 0 := by unfold instWant; rw [if_neg (by omega), if_pos h6]
    exact List.eq_nil_of_length_eq_zero (by omega)
  have := h4 x hx
  simp only [instB_eq, Bool.and_eq_true, decide_eq_true_eq, List.all_eq_true, inB] at this
  refine ⟨?_, fun y hy => this.2.2 y hy⟩
  have hw : instWant x ≤ 2 := by unfold instWant; split <;> (try split) <;> omega
  omega

def ints (l : List Nat) : List Int := l.map fun (u : Nat) => (u : Int)
theorem ints_len (l : List Nat) : (ints l).length = l.length := by simp [ints]
theorem ints_get {l : List Nat} {k : Nat} (h : k < (ints l).length) : (ints l)[k] = (l[k]'(by simpa [ints] using h) : Nat) := by simp [ints]
theorem ints_app (l : List Nat) (x : Nat) : ints l ++ [(x : Int)] = ints (l ++ [x]) := by simp [ints]

def uns (l : List Int) : Nat := l.countP fun x => decide (x < 0)
theorem uns_set {l : List Int} {k : Nat} {v : Int} (h : k < l.length) (h1 : l[k] < 0) (h2 : 0 ≤ v) : uns (l.set k v) + 1 = uns l := by
  induction l generalizing k with
  | nil => cases h
  | cons x r ih =>
    cases k with
    | zero =>
      have h1' : x < 0 := h1
      simp only [uns, List.set_cons_zero, List.countP_cons, h1', decide_true, if_true]
      rw [if_neg (by simp; omega)]
    | succ k =>
      have := ih (k := k) (by simpa using h) h1
      simp only [uns, List.set_cons_succ, List.countP_cons] at this ⊢
      omega
theorem uns_le (l : List Int) : uns l ≤ l.length := List.countP_le_length

theorem from_own (m : Mir) (hg : okG m) (s : Nat) (hs : s < m.code.length) : PRetM Tryz.prog 75 [.agg m.cells, encL cI [(s : Int)]] 1 m.code.length (((List.range m.code.length).map (dist1 (nx m) s)).flatMap cI) := by
  have hN := hg.le
  refine pretM_intro fd75 (by simp) (by rw [li_len]; simp) ?_
  simp only [lc75, VCA, simprocAttr, encL, MCA]
  refine And.intro (by omega) ?_
  refine loop_vcg (ι := Nat × List Int × (Nat → Nat)) (fun (i, out, c) => stO [(1, .val (encL cI [(s : Int)])), (2, .box m.cells), (5, .own 1 m.code.length (out.flatMap cI)), (18, .val (.int .i64 m.code.length)), (19, .val (.int .i64 i))] c)
    (fun (i, out, _) => i ≤ m.code.length ∧ out.length = m.code.length ∧ ∀ t, t < i → out[t]? = some (-1)) (fun (i, _, _) => m.code.length - i) (0, List.replicate m.code.length 0, _) ⟨by omega, by simp, fun t h => by omega⟩ (ent_of _ [] rfl rfl (by simp only [VCA, simprocAttr, encL, MCA])) ?_
  rintro ⟨i, out, c⟩ ⟨hi, hlen, hout⟩
  simp only [VCA, simprocAttr, encL, MCA]
  refine condD_of (fun h => ?_) (fun h => ?_)
  · have hi' : i < out.length := by omega
    have hin : 0 ≤ (i : Int) ∧ (i : Int) < m.code.length := by omega
    have hle : i + 1 ≤ m.code.length := by omega
    simp only [VCA, simprocAttr, encL, MCA, hin, hlen, hle, li_set hi']
    refine And.intro (by unfold InI64; omega) (backTo_of (i + 1, out.set i (-1), _) ⟨by omega, by simp [hlen], fun t ht => ?_⟩ (by simp only []; omega) (ent_of _ [] rfl rfl (by simp only [VCA, simprocAttr, encL, MCA])))
    rw [List.getElem?_set]
    split
    · rename_i e; subst e; simp
    · exact hout t (by simp only [] at ht; omega)
  · have hi' : i = m.code.length := by omega
    subst hi'
    clear h hi
    simp only [VCA, simprocAttr, encL, MCA]
    refine loop_vcg (ι := Nat × List Nat × List Int × (Nat → Nat)) (fun (n, W, out, c) => stO [(1, .frz (encL cI (ints W))), (2, .box m.cells), (5, .own 1 m.code.length (out.flatMap cI)), (7, .val (.int .i64 n))] c)
      (fun (n, W, out, _) => 1 ≤ n ∧ out.length = m.code.length ∧ (∀ u, u ∈ W ↔ u < m.code.length ∧ (if n = 1 then u = s else dist1 (nx m) s u = ((n - 1 : Nat) : Int))) ∧
        (∀ t, t < m.code.length → out[t]? = some (if 1 ≤ dist1 (nx m) s t ∧ dist1 (nx m) s t < n then dist1 (nx m) s t else -1)) ∧ W.length ≤ m.code.length ∧ n + uns out ≤ m.code.length + 1 + (if W = [] then 1 else 0))
      (fun (n, W, out, _) => 2 * uns out + (if W = [] then 0 else 1)) (1, [s], out, _) ?_ (ent_of _ [] rfl rfl (by simp only [VCA, simprocAttr, encL, MCA]; exact ⟨rfl, rfl⟩)) ?_
    · refine ⟨Nat.le_refl _, hlen, fun u => ?_, fun t ht => ?_, ?_, ?_⟩
      · rw [if_pos rfl, List.mem_singleton]
        exact ⟨fun e => by subst e; exact ⟨hs, rfl⟩, fun e => e.2⟩
      · rw [hout t ht, if_neg (by omega)]
      · simp only [List.length_singleton]; omega
      · have := uns_le out
        simp only [reduceCtorEq, if_false]
        omega
    · rintro ⟨n, W, out, c⟩ ⟨hn, hlen, hW, hout, hWl, hnb⟩
      have hWi := ints_len W
      simp only [VCA, simprocAttr, encL, MCA, hWi]
      refine condD_of (fun h => ?_) (fun h => ?_)
      · have hWne : W ≠ [] := by
          rintro rfl
          simp at h
        rw [if_neg hWne] at hnb
        have hnN : n ≤ 6001 := by omega
        simp only [VCA, simprocAttr, encL, MCA, hWi]
        -- the values in the round
        let F : List Nat → Nat → Int := fun X t => if t ∈ X then (n : Int) else if 1 ≤ dist1 (nx m) s t ∧ dist1 (nx m) s t < n then dist1 (nx m) s t else -1
        refine loop_vcg (ι := Nat × List Nat × List Int × (Nat → Nat)) (fun (a, X, o, c) => stO [(2, .box m.cells), (5, .own 1 m.code.length (o.flatMap cI)), (7, .val (.int .i64 n)), (8, .own 1 X.length ((ints X).flatMap cI)), (31, .val (encL cI (ints W))), (32, .val (.int .i64 W.length)), (33, .val (.int .i64 a))] c)
          (fun (a, X, o, _) => a ≤ W.length ∧ o.length = m.code.length ∧ uns o + X.length = uns out ∧ (∀ t, t < m.code.length → o[t]? = some (F X t)) ∧
            (∀ t, t ∈ X ↔ t < m.code.length ∧ ¬ (1 ≤ dist1 (nx m) s t ∧ dist1 (nx m) s t < n) ∧ ∃ u ∈ W.take a, t ∈ nx m u))
          (fun (a, _, _, _) => W.length - a) (0, [], out, _) ⟨Nat.zero_le _, hlen, by simp, fun t ht => by rw [hout t ht]; simp [F], fun t => by simp⟩ (ent_of _ [] rfl rfl (by simp only [VCA, simprocAttr, encL, MCA, ints]; rfl)) ?_
        rintro ⟨a, X, o, c⟩ ⟨ha, hol, huns, hov, hX⟩
        simp only [VCA, simprocAttr, encL, MCA]
        refine condD_of (fun h => ?_) (fun h => ?_)
        · have ha' : a < W.length := by omega
          have hai : a < (ints W).length := by rw [hWi]; exact ha'
          have hin : 0 ≤ (a : Int) ∧ (a : Int) < W.length := by omega
          have hu := ((hW W[a]).1 (List.getElem_mem ha')).1
          have huin : 0 ≤ (W[a] : Int) ∧ (W[a] : Int) < m.code.length := by omega
          simp only [VCA, simprocAttr, encL, MCA, hWi, hin, ha', ints_get, huin, hu]
          -- the nexts of the point
          have hy := hg.nx _ (List.getElem_mem hu)
          have hnx : nx m W[a] = (m.code[W[a]].next).map Int.toNat := by simp [nx, hu]
          generalize hys : m.code[W[a]].next = ys at hy hnx
          refine loop_vcg (ι := Nat × List Nat × List Int × (Nat → Nat)) (fun (b, X, o, c) => stO [(2, .box m.cells), (5, .own 1 m.code.length (o.flatMap cI)), (7, .val (.int .i64 n)), (8, .own 1 X.length ((ints X).flatMap cI)), (31, .val (encL cI (ints W))), (32, .val (.int .i64 W.length)), (33, .val (.int .i64 a)),
              (42, .val (encL cI ys)), (43, .val (.int .i64 ys.length)), (44, .val (.int .i64 b))] c)
            (fun (b, X, o, _) => b ≤ ys.length ∧ o.length = m.code.length ∧ uns o + X.length = uns out ∧ (∀ t, t < m.code.length → o[t]? = some (F X t)) ∧
              (∀ t, t ∈ X ↔ t < m.code.length ∧ ¬ (1 ≤ dist1 (nx m) s t ∧ dist1 (nx m) s t < n) ∧ ((∃ u ∈ W.take a, t ∈ nx m u) ∨ t ∈ (nx m W[a]).take b)))
            (fun (b, _, _, _) => ys.length - b) (0, X, o, _) ⟨Nat.zero_le _, hol, huns, hov, fun t => by rw [hX t]; simp⟩ (ent_of _ [] rfl rfl (by simp only [VCA, simprocAttr, encL, MCA, hWi])) ?_
          rintro ⟨b, X, o, c⟩ ⟨hb, hol, huns, hov, hX⟩
          simp only [VCA, simprocAttr, encL, MCA]
          refine condD_of (fun h => ?_) (fun h => ?_)
          · have hb' : b < ys.length := by omega
            have hbin : 0 ≤ (b : Int) ∧ (b : Int) < ys.length := by omega
            obtain ⟨t, ht⟩ : ∃ t : Nat, ys[b] = (t : Int) := ⟨ys[b].toNat, by have := hy.2 _ (List.getElem_mem hb'); omega⟩
            have htN : t < m.code.length := by have := hy.2 _ (List.getElem_mem hb'); omega
            have htin : 0 ≤ (t : Int) ∧ (t : Int) < m.code.length := by omega
            have hto : t < o.length := by omega
            have hot : o[t] = F X t := by
              have := hov t htN
              rw [List.getElem?_eq_getElem hto] at this
              exact Option.some.inj this
            have htk : (nx m W[a]).take (b + 1) = (nx m W[a]).take b ++ [t] := by
              have hl : b < (nx m W[a]).length := by rw [hnx]; simpa using hb'
              rw [List.take_succ_eq_append_getElem hl]
              congr 2
              simp only [hnx, List.getElem_map, ht]; rfl
            simp only [VCA, simprocAttr, encL, MCA, hb', hbin, ht, htin, hto, hot]
            refine condD_of (fun h => ?_) (fun h => ?_)
            · have htX : t ∉ X := by
                intro hm'
                simp only [F, if_pos hm'] at h
                omega
              have htd : ¬ (1 ≤ dist1 (nx m) s t ∧ dist1 (nx m) s t < n) := by
                intro hm'
                simp only [F, if_neg htX, if_pos hm'] at h
                omega
              have hXl : X.length + 1 ≤ m.code.length + 1 := by have := uns_le out; omega
              have htle : t + 1 ≤ m.code.length := by omega
              have hol' := hol
              have hXi := ints_len X
              simp only [VCA, simprocAttr, encL, MCA, htin, hol', htle, li_set hto, hXi, ints_app]
              refine And.intro (And.intro (by omega) (by omega)) (And.intro (by unfold InI64; omega) (backTo_of (b + 1, X ++ [t], o.set t n, _) ⟨by omega, by simp [hol], ?_, fun t' ht' => ?_, fun t' => ?_⟩ (by simp only []; omega)
                (ent_of _ [] rfl rfl (by simp only [VCA, simprocAttr, encL, MCA, hWi]))))
              · have := uns_set hto (by rw [hot]; exact h) (show (0 : Int) ≤ n by omega)
                simp only [List.length_append, List.length_singleton]
                omega
              · rw [List.getElem?_set]
                split
                · rename_i e; subst e
                  simp [hto, F]
                · rename_i e
                  rw [hov t' ht']
                  have : t' ∈ X ++ [t] ↔ t' ∈ X := by simp [Ne.symm e]
                  simp only [F, this]
              · simp only [htk]
                rw [List.mem_append, List.mem_append, hX t', List.mem_singleton]
                constructor
                · rintro (⟨h1, h2, h3⟩ | rfl)
                  · exact ⟨h1, h2, h3.imp_right .inl⟩
                  · exact ⟨htN, htd, .inr (.inr rfl)⟩
                · rintro ⟨h1, h2, h3 | h3 | h3⟩
                  · exact .inl ⟨h1, h2, .inl h3⟩
                  · exact .inl ⟨h1, h2, .inr h3⟩
                  · exact .inr h3
            · simp only [VCA, simprocAttr, encL, MCA]
              refine And.intro (by unfold InI64; omega) (backTo_of (b + 1, X, o, _) ⟨by omega, hol, huns, hov, fun t' => ?_⟩ (by simp only []; omega) (ent_of _ [] rfl rfl (by simp only [VCA, simprocAttr, encL, MCA, hWi])))
              simp only [htk]
              rw [List.mem_append, hX t', List.mem_singleton]
              constructor
              · rintro ⟨h1, h2, h3⟩
                exact ⟨h1, h2, h3.imp_right .inl⟩
              · rintro ⟨h1, h2, h3 | h3 | h3⟩
                · exact ⟨h1, h2, .inl h3⟩
                · exact ⟨h1, h2, .inr h3⟩
                · subst h3
                  by_cases hm' : t' ∈ X
                  · exact (hX t').1 hm'
                  · simp only [F, if_neg hm', if_neg h2] at h
                    omega
          · have hb' : b = ys.length := by omega
            subst hb'
            simp only [VCA, simprocAttr, encL, MCA]
            refine And.intro (by unfold InI64; omega) (backTo_of (a + 1, X, o, _) ⟨by omega, hol, huns, hov, fun t' => ?_⟩ (by simp only []; omega) (ent_of _ [] rfl rfl (by simp only [VCA, simprocAttr, encL, MCA, hWi])))
            have hfull : (nx m W[a]).take ys.length = nx m W[a] := List.take_of_length_le (by rw [hnx]; simp)
            rw [hX t', hfull]
            simp only [List.take_succ_eq_append_getElem ha', List.mem_append, List.mem_singleton]
            constructor
            · rintro ⟨h1, h2, ⟨u, h3, h4⟩ | h3⟩
              · exact ⟨h1, h2, u, .inl h3, h4⟩
              · exact ⟨h1, h2, _, .inr rfl, h3⟩
            · rintro ⟨h1, h2, u, h3 | rfl, h4⟩
              · exact ⟨h1, h2, .inl ⟨u, h3, h4⟩⟩
              · exact ⟨h1, h2, .inr h4⟩
        · have ha' : a = W.length := by omega
          subst ha'
          have hXi := ints_len X
          simp only [VCA, simprocAttr, encL, MCA, hXi]
          have htk : W.take W.length = W := List.take_length
          rw [htk] at hX
          have hXd : ∀ t, t ∈ X ↔ t < m.code.length ∧ dist1 (nx m) s t = n := by
            intro t
            rw [hX t, dist1_step hn]
            constructor
            · rintro ⟨h1, h2, u, h3, h4⟩
              exact ⟨h1, ⟨u, ((hW u).1 h3).2, h4⟩, h2⟩
            · rintro ⟨h1, ⟨u, h3, h4⟩, h2⟩
              refine ⟨h1, h2, u, (hW u).2 ⟨?_, h3⟩, h4⟩
              rcases Nat.lt_or_ge u m.code.length with h | h
              · exact h
              · simp [nx, List.getElem?_eq_none h] at h4
          have hXl : X.length ≤ m.code.length := by have := uns_le out; omega
          refine And.intro (by unfold InI64; omega) (backTo_of (n + 1, X, o, _) ⟨by omega, hol, fun u => ?_, fun t ht => ?_, hXl, ?_⟩ ?_
            (ent_of _ [(2199023255560, 0)] rfl rfl (by simp only [VCA, simprocAttr, encL, MCA, hXi, List.drop_zero, li_take (Nat.le_of_eq hXi)])))
          · rw [hXd u, if_neg (by omega), Nat.add_sub_cancel]
          · rw [hov t ht]
            have := dist1_pos (g := nx m) (s := s) (t := t)
            by_cases h1 : t ∈ X
            · have h2 := ((hXd t).1 h1).2
              simp only [F, if_pos h1]
              rw [if_pos (by omega), h2]
            · have h2 : ¬ dist1 (nx m) s t = n := fun e => h1 ((hXd t).2 ⟨ht, e⟩)
              simp only [F, if_neg h1]
              by_cases h3 : 1 ≤ dist1 (nx m) s t ∧ dist1 (nx m) s t < n
              · rw [if_pos h3, if_pos (by omega)]
              · rw [if_neg h3, if_neg (by omega)]
          · dsimp only
            by_cases h1 : X = []
            · subst h1
              simp only [if_true, List.length_nil] at huns ⊢
              omega
            · rw [if_neg h1]
              have : 0 < X.length := List.length_pos_iff.2 h1
              omega
          · dsimp only
            simp only [if_neg hWne]
            by_cases h1 : X = []
            · subst h1
              simp only [if_true, List.length_nil] at huns ⊢
              omega
            · rw [if_neg h1]
              have : 0 < X.length := List.length_pos_iff.2 h1
              omega
      · have hWe : W = [] := List.eq_nil_of_length_eq_zero (by omega)
        subst hWe
        simp only [VCA, simprocAttr, encL, MCA]
        have hn1 : ¬ n = 1 := by
          rintro rfl
          have := (hW s).2 ⟨hs, by rw [if_pos rfl]⟩
          cases this
        have hno : ∀ t, dist1 (nx m) s t ≠ ((n - 1 : Nat) : Int) := by
          intro t e
          rcases Nat.lt_or_ge t m.code.length with h | h
          · have := (hW t).2 ⟨h, by rw [if_neg hn1]; exact e⟩
            cases this
          · have h2 := (dist1_step (g := nx m) (s := s) (t := t) (n := n - 1) (by omega)).1 e
            obtain ⟨⟨u, _, h4⟩, _⟩ := h2
            have hy : ∀ y ∈ nx m u, y < m.code.length := by
              intro y hy
              simp only [nx] at hy
              split at hy
              · rename_i x hx
                obtain ⟨z, hz, rfl⟩ := List.mem_map.1 hy
                have := (hg.nx x (List.mem_of_getElem? hx)).2 z hz
                omega
              · cases hy
            have := hy t h4
            omega
        have hgap := dist1_gap (g := nx m) (s := s) (n := n - 1) (by omega) hno
        have : out = (List.range m.code.length).map (dist1 (nx m) s) := by
          apply List.ext_getElem?
          intro t
          rcases Nat.lt_or_ge t m.code.length with h | h
          · rw [hout t h, List.getElem?_map, List.getElem?_range h, Option.map_some]
            have h1 := dist1_pos (g := nx m) (s := s) (t := t)
            by_cases h3 : 1 ≤ dist1 (nx m) s t ∧ dist1 (nx m) s t < n
            · rw [if_pos h3]
            · rw [if_neg h3]
              rcases h1 with h1 | h1
              · exfalso
                have := hgap ((dist1 (nx m) s t).toNat - (n - 1)) t
                omega
              · rw [h1]
          · rw [List.getElem?_eq_none (by omega), List.getElem?_eq_none (by simpa using h)]
        rw [this]
        simp only [VCA, simprocAttr, encL, MCA, ownR]

theorem steps_ret (m : Mir) (hm : m.ok) : PRet Tryz.prog 64 [.agg m.cells] (encL cI (if mayB m = true then (List.range m.code.length).map (dist0 (nx m) 0) else [])) := by
  refine pret_intro_l fd64 (by simp) ?_
  simp only [lc64, VCA, simprocAttr, encL, MCA]
  refine callX_of (may_ret m hm) (.inr rfl) ?_
  simp only [VCA, simprocAttr, encL, MCA]
  refine condVn_of (fun h => ?_) (fun h => ?_)
  · simp only [VCA, simprocAttr, encL, MCA, h]; simp
  · have hg := okG_of h
    have hp := hg.pos
    have hp' : (0 : Int) < m.code.length := by omega
    simp only [VCA, simprocAttr, encL, MCA, h]
    refine callX_own (from_own m hg 0 hp) (.inl rfl) ?_
    have h1 : 0 < ((List.range m.code.length).map (dist1 (nx m) 0)).length := by simp; omega
    have hp0 : 0 < m.code.length := hp
    have hle : 0 + 1 ≤ m.code.length := hp
    simp only [VCA, simprocAttr, encL, MCA, hp', hle, li_set h1]
    have : ((List.range m.code.length).map (dist1 (nx m) 0)).set 0 0 = (List.range m.code.length).map (dist0 (nx m) 0) := by
      apply List.ext_getElem?
      intro t
      rw [List.getElem?_set]
      split
      · rename_i e; subst e
        rw [List.getElem?_map, List.getElem?_range hp0]
        simp [hp0, dist0_self]
      · rename_i e
        rcases Nat.lt_or_ge t m.code.length with h | h
        · simp [h, dist0_of_dist1 (g := nx m) (s := 0) (t := t) (by omega)]
        · simp [h]
    rw [this]

theorem map_take_succ {α β : Type} (f : α → β) (l : List α) (k : Nat) (h : k < l.length) : (l.take k).map f ++ [f l[k]] = (l.take (k + 1)).map f := by
  rw [List.take_succ_eq_append_getElem h, List.map_append]; rfl

theorem reach_ret (m : Mir) (hm : m.ok) : PRet Tryz.prog 46 [.agg m.cells] (encL cB (if mayB m = true then (List.range m.code.length).map (fun t => decide (0 ≤ dist0 (nx m) 0 t)) else [])) := by
  have hst := steps_ret m hm
  have hl : ∀ l : List Int, l = (if mayB m = true then (List.range m.code.length).map (dist0 (nx m) 0) else []) → l.length ≤ 6000 ∧ l.map (fun v => decide (0 ≤ v)) = (if mayB m = true then (List.range m.code.length).map (fun t => decide (0 ≤ dist0 (nx m) 0 t)) else []) := by
    rintro l rfl
    split
    · rename_i h
      have := (okG_of h).le
      simp; omega
    · simp
  generalize hS : (if mayB m = true then (List.range m.code.length).map (dist0 (nx m) 0) else []) = S at hst hl
  obtain ⟨hSl, hSm⟩ := hl S rfl
  rw [← hSm]
  refine pret_intro_l fd46 (by simp) ?_
  simp only [lc46, VCA, simprocAttr, encL, MCA]
  refine callX_of hst (.inl rfl) ?_
  simp only [VCA, simprocAttr, encL, MCA]
  refine loop_vcg (ι := Nat × (Nat → Nat)) (fun (k, c) => stO [(3, .own 1 k (((S.take k).map fun v => decide (0 ≤ v)).flatMap cB)), (7, .val (encL cI S)), (8, .val (.int .i64 S.length)), (9, .val (.int .i64 k))] c)
    (fun (k, _) => k ≤ S.length) (fun (k, _) => S.length - k) (0, _) (Nat.zero_le _) (ent_of _ [] rfl rfl (by simp only [VCA, simprocAttr, encL, MCA]; simp)) ?_
  rintro ⟨k, c⟩ hk
  simp only [VCA, simprocAttr, encL, MCA]
  refine condD_of (fun h => ?_) (fun h => ?_)
  · have hk' : k < S.length := by omega
    have hin : 0 ≤ (k : Int) ∧ (k : Int) < S.length := by omega
    have hmin : min k S.length = k := by omega
    have hb1 : (k + 1) * 1 ≤ 140737488355328 := by omega
    have hb2 : k + 1 ≤ 4611686018427387904 := by omega
    have htk := map_take_succ (fun v : Int => decide (0 ≤ v)) S k hk'
    simp only [VCA, simprocAttr, encL, MCA, hk', hin, hmin, List.length_take, hb1, hb2, htk]
    exact And.intro (by omega) (And.intro (by unfold InI64; omega) (backTo_of (k + 1, _) hk' (by simp only []; omega) (ent_of _ [] rfl rfl (by simp only [VCA, simprocAttr, encL, MCA]))))
  · have hk' : k = S.length := by omega
    subst hk'
    simp only [VCA, simprocAttr, encL, MCA, List.take_length]


end Go.Proofs.YtlkdcgfjmhjjpaaGreat

namespace Go.Proofs.YtlkdcgfjmhjjpaaGreat
open Go Go.Lg
set_option maxRecDepth 100000

def lcg23 : LC := .seq (.rego 0 [⟨some 1, .box (.tmp 0), none⟩, ⟨some 2, .mov (.con .e0), none⟩]) (.keep [1] (.seq (.rego 1 [⟨some 16, .load true 6 (.tmp 1), none⟩, ⟨some 17, .call 46 [.tmp 16], none⟩, ⟨some 3, .mov (.tmp 17), none⟩]) (.keep [1, 3] (.seq (.seq (.rego 2 [⟨some 18, .mov (.tmp 3), none⟩, ⟨some 19, .len false (.tmp 18), none⟩, ⟨some 20, .bin .eql (.tmp 19) (.con (.int .i64 0)), none⟩]) (.keep [1, 20] (.cond (.tmp 20) (.keep [] (.seq (.rego 3 [⟨some 2, .mov (.con .e0), none⟩]) .ret)) .skip))) (.keep [1] (.seq (.rego 4 [⟨some 21, .fad 5 (.tmp 1), none⟩, ⟨some 22, .load false 1 (.tmp 21), none⟩, ⟨some 23, .len false (.tmp 22), none⟩, ⟨some 24, .mksl 1 24 [.e0] (.tmp 23) (.tmp 23), none⟩, ⟨some 4, .mov (.tmp 24), none⟩]) (.keep [1, 4] (.seq (.seq (.rego 5 [⟨some 25, .fad 4 (.tmp 1), none⟩, ⟨some 26, .load false 1 (.tmp 25), none⟩, ⟨some 27, .len false (.tmp 26), none⟩, ⟨some 28, .mov (.con (.int .i64 0)), none⟩]) (.keep [1, 4, 26, 27, 28] (.block 0 (.loop (.seq (.rego 6 [⟨some 29, .bin .lss (.tmp 28) (.tmp 27), none⟩]) (.keep [1, 4, 26, 27, 28, 29] (.seq (.cond (.tmp 29) .skip (.exit 0)) (.keep [1, 4, 26, 27, 28] (.seq (.block 1 (.seq (.rego 7 [⟨some 30, .mov (.tmp 28), none⟩, ⟨some 31, .iaS 6 (.tmp 26) (.tmp 28), none⟩, ⟨some 32, .load true 6 (.tmp 31), none⟩, ⟨some 6, .new [.str { data := #[] }, .int .i64 0, .str { data := #[] }, .e0, .e0, .bool false], none⟩, ⟨some 5, .mov (.tmp 30), none⟩, ⟨none, .store 6 (.tmp 6) (.tmp 32), none⟩]) (.keep [1, 4, 5, 6, 26, 27, 28] (.seq (.rego 8 [⟨some 33, .fad 5 (.tmp 6), none⟩, ⟨some 34, .load false 1 (.tmp 33), none⟩, ⟨some 35, .un .not (.tmp 34), none⟩]) (.keep [1, 4, 5, 26, 27, 28, 35] (.cond (.tmp 35) (.keep [1, 4, 5, 26, 27, 28] (.rego 9 [⟨some 36, .mov (.tmp 4), none⟩, ⟨some 37, .mov (.tmp 4), none⟩, ⟨some 38, .iaS 1 (.tmp 37) (.con (.int .i64 0)), none⟩, ⟨some 39, .load false 1 (.tmp 38), none⟩, ⟨some 40, .mov (.tmp 5), none⟩, ⟨some 41, .build [.int .i64 0, .e0] [⟨0, 1, .tmp 40⟩], none⟩, ⟨some 42, .call 11 [.tmp 39, .tmp 41], none⟩, ⟨some 43, .iaS 1 (.tmp 36) (.con (.int .i64 0)), none⟩, ⟨none, .store 1 (.tmp 43) (.tmp 42), none⟩])) .skip)))))) (.keep [1, 4, 26, 27, 28] (.rego 10 [⟨some 44, .bin .add (.tmp 28) (.con (.int .i64 1)), none⟩, ⟨some 28, .mov (.tmp 44), none⟩]))))))))))) (.keep [1, 4] (.seq (.rego 11 [⟨some 45, .fad 5 (.tmp 1), none⟩, ⟨some 46, .load false 1 (.tmp 45), none⟩, ⟨some 47, .len false (.tmp 46), none⟩, ⟨some 48, .mksl 1 1 [.bool false] (.tmp 47) (.tmp 47), none⟩, ⟨some 7, .mov (.tmp 48), none⟩]) (.keep [1, 4, 7] (.seq (.regb 12 [⟨true, ⟨some 49, .bsl 1 [.int .i64 0] [⟨0, 1, .con (.int .i64 0)⟩], none⟩⟩, ⟨false, ⟨some 8, .mov (.tmp 49), none⟩⟩]) (.keep [1, 4, 7, 8] (.seq (.block 2 (.loop (.seq (.seq (.rego 13 [⟨some 50, .mov (.tmp 8), none⟩, ⟨some 51, .len false (.tmp 50), none⟩, ⟨some 52, .bin .gtr (.tmp 51) (.con (.int .i64 0)), none⟩]) (.keep [1, 4, 7, 8, 52] (.cond (.tmp 52) .skip (.exit 2)))) (.keep [1, 4, 7, 8] (.block 3 (.seq (.rego 14 [⟨some 53, .mov (.tmp 8), none⟩, ⟨some 54, .iaS 1 (.tmp 53) (.con (.int .i64 0)), none⟩, ⟨some 55, .load false 1 (.tmp 54), none⟩, ⟨some 9, .mov (.tmp 55), none⟩]) (.keep [1, 4, 7, 8, 9] (.seq (.rego 15 [⟨some 56, .mov (.tmp 8), none⟩, ⟨some 57, .slV 1 (.tmp 56) (some (.con (.int .i64 1))) none, none⟩, ⟨some 8, .mov (.tmp 57), none⟩]) (.keep [1, 4, 7, 8, 9] (.seq (.rego 16 [⟨some 58, .mov (.tmp 7), none⟩, ⟨some 59, .mov (.tmp 9), none⟩, ⟨some 60, .iaS 1 (.tmp 58) (.tmp 59), none⟩, ⟨none, .store 1 (.tmp 60) (.con (.bool true)), none⟩]) (.keep [1, 4, 7, 8, 9] (.seq (.regf 17 [0, 0, 3, 7, 0, 16, 0, 112, 240, 511, 1023] [⟨some 61, .mov (.tmp 4), none⟩, ⟨some 62, .mov (.tmp 9), none⟩, ⟨some 63, .iaS 1 (.tmp 61) (.tmp 62), none⟩, ⟨some 64, .load false 1 (.tmp 63), none⟩, ⟨some 65, .fad 5 (.tmp 1), none⟩, ⟨some 66, .load false 1 (.tmp 65), none⟩, ⟨some 67, .mov (.tmp 9), none⟩, ⟨some 68, .iaS 22 (.tmp 66) (.tmp 67), none⟩, ⟨some 69, .load true 22 (.tmp 68), none⟩, ⟨some 70, .call 15 [.tmp 64, .tmp 69], none⟩, ⟨some 10, .mov (.tmp 70), none⟩]) (.keep [1, 4, 7, 8, 9, 10] (.seq (.rego 18 [⟨some 71, .fad 5 (.tmp 1), none⟩, ⟨some 72, .load false 1 (.tmp 71), none⟩, ⟨some 73, .mov (.tmp 9), none⟩, ⟨some 74, .iaS 22 (.tmp 72) (.tmp 73), none⟩, ⟨some 75, .fad 21 (.tmp 74), none⟩, ⟨some 76, .load false 1 (.tmp 75), none⟩, ⟨some 77, .len false (.tmp 76), none⟩, ⟨some 78, .mov (.con (.int .i64 0)), none⟩]) (.keep [1, 4, 7, 8, 10, 76, 77, 78] (.block 4 (.loop (.seq (.rego 19 [⟨some 79, .bin .lss (.tmp 78) (.tmp 77), none⟩]) (.keep [1, 4, 7, 8, 10, 76, 77, 78, 79] (.seq (.cond (.tmp 79) .skip (.exit 4)) (.keep [1, 4, 7, 8, 10, 76, 77, 78] (.seq (.block 5 (.seq (.rego 20 [⟨some 80, .iaS 1 (.tmp 76) (.tmp 78), none⟩, ⟨some 81, .load false 1 (.tmp 80), none⟩, ⟨some 12, .mov (.tmp 81), none⟩]) (.keep [1, 4, 7, 8, 10, 12, 76, 77, 78] (.seq (.rego 21 [⟨some 82, .mov (.tmp 4), none⟩, ⟨some 83, .mov (.tmp 12), none⟩, ⟨some 84, .iaS 1 (.tmp 82) (.tmp 83), none⟩, ⟨some 85, .load false 1 (.tmp 84), none⟩, ⟨some 13, .mov (.tmp 85), none⟩]) (.keep [1, 4, 7, 8, 10, 12, 13, 76, 77, 78] (.seq (.seq (.rego 22 [⟨some 86, .mov (.tmp 10), none⟩, ⟨some 87, .len false (.tmp 86), none⟩, ⟨some 88, .mov (.con (.int .i64 0)), none⟩]) (.keep [1, 4, 7, 8, 10, 12, 13, 76, 77, 78, 86, 87, 88] (.block 6 (.loop (.seq (.rego 23 [⟨some 89, .bin .lss (.tmp 88) (.tmp 87), none⟩]) (.keep [1, 4, 7, 8, 10, 12, 13, 76, 77, 78, 86, 87, 88, 89] (.seq (.cond (.tmp 89) .skip (.exit 6)) (.keep [1, 4, 7, 8, 10, 12, 13, 76, 77, 78, 86, 87, 88] (.seq (.block 7 (.seq (.rego 24 [⟨some 90, .iaS 2 (.tmp 86) (.tmp 88), none⟩, ⟨some 91, .load true 2 (.tmp 90), none⟩, ⟨some 15, .new [.int .i64 0, .e0], none⟩, ⟨none, .store 2 (.tmp 15) (.tmp 91), none⟩]) (.keep [1, 4, 7, 8, 10, 12, 13, 15, 76, 77, 78, 86, 87, 88] (.rego 25 [⟨some 92, .mov (.tmp 13), none⟩, ⟨some 93, .load true 2 (.tmp 15), none⟩, ⟨some 94, .call 11 [.tmp 92, .tmp 93], none⟩, ⟨some 13, .mov (.tmp 94), none⟩])))) (.keep [1, 4, 7, 8, 10, 12, 13, 76, 77, 78, 86, 87, 88] (.rego 26 [⟨some 95, .bin .add (.tmp 88) (.con (.int .i64 1)), none⟩, ⟨some 88, .mov (.tmp 95), none⟩]))))))))))) (.keep [1, 4, 7, 8, 10, 12, 13, 76, 77, 78] (.seq (.rego 27 [⟨some 96, .mov (.tmp 7), none⟩, ⟨some 97, .mov (.tmp 12), none⟩, ⟨some 98, .iaS 1 (.tmp 96) (.tmp 97), none⟩, ⟨some 99, .load false 1 (.tmp 98), none⟩, ⟨some 100, .un .not (.tmp 99), none⟩, ⟨some 101, .mov (.tmp 100), none⟩, ⟨some 102, .mov (.tmp 13), some ⟨101, false⟩⟩, ⟨some 103, .mov (.tmp 4), some ⟨101, false⟩⟩, ⟨some 104, .mov (.tmp 12), some ⟨101, false⟩⟩, ⟨some 105, .iaS 1 (.tmp 103) (.tmp 104), some ⟨101, false⟩⟩, ⟨some 106, .load false 1 (.tmp 105), some ⟨101, false⟩⟩, ⟨some 107, .call 47 [.tmp 102, .tmp 106, .con (.fn 37 [])], some ⟨101, false⟩⟩, ⟨some 108, .un .not (.tmp 107), some ⟨101, false⟩⟩, ⟨some 109, .pick (.tmp 101) (.con (.bool true)) (.tmp 108), none⟩]) (.keep [1, 4, 7, 8, 10, 12, 13, 76, 77, 78, 109] (.cond (.tmp 109) (.keep [1, 4, 7, 8, 10, 12, 13, 76, 77, 78] (.seq (.rego 28 [⟨some 110, .mov (.tmp 4), none⟩, ⟨some 111, .mov (.tmp 12), none⟩, ⟨some 112, .mov (.tmp 13), none⟩, ⟨some 113, .iaS 1 (.tmp 110) (.tmp 111), none⟩, ⟨none, .store 1 (.tmp 113) (.tmp 112), none⟩]) (.keep [1, 4, 7, 8, 10, 12, 76, 77, 78] (.seq (.rego 29 [⟨some 114, .mov (.tmp 8), none⟩, ⟨some 115, .mov (.tmp 12), none⟩, ⟨some 116, .call 48 [.tmp 114, .tmp 115], none⟩, ⟨some 117, .un .not (.tmp 116), none⟩]) (.keep [1, 4, 7, 8, 10, 12, 76, 77, 78, 117] (.cond (.tmp 117) (.keep [1, 4, 7, 8, 10, 12, 76, 77, 78] (.regc 30 [(0, ⟨some 118, .mov (.tmp 8), none⟩), (0, ⟨some 119, .mov (.tmp 12), none⟩), (0, ⟨some 120, .bsl 1 [.int .i64 0] [⟨0, 1, .tmp 119⟩], none⟩), (2, ⟨some 121, .app 1 8 (.tmp 118) (.tmp 120), none⟩), (0, ⟨some 8, .mov (.tmp 121), none⟩)])) .skip)))))) .skip)))))))))) (.keep [1, 4, 7, 8, 10, 76, 77, 78] (.rego 31 [⟨some 122, .bin .add (.tmp 78) (.con (.int .i64 1)), none⟩, ⟨some 78, .mov (.tmp 122), none⟩])))))))))))))))))))))))) (.keep [4] (.seq (.rego 32 [⟨some 123, .mov (.tmp 4), none⟩, ⟨some 2, .mov (.tmp 123), none⟩]) .ret))))))))))))))))
theorem fdg23 : fnData Tryz.prog 23 = some (124, lcg23.erase, [LRV.tmp 2]) := by kernel_rfl

end Go.Proofs.YtlkdcgfjmhjjpaaGreat
