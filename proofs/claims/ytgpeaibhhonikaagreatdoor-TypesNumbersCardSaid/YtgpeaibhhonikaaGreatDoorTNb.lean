/-
  Tya Tyb Tyc Tyd Fj Tye Fk Tyf Fr Tyg TyB RowG RowH: put together.
-/
import Derived.Test.YtgpeaibhhonikaaGreatDoorFxw
import Derived.Test.YtgpeaibhhonikaaGreatDoorTNa
import Derived.Test.YtgpeaibhhonikaaGreatDoorProg
import Derived.Test.YtgpeaibhhonikaaGreatDoorLgP
import Derived.Test.YtgpeaibhhonikaaGreatDoorFt14
import Derived.Test.YtgpeaibhhonikaaGreatDoorRowFw
set_option linter.unusedSimpArgs false
set_option linter.unusedVariables false
namespace Go.Proofs.YtgpeaibhhonikaaGreatDoor
open Go Go.Lg Go.RowKit
set_option linter.unusedVariables false
set_option linter.unusedSimpArgs false
set_option maxRecDepth 20000

theorem maxLen_eq : maxLen = 9223372036854775807 := rfl
theorem rt_first {l : List RT} (h : 0 < l.length) : ldV true 4 (l.flatMap RT.cells) 0 = some (.agg (l[0]).cells) := by
  have := RT.ld0 (l := l) (i := 0) (n := 4) (agg := true) h (by decide) (by decide)
  rw [Nat.zero_mul] at this
  rw [this, RT.call]
theorem min_if (n : Nat) : (if (n : Int) < 1 then (n : Int) else 1) = ((min 1 n : Nat) : Int) := by split <;> omega
theorem take_min (r : List Int) : (r.flatMap cI).take (min 1 r.length) = (r.take 1).flatMap cI := by
  cases r with
  | nil => rfl
  | cons x l => simp [cI]
theorem own_goal (r : List Int) : ((0 ≤ ((min 1 r.length : Nat) : Int)) ∧ ((min 1 r.length : Nat) : Int) ≤ r.length ∧ min 1 r.length ≤ r.length) ∧ min 1 r.length = (r.take 1).length ∧ (r.flatMap cI).take (min 1 r.length) = (r.take 1).flatMap cI :=
  ⟨⟨by omega, by omega, by omega⟩, by rw [List.length_take], take_min r⟩

theorem li_cat (a b : List Int) : a.flatMap cI ++ b.flatMap cI = (a ++ b).flatMap cI := by rw [List.flatMap_append]
theorem own_ret (t : RT) : PRet Tryz.prog 50 [.agg t.cells] (encL cI (t.regions.take 1)) := by
  refine pret_intro fd50 (by simp) ?_
  simp only [lc50, VC0, VC1, VC2, VC3, VC4, VC5, VC6, VC7, VC8, reduceIte, reduceCtorEq, Nat.reduceEqDiff, Nat.reduceAdd, Nat.reduceMul, Nat.reduceBEq, Nat.reduceLT, Nat.reduceLeDiff, Int.reduceEq, Int.reduceLT, Int.reduceLE, Int.reduceNeg, Int.reduceToNat, Int.reduceAdd, Nat.reduceDiv, Nat.reduceSub, Nat.reduceMod, encL, MC0, MC1, MC2, min_if]
  exact own_goal t.regions
theorem rown_ret (t : RT) : PRet Tryz.prog 51 [.agg t.cells] (encL cI (ownS t.kind t.regions)) := by
  refine pret_intro_l fd51 (by simp) ?_
  simp only [lc51, VC0, VC1, VC2, VC3, VC4, VC5, VC6, VC7, VC8, reduceIte, reduceCtorEq, Nat.reduceEqDiff, Nat.reduceAdd, Nat.reduceMul, Nat.reduceBEq, Nat.reduceLT, Nat.reduceLeDiff, Int.reduceEq, Int.reduceLT, Int.reduceLE, Int.reduceNeg, Int.reduceToNat, Int.reduceAdd, Nat.reduceDiv, Nat.reduceSub, Nat.reduceMod, encL, MC0, MC1, MC2, min_if]
  obtain ⟨⟨g1, g2, g3⟩, g4, g5⟩ := own_goal t.regions
  have o3 : ownS 3 t.regions = t.regions := rfl
  have o4 : ownS 4 t.regions = t.regions.take 1 := rfl
  have o5 : ownS 5 t.regions = t.regions.take 1 := rfl
  repeat' (first | refine condDn_of (fun h => ?_) (fun h => ?_) <;> simp only [VC0, VC1, VC2, VC3, VC4, VC5, VC6, VC7, VC8, reduceIte, reduceCtorEq, Nat.reduceEqDiff, Nat.reduceAdd, Nat.reduceMul, Nat.reduceBEq, Nat.reduceLT, Nat.reduceLeDiff, Int.reduceEq, Int.reduceLT, Int.reduceLE, Int.reduceNeg, Int.reduceToNat, Int.reduceAdd, Nat.reduceDiv, Nat.reduceSub, Nat.reduceMod, encL, MC0, MC1, MC2, h, min_if] | refine condD_of (fun h => ?_) (fun h => ?_) <;> simp only [VC0, VC1, VC2, VC3, VC4, VC5, VC6, VC7, VC8, reduceIte, reduceCtorEq, Nat.reduceEqDiff, Nat.reduceAdd, Nat.reduceMul, Nat.reduceBEq, Nat.reduceLT, Nat.reduceLeDiff, Int.reduceEq, Int.reduceLT, Int.reduceLE, Int.reduceNeg, Int.reduceToNat, Int.reduceAdd, Nat.reduceDiv, Nat.reduceSub, Nat.reduceMod, encL, MC0, MC1, MC2, h, min_if] | refine condVn_of (fun h => ?_) (fun h => ?_) <;> simp only [VC0, VC1, VC2, VC3, VC4, VC5, VC6, VC7, VC8, reduceIte, reduceCtorEq, Nat.reduceEqDiff, Nat.reduceAdd, Nat.reduceMul, Nat.reduceBEq, Nat.reduceLT, Nat.reduceLeDiff, Int.reduceEq, Int.reduceLT, Int.reduceLE, Int.reduceNeg, Int.reduceToNat, Int.reduceAdd, Nat.reduceDiv, Nat.reduceSub, Nat.reduceMod, encL, MC0, MC1, MC2, h, min_if] | refine condV_of (fun h => ?_) (fun h => ?_) <;> simp only [VC0, VC1, VC2, VC3, VC4, VC5, VC6, VC7, VC8, reduceIte, reduceCtorEq, Nat.reduceEqDiff, Nat.reduceAdd, Nat.reduceMul, Nat.reduceBEq, Nat.reduceLT, Nat.reduceLeDiff, Int.reduceEq, Int.reduceLT, Int.reduceLE, Int.reduceNeg, Int.reduceToNat, Int.reduceAdd, Nat.reduceDiv, Nat.reduceSub, Nat.reduceMod, encL, MC0, MC1, MC2, h, min_if] | refine gdDn_of (fun h => ?_) (fun h => ?_) <;> simp only [VC0, VC1, VC2, VC3, VC4, VC5, VC6, VC7, VC8, reduceIte, reduceCtorEq, Nat.reduceEqDiff, Nat.reduceAdd, Nat.reduceMul, Nat.reduceBEq, Nat.reduceLT, Nat.reduceLeDiff, Int.reduceEq, Int.reduceLT, Int.reduceLE, Int.reduceNeg, Int.reduceToNat, Int.reduceAdd, Nat.reduceDiv, Nat.reduceSub, Nat.reduceMod, encL, MC0, MC1, MC2, h, min_if] | refine gdD_of (fun h => ?_) (fun h => ?_) <;> simp only [VC0, VC1, VC2, VC3, VC4, VC5, VC6, VC7, VC8, reduceIte, reduceCtorEq, Nat.reduceEqDiff, Nat.reduceAdd, Nat.reduceMul, Nat.reduceBEq, Nat.reduceLT, Nat.reduceLeDiff, Int.reduceEq, Int.reduceLT, Int.reduceLE, Int.reduceNeg, Int.reduceToNat, Int.reduceAdd, Nat.reduceDiv, Nat.reduceSub, Nat.reduceMod, encL, MC0, MC1, MC2, h, min_if] | refine gdVMn_of (fun h => ?_) (fun h => ?_) <;> simp only [VC0, VC1, VC2, VC3, VC4, VC5, VC6, VC7, VC8, reduceIte, reduceCtorEq, Nat.reduceEqDiff, Nat.reduceAdd, Nat.reduceMul, Nat.reduceBEq, Nat.reduceLT, Nat.reduceLeDiff, Int.reduceEq, Int.reduceLT, Int.reduceLE, Int.reduceNeg, Int.reduceToNat, Int.reduceAdd, Nat.reduceDiv, Nat.reduceSub, Nat.reduceMod, encL, MC0, MC1, MC2, h, min_if] | refine gdVM_of (fun h => ?_) (fun h => ?_) <;> simp only [VC0, VC1, VC2, VC3, VC4, VC5, VC6, VC7, VC8, reduceIte, reduceCtorEq, Nat.reduceEqDiff, Nat.reduceAdd, Nat.reduceMul, Nat.reduceBEq, Nat.reduceLT, Nat.reduceLeDiff, Int.reduceEq, Int.reduceLT, Int.reduceLE, Int.reduceNeg, Int.reduceToNat, Int.reduceAdd, Nat.reduceDiv, Nat.reduceSub, Nat.reduceMod, encL, MC0, MC1, MC2, h, min_if] | refine gpDn_of (fun h => ?_) (fun h => ?_) <;> simp only [VC0, VC1, VC2, VC3, VC4, VC5, VC6, VC7, VC8, reduceIte, reduceCtorEq, Nat.reduceEqDiff, Nat.reduceAdd, Nat.reduceMul, Nat.reduceBEq, Nat.reduceLT, Nat.reduceLeDiff, Int.reduceEq, Int.reduceLT, Int.reduceLE, Int.reduceNeg, Int.reduceToNat, Int.reduceAdd, Nat.reduceDiv, Nat.reduceSub, Nat.reduceMod, encL, MC0, MC1, MC2, h, min_if] | refine gpD_of (fun h => ?_) (fun h => ?_) <;> simp only [VC0, VC1, VC2, VC3, VC4, VC5, VC6, VC7, VC8, reduceIte, reduceCtorEq, Nat.reduceEqDiff, Nat.reduceAdd, Nat.reduceMul, Nat.reduceBEq, Nat.reduceLT, Nat.reduceLeDiff, Int.reduceEq, Int.reduceLT, Int.reduceLE, Int.reduceNeg, Int.reduceToNat, Int.reduceAdd, Nat.reduceDiv, Nat.reduceSub, Nat.reduceMod, encL, MC0, MC1, MC2, h, min_if] | refine gdVn_of (fun h => ?_) (fun h => ?_) <;> simp only [VC0, VC1, VC2, VC3, VC4, VC5, VC6, VC7, VC8, reduceIte, reduceCtorEq, Nat.reduceEqDiff, Nat.reduceAdd, Nat.reduceMul, Nat.reduceBEq, Nat.reduceLT, Nat.reduceLeDiff, Int.reduceEq, Int.reduceLT, Int.reduceLE, Int.reduceNeg, Int.reduceToNat, Int.reduceAdd, Nat.reduceDiv, Nat.reduceSub, Nat.reduceMod, encL, MC0, MC1, MC2, h, min_if] | refine gdV_of (fun h => ?_) (fun h => ?_) <;> simp only [VC0, VC1, VC2, VC3, VC4, VC5, VC6, VC7, VC8, reduceIte, reduceCtorEq, Nat.reduceEqDiff, Nat.reduceAdd, Nat.reduceMul, Nat.reduceBEq, Nat.reduceLT, Nat.reduceLeDiff, Int.reduceEq, Int.reduceLT, Int.reduceLE, Int.reduceNeg, Int.reduceToNat, Int.reduceAdd, Nat.reduceDiv, Nat.reduceSub, Nat.reduceMod, encL, MC0, MC1, MC2, h, min_if] | (unfold InI64; omega) | refine And.intro ?_ ?_)
  all_goals try simp only [o3, o4, o5]
  all_goals first
    | exact g1
    | exact g2
    | exact g3
    | exact g4
    | exact g5
    | rfl
    | simp [ownS, isRef, *]
theorem refers_ret (k : Int) : PRet Tryz.prog 55 [.int .i64 k] (.bool (isRef k)) := by
  refine pret_intro fd55 (by simp) ?_
  simp only [lc55, VC0, VC1, VC2, VC3, VC4, VC5, VC6, VC7, VC8, reduceIte, reduceCtorEq, Nat.reduceEqDiff, Nat.reduceAdd, Nat.reduceMul, Nat.reduceBEq, Nat.reduceLT, Nat.reduceLeDiff, Int.reduceEq, Int.reduceLT, Int.reduceLE, Int.reduceNeg, Int.reduceToNat, Int.reduceAdd, Nat.reduceDiv, Nat.reduceSub, Nat.reduceMod, encL, MC0, MC1, MC2]
  repeat' (first | refine condDn_of (fun h => ?_) (fun h => ?_) <;> simp only [VC0, VC1, VC2, VC3, VC4, VC5, VC6, VC7, VC8, reduceIte, reduceCtorEq, Nat.reduceEqDiff, Nat.reduceAdd, Nat.reduceMul, Nat.reduceBEq, Nat.reduceLT, Nat.reduceLeDiff, Int.reduceEq, Int.reduceLT, Int.reduceLE, Int.reduceNeg, Int.reduceToNat, Int.reduceAdd, Nat.reduceDiv, Nat.reduceSub, Nat.reduceMod, encL, MC0, MC1, MC2, h] | refine condD_of (fun h => ?_) (fun h => ?_) <;> simp only [VC0, VC1, VC2, VC3, VC4, VC5, VC6, VC7, VC8, reduceIte, reduceCtorEq, Nat.reduceEqDiff, Nat.reduceAdd, Nat.reduceMul, Nat.reduceBEq, Nat.reduceLT, Nat.reduceLeDiff, Int.reduceEq, Int.reduceLT, Int.reduceLE, Int.reduceNeg, Int.reduceToNat, Int.reduceAdd, Nat.reduceDiv, Nat.reduceSub, Nat.reduceMod, encL, MC0, MC1, MC2, h] | refine condVn_of (fun h => ?_) (fun h => ?_) <;> simp only [VC0, VC1, VC2, VC3, VC4, VC5, VC6, VC7, VC8, reduceIte, reduceCtorEq, Nat.reduceEqDiff, Nat.reduceAdd, Nat.reduceMul, Nat.reduceBEq, Nat.reduceLT, Nat.reduceLeDiff, Int.reduceEq, Int.reduceLT, Int.reduceLE, Int.reduceNeg, Int.reduceToNat, Int.reduceAdd, Nat.reduceDiv, Nat.reduceSub, Nat.reduceMod, encL, MC0, MC1, MC2, h] | refine condV_of (fun h => ?_) (fun h => ?_) <;> simp only [VC0, VC1, VC2, VC3, VC4, VC5, VC6, VC7, VC8, reduceIte, reduceCtorEq, Nat.reduceEqDiff, Nat.reduceAdd, Nat.reduceMul, Nat.reduceBEq, Nat.reduceLT, Nat.reduceLeDiff, Int.reduceEq, Int.reduceLT, Int.reduceLE, Int.reduceNeg, Int.reduceToNat, Int.reduceAdd, Nat.reduceDiv, Nat.reduceSub, Nat.reduceMod, encL, MC0, MC1, MC2, h] | refine gdDn_of (fun h => ?_) (fun h => ?_) <;> simp only [VC0, VC1, VC2, VC3, VC4, VC5, VC6, VC7, VC8, reduceIte, reduceCtorEq, Nat.reduceEqDiff, Nat.reduceAdd, Nat.reduceMul, Nat.reduceBEq, Nat.reduceLT, Nat.reduceLeDiff, Int.reduceEq, Int.reduceLT, Int.reduceLE, Int.reduceNeg, Int.reduceToNat, Int.reduceAdd, Nat.reduceDiv, Nat.reduceSub, Nat.reduceMod, encL, MC0, MC1, MC2, h] | refine gdD_of (fun h => ?_) (fun h => ?_) <;> simp only [VC0, VC1, VC2, VC3, VC4, VC5, VC6, VC7, VC8, reduceIte, reduceCtorEq, Nat.reduceEqDiff, Nat.reduceAdd, Nat.reduceMul, Nat.reduceBEq, Nat.reduceLT, Nat.reduceLeDiff, Int.reduceEq, Int.reduceLT, Int.reduceLE, Int.reduceNeg, Int.reduceToNat, Int.reduceAdd, Nat.reduceDiv, Nat.reduceSub, Nat.reduceMod, encL, MC0, MC1, MC2, h] | refine gdVMn_of (fun h => ?_) (fun h => ?_) <;> simp only [VC0, VC1, VC2, VC3, VC4, VC5, VC6, VC7, VC8, reduceIte, reduceCtorEq, Nat.reduceEqDiff, Nat.reduceAdd, Nat.reduceMul, Nat.reduceBEq, Nat.reduceLT, Nat.reduceLeDiff, Int.reduceEq, Int.reduceLT, Int.reduceLE, Int.reduceNeg, Int.reduceToNat, Int.reduceAdd, Nat.reduceDiv, Nat.reduceSub, Nat.reduceMod, encL, MC0, MC1, MC2, h] | refine gdVM_of (fun h => ?_) (fun h => ?_) <;> simp only [VC0, VC1, VC2, VC3, VC4, VC5, VC6, VC7, VC8, reduceIte, reduceCtorEq, Nat.reduceEqDiff, Nat.reduceAdd, Nat.reduceMul, Nat.reduceBEq, Nat.reduceLT, Nat.reduceLeDiff, Int.reduceEq, Int.reduceLT, Int.reduceLE, Int.reduceNeg, Int.reduceToNat, Int.reduceAdd, Nat.reduceDiv, Nat.reduceSub, Nat.reduceMod, encL, MC0, MC1, MC2, h] | refine gpDn_of (fun h => ?_) (fun h => ?_) <;> simp only [VC0, VC1, VC2, VC3, VC4, VC5, VC6, VC7, VC8, reduceIte, reduceCtorEq, Nat.reduceEqDiff, Nat.reduceAdd, Nat.reduceMul, Nat.reduceBEq, Nat.reduceLT, Nat.reduceLeDiff, Int.reduceEq, Int.reduceLT, Int.reduceLE, Int.reduceNeg, Int.reduceToNat, Int.reduceAdd, Nat.reduceDiv, Nat.reduceSub, Nat.reduceMod, encL, MC0, MC1, MC2, h] | refine gpD_of (fun h => ?_) (fun h => ?_) <;> simp only [VC0, VC1, VC2, VC3, VC4, VC5, VC6, VC7, VC8, reduceIte, reduceCtorEq, Nat.reduceEqDiff, Nat.reduceAdd, Nat.reduceMul, Nat.reduceBEq, Nat.reduceLT, Nat.reduceLeDiff, Int.reduceEq, Int.reduceLT, Int.reduceLE, Int.reduceNeg, Int.reduceToNat, Int.reduceAdd, Nat.reduceDiv, Nat.reduceSub, Nat.reduceMod, encL, MC0, MC1, MC2, h] | refine gdVn_of (fun h => ?_) (fun h => ?_) <;> simp only [VC0, VC1, VC2, VC3, VC4, VC5, VC6, VC7, VC8, reduceIte, reduceCtorEq, Nat.reduceEqDiff, Nat.reduceAdd, Nat.reduceMul, Nat.reduceBEq, Nat.reduceLT, Nat.reduceLeDiff, Int.reduceEq, Int.reduceLT, Int.reduceLE, Int.reduceNeg, Int.reduceToNat, Int.reduceAdd, Nat.reduceDiv, Nat.reduceSub, Nat.reduceMod, encL, MC0, MC1, MC2, h] | refine gdV_of (fun h => ?_) (fun h => ?_) <;> simp only [VC0, VC1, VC2, VC3, VC4, VC5, VC6, VC7, VC8, reduceIte, reduceCtorEq, Nat.reduceEqDiff, Nat.reduceAdd, Nat.reduceMul, Nat.reduceBEq, Nat.reduceLT, Nat.reduceLeDiff, Int.reduceEq, Int.reduceLT, Int.reduceLE, Int.reduceNeg, Int.reduceToNat, Int.reduceAdd, Nat.reduceDiv, Nat.reduceSub, Nat.reduceMod, encL, MC0, MC1, MC2, h] | (unfold InI64; omega) | refine And.intro ?_ ?_)
  all_goals simp [isRef, *]
theorem copy_ret (t : RT) : PRet Tryz.prog 34 [.agg t.cells] (.bool (copyB t.kind)) := by
  refine pret_intro fd34 (by simp) ?_
  simp only [lc34, VC0, VC1, VC2, VC3, VC4, VC5, VC6, VC7, VC8, reduceIte, reduceCtorEq, Nat.reduceEqDiff, Nat.reduceAdd, Nat.reduceMul, Nat.reduceBEq, Nat.reduceLT, Nat.reduceLeDiff, Int.reduceEq, Int.reduceLT, Int.reduceLE, Int.reduceNeg, Int.reduceToNat, Int.reduceAdd, Nat.reduceDiv, Nat.reduceSub, Nat.reduceMod, encL, MC0, MC1, MC2]
  repeat' (first | refine condDn_of (fun h => ?_) (fun h => ?_) <;> simp only [VC0, VC1, VC2, VC3, VC4, VC5, VC6, VC7, VC8, reduceIte, reduceCtorEq, Nat.reduceEqDiff, Nat.reduceAdd, Nat.reduceMul, Nat.reduceBEq, Nat.reduceLT, Nat.reduceLeDiff, Int.reduceEq, Int.reduceLT, Int.reduceLE, Int.reduceNeg, Int.reduceToNat, Int.reduceAdd, Nat.reduceDiv, Nat.reduceSub, Nat.reduceMod, encL, MC0, MC1, MC2, h] | refine condD_of (fun h => ?_) (fun h => ?_) <;> simp only [VC0, VC1, VC2, VC3, VC4, VC5, VC6, VC7, VC8, reduceIte, reduceCtorEq, Nat.reduceEqDiff, Nat.reduceAdd, Nat.reduceMul, Nat.reduceBEq, Nat.reduceLT, Nat.reduceLeDiff, Int.reduceEq, Int.reduceLT, Int.reduceLE, Int.reduceNeg, Int.reduceToNat, Int.reduceAdd, Nat.reduceDiv, Nat.reduceSub, Nat.reduceMod, encL, MC0, MC1, MC2, h] | refine condVn_of (fun h => ?_) (fun h => ?_) <;> simp only [VC0, VC1, VC2, VC3, VC4, VC5, VC6, VC7, VC8, reduceIte, reduceCtorEq, Nat.reduceEqDiff, Nat.reduceAdd, Nat.reduceMul, Nat.reduceBEq, Nat.reduceLT, Nat.reduceLeDiff, Int.reduceEq, Int.reduceLT, Int.reduceLE, Int.reduceNeg, Int.reduceToNat, Int.reduceAdd, Nat.reduceDiv, Nat.reduceSub, Nat.reduceMod, encL, MC0, MC1, MC2, h] | refine condV_of (fun h => ?_) (fun h => ?_) <;> simp only [VC0, VC1, VC2, VC3, VC4, VC5, VC6, VC7, VC8, reduceIte, reduceCtorEq, Nat.reduceEqDiff, Nat.reduceAdd, Nat.reduceMul, Nat.reduceBEq, Nat.reduceLT, Nat.reduceLeDiff, Int.reduceEq, Int.reduceLT, Int.reduceLE, Int.reduceNeg, Int.reduceToNat, Int.reduceAdd, Nat.reduceDiv, Nat.reduceSub, Nat.reduceMod, encL, MC0, MC1, MC2, h] | refine gdDn_of (fun h => ?_) (fun h => ?_) <;> simp only [VC0, VC1, VC2, VC3, VC4, VC5, VC6, VC7, VC8, reduceIte, reduceCtorEq, Nat.reduceEqDiff, Nat.reduceAdd, Nat.reduceMul, Nat.reduceBEq, Nat.reduceLT, Nat.reduceLeDiff, Int.reduceEq, Int.reduceLT, Int.reduceLE, Int.reduceNeg, Int.reduceToNat, Int.reduceAdd, Nat.reduceDiv, Nat.reduceSub, Nat.reduceMod, encL, MC0, MC1, MC2, h] | refine gdD_of (fun h => ?_) (fun h => ?_) <;> simp only [VC0, VC1, VC2, VC3, VC4, VC5, VC6, VC7, VC8, reduceIte, reduceCtorEq, Nat.reduceEqDiff, Nat.reduceAdd, Nat.reduceMul, Nat.reduceBEq, Nat.reduceLT, Nat.reduceLeDiff, Int.reduceEq, Int.reduceLT, Int.reduceLE, Int.reduceNeg, Int.reduceToNat, Int.reduceAdd, Nat.reduceDiv, Nat.reduceSub, Nat.reduceMod, encL, MC0, MC1, MC2, h] | refine gdVMn_of (fun h => ?_) (fun h => ?_) <;> simp only [VC0, VC1, VC2, VC3, VC4, VC5, VC6, VC7, VC8, reduceIte, reduceCtorEq, Nat.reduceEqDiff, Nat.reduceAdd, Nat.reduceMul, Nat.reduceBEq, Nat.reduceLT, Nat.reduceLeDiff, Int.reduceEq, Int.reduceLT, Int.reduceLE, Int.reduceNeg, Int.reduceToNat, Int.reduceAdd, Nat.reduceDiv, Nat.reduceSub, Nat.reduceMod, encL, MC0, MC1, MC2, h] | refine gdVM_of (fun h => ?_) (fun h => ?_) <;> simp only [VC0, VC1, VC2, VC3, VC4, VC5, VC6, VC7, VC8, reduceIte, reduceCtorEq, Nat.reduceEqDiff, Nat.reduceAdd, Nat.reduceMul, Nat.reduceBEq, Nat.reduceLT, Nat.reduceLeDiff, Int.reduceEq, Int.reduceLT, Int.reduceLE, Int.reduceNeg, Int.reduceToNat, Int.reduceAdd, Nat.reduceDiv, Nat.reduceSub, Nat.reduceMod, encL, MC0, MC1, MC2, h] | refine gpDn_of (fun h => ?_) (fun h => ?_) <;> simp only [VC0, VC1, VC2, VC3, VC4, VC5, VC6, VC7, VC8, reduceIte, reduceCtorEq, Nat.reduceEqDiff, Nat.reduceAdd, Nat.reduceMul, Nat.reduceBEq, Nat.reduceLT, Nat.reduceLeDiff, Int.reduceEq, Int.reduceLT, Int.reduceLE, Int.reduceNeg, Int.reduceToNat, Int.reduceAdd, Nat.reduceDiv, Nat.reduceSub, Nat.reduceMod, encL, MC0, MC1, MC2, h] | refine gpD_of (fun h => ?_) (fun h => ?_) <;> simp only [VC0, VC1, VC2, VC3, VC4, VC5, VC6, VC7, VC8, reduceIte, reduceCtorEq, Nat.reduceEqDiff, Nat.reduceAdd, Nat.reduceMul, Nat.reduceBEq, Nat.reduceLT, Nat.reduceLeDiff, Int.reduceEq, Int.reduceLT, Int.reduceLE, Int.reduceNeg, Int.reduceToNat, Int.reduceAdd, Nat.reduceDiv, Nat.reduceSub, Nat.reduceMod, encL, MC0, MC1, MC2, h] | refine gdVn_of (fun h => ?_) (fun h => ?_) <;> simp only [VC0, VC1, VC2, VC3, VC4, VC5, VC6, VC7, VC8, reduceIte, reduceCtorEq, Nat.reduceEqDiff, Nat.reduceAdd, Nat.reduceMul, Nat.reduceBEq, Nat.reduceLT, Nat.reduceLeDiff, Int.reduceEq, Int.reduceLT, Int.reduceLE, Int.reduceNeg, Int.reduceToNat, Int.reduceAdd, Nat.reduceDiv, Nat.reduceSub, Nat.reduceMod, encL, MC0, MC1, MC2, h] | refine gdV_of (fun h => ?_) (fun h => ?_) <;> simp only [VC0, VC1, VC2, VC3, VC4, VC5, VC6, VC7, VC8, reduceIte, reduceCtorEq, Nat.reduceEqDiff, Nat.reduceAdd, Nat.reduceMul, Nat.reduceBEq, Nat.reduceLT, Nat.reduceLeDiff, Int.reduceEq, Int.reduceLT, Int.reduceLE, Int.reduceNeg, Int.reduceToNat, Int.reduceAdd, Nat.reduceDiv, Nat.reduceSub, Nat.reduceMod, encL, MC0, MC1, MC2, h] | (unfold InI64; omega) | refine And.intro ?_ ?_)
  all_goals simp [copyB, *]
theorem regs_ret : ∀ (d : Nat) (t : RT), d ≤ 100 → deepB d t = false → PRet Tryz.prog 31 [.agg t.cells] (encL cI (regS t)) := by
  intro d
  induction d with
  | zero => intro t _ h; exact (deep_zero h).elim
  | succ d ih =>
    intro t hd h
    obtain ⟨he, hr, hc⟩ := deep_succ h
    refine pret_intro_l fd31 (by simp) ?_
    by_cases hp : 0 < t.elem.length
    · have hp' : (0 : Int) < t.elem.length := by omega
      have hrl := reg_len d _ (hc _ (List.getElem_mem hp))
      have hf := rt_first hp
      have key : regS t = ownS t.kind t.regions ++ if isRef t.kind = true then regS t.elem[0] else [] := by rw [regS_eq, regH_pos hp]
      simp only [lc31, VC0, VC1, VC2, VC3, VC4, VC5, VC6, VC7, VC8, reduceIte, reduceCtorEq, Nat.reduceEqDiff, Nat.reduceAdd, Nat.reduceMul, Nat.reduceBEq, Nat.reduceLT, Nat.reduceLeDiff, Int.reduceEq, Int.reduceLT, Int.reduceLE, Int.reduceNeg, Int.reduceToNat, Int.reduceAdd, Nat.reduceDiv, Nat.reduceSub, Nat.reduceMod, encL, MC0, MC1, MC2]
      repeat' (first | refine condDn_of (fun h => ?_) (fun h => ?_) <;> simp only [VC0, VC1, VC2, VC3, VC4, VC5, VC6, VC7, VC8, reduceIte, reduceCtorEq, Nat.reduceEqDiff, Nat.reduceAdd, Nat.reduceMul, Nat.reduceBEq, Nat.reduceLT, Nat.reduceLeDiff, Int.reduceEq, Int.reduceLT, Int.reduceLE, Int.reduceNeg, Int.reduceToNat, Int.reduceAdd, Nat.reduceDiv, Nat.reduceSub, Nat.reduceMod, encL, MC0, MC1, MC2, h, hp, hp', hf, isRef3, isRef4, isRef5, li_cat] | refine condD_of (fun h => ?_) (fun h => ?_) <;> simp only [VC0, VC1, VC2, VC3, VC4, VC5, VC6, VC7, VC8, reduceIte, reduceCtorEq, Nat.reduceEqDiff, Nat.reduceAdd, Nat.reduceMul, Nat.reduceBEq, Nat.reduceLT, Nat.reduceLeDiff, Int.reduceEq, Int.reduceLT, Int.reduceLE, Int.reduceNeg, Int.reduceToNat, Int.reduceAdd, Nat.reduceDiv, Nat.reduceSub, Nat.reduceMod, encL, MC0, MC1, MC2, h, hp, hp', hf, isRef3, isRef4, isRef5, li_cat] | refine condVn_of (fun h => ?_) (fun h => ?_) <;> simp only [VC0, VC1, VC2, VC3, VC4, VC5, VC6, VC7, VC8, reduceIte, reduceCtorEq, Nat.reduceEqDiff, Nat.reduceAdd, Nat.reduceMul, Nat.reduceBEq, Nat.reduceLT, Nat.reduceLeDiff, Int.reduceEq, Int.reduceLT, Int.reduceLE, Int.reduceNeg, Int.reduceToNat, Int.reduceAdd, Nat.reduceDiv, Nat.reduceSub, Nat.reduceMod, encL, MC0, MC1, MC2, h, hp, hp', hf, isRef3, isRef4, isRef5, li_cat] | refine condV_of (fun h => ?_) (fun h => ?_) <;> simp only [VC0, VC1, VC2, VC3, VC4, VC5, VC6, VC7, VC8, reduceIte, reduceCtorEq, Nat.reduceEqDiff, Nat.reduceAdd, Nat.reduceMul, Nat.reduceBEq, Nat.reduceLT, Nat.reduceLeDiff, Int.reduceEq, Int.reduceLT, Int.reduceLE, Int.reduceNeg, Int.reduceToNat, Int.reduceAdd, Nat.reduceDiv, Nat.reduceSub, Nat.reduceMod, encL, MC0, MC1, MC2, h, hp, hp', hf, isRef3, isRef4, isRef5, li_cat] | refine gdDn_of (fun h => ?_) (fun h => ?_) <;> simp only [VC0, VC1, VC2, VC3, VC4, VC5, VC6, VC7, VC8, reduceIte, reduceCtorEq, Nat.reduceEqDiff, Nat.reduceAdd, Nat.reduceMul, Nat.reduceBEq, Nat.reduceLT, Nat.reduceLeDiff, Int.reduceEq, Int.reduceLT, Int.reduceLE, Int.reduceNeg, Int.reduceToNat, Int.reduceAdd, Nat.reduceDiv, Nat.reduceSub, Nat.reduceMod, encL, MC0, MC1, MC2, h, hp, hp', hf, isRef3, isRef4, isRef5, li_cat] | refine gdD_of (fun h => ?_) (fun h => ?_) <;> simp only [VC0, VC1, VC2, VC3, VC4, VC5, VC6, VC7, VC8, reduceIte, reduceCtorEq, Nat.reduceEqDiff, Nat.reduceAdd, Nat.reduceMul, Nat.reduceBEq, Nat.reduceLT, Nat.reduceLeDiff, Int.reduceEq, Int.reduceLT, Int.reduceLE, Int.reduceNeg, Int.reduceToNat, Int.reduceAdd, Nat.reduceDiv, Nat.reduceSub, Nat.reduceMod, encL, MC0, MC1, MC2, h, hp, hp', hf, isRef3, isRef4, isRef5, li_cat] | refine gdVMn_of (fun h => ?_) (fun h => ?_) <;> simp only [VC0, VC1, VC2, VC3, VC4, VC5, VC6, VC7, VC8, reduceIte, reduceCtorEq, Nat.reduceEqDiff, Nat.reduceAdd, Nat.reduceMul, Nat.reduceBEq, Nat.reduceLT, Nat.reduceLeDiff, Int.reduceEq, Int.reduceLT, Int.reduceLE, Int.reduceNeg, Int.reduceToNat, Int.reduceAdd, Nat.reduceDiv, Nat.reduceSub, Nat.reduceMod, encL, MC0, MC1, MC2, h, hp, hp', hf, isRef3, isRef4, isRef5, li_cat] | refine gdVM_of (fun h => ?_) (fun h => ?_) <;> simp only [VC0, VC1, VC2, VC3, VC4, VC5, VC6, VC7, VC8, reduceIte, reduceCtorEq, Nat.reduceEqDiff, Nat.reduceAdd, Nat.reduceMul, Nat.reduceBEq, Nat.reduceLT, Nat.reduceLeDiff, Int.reduceEq, Int.reduceLT, Int.reduceLE, Int.reduceNeg, Int.reduceToNat, Int.reduceAdd, Nat.reduceDiv, Nat.reduceSub, Nat.reduceMod, encL, MC0, MC1, MC2, h, hp, hp', hf, isRef3, isRef4, isRef5, li_cat] | refine gpDn_of (fun h => ?_) (fun h => ?_) <;> simp only [VC0, VC1, VC2, VC3, VC4, VC5, VC6, VC7, VC8, reduceIte, reduceCtorEq, Nat.reduceEqDiff, Nat.reduceAdd, Nat.reduceMul, Nat.reduceBEq, Nat.reduceLT, Nat.reduceLeDiff, Int.reduceEq, Int.reduceLT, Int.reduceLE, Int.reduceNeg, Int.reduceToNat, Int.reduceAdd, Nat.reduceDiv, Nat.reduceSub, Nat.reduceMod, encL, MC0, MC1, MC2, h, hp, hp', hf, isRef3, isRef4, isRef5, li_cat] | refine gpD_of (fun h => ?_) (fun h => ?_) <;> simp only [VC0, VC1, VC2, VC3, VC4, VC5, VC6, VC7, VC8, reduceIte, reduceCtorEq, Nat.reduceEqDiff, Nat.reduceAdd, Nat.reduceMul, Nat.reduceBEq, Nat.reduceLT, Nat.reduceLeDiff, Int.reduceEq, Int.reduceLT, Int.reduceLE, Int.reduceNeg, Int.reduceToNat, Int.reduceAdd, Nat.reduceDiv, Nat.reduceSub, Nat.reduceMod, encL, MC0, MC1, MC2, h, hp, hp', hf, isRef3, isRef4, isRef5, li_cat] | refine gdVn_of (fun h => ?_) (fun h => ?_) <;> simp only [VC0, VC1, VC2, VC3, VC4, VC5, VC6, VC7, VC8, reduceIte, reduceCtorEq, Nat.reduceEqDiff, Nat.reduceAdd, Nat.reduceMul, Nat.reduceBEq, Nat.reduceLT, Nat.reduceLeDiff, Int.reduceEq, Int.reduceLT, Int.reduceLE, Int.reduceNeg, Int.reduceToNat, Int.reduceAdd, Nat.reduceDiv, Nat.reduceSub, Nat.reduceMod, encL, MC0, MC1, MC2, h, hp, hp', hf, isRef3, isRef4, isRef5, li_cat] | refine gdV_of (fun h => ?_) (fun h => ?_) <;> simp only [VC0, VC1, VC2, VC3, VC4, VC5, VC6, VC7, VC8, reduceIte, reduceCtorEq, Nat.reduceEqDiff, Nat.reduceAdd, Nat.reduceMul, Nat.reduceBEq, Nat.reduceLT, Nat.reduceLeDiff, Int.reduceEq, Int.reduceLT, Int.reduceLE, Int.reduceNeg, Int.reduceToNat, Int.reduceAdd, Nat.reduceDiv, Nat.reduceSub, Nat.reduceMod, encL, MC0, MC1, MC2, h, hp, hp', hf, isRef3, isRef4, isRef5, li_cat] | refine callX_of (own_ret t) (by first | exact Or.inr rfl | exact Or.inl rfl) ?_ <;> simp only [VC0, VC1, VC2, VC3, VC4, VC5, VC6, VC7, VC8, reduceIte, reduceCtorEq, Nat.reduceEqDiff, Nat.reduceAdd, Nat.reduceMul, Nat.reduceBEq, Nat.reduceLT, Nat.reduceLeDiff, Int.reduceEq, Int.reduceLT, Int.reduceLE, Int.reduceNeg, Int.reduceToNat, Int.reduceAdd, Nat.reduceDiv, Nat.reduceSub, Nat.reduceMod, encL, MC0, MC1, MC2, hp, hp', hf, isRef3, isRef4, isRef5, li_cat] | refine callX_of (refers_ret _) (by first | exact Or.inr rfl | exact Or.inl rfl) ?_ <;> simp only [VC0, VC1, VC2, VC3, VC4, VC5, VC6, VC7, VC8, reduceIte, reduceCtorEq, Nat.reduceEqDiff, Nat.reduceAdd, Nat.reduceMul, Nat.reduceBEq, Nat.reduceLT, Nat.reduceLeDiff, Int.reduceEq, Int.reduceLT, Int.reduceLE, Int.reduceNeg, Int.reduceToNat, Int.reduceAdd, Nat.reduceDiv, Nat.reduceSub, Nat.reduceMod, encL, MC0, MC1, MC2, hp, hp', hf, isRef3, isRef4, isRef5, li_cat] | refine callX_of (ih t.elem[0] (by omega) (hc _ (List.getElem_mem hp))) (by first | exact Or.inr rfl | exact Or.inl rfl) ?_ <;> simp only [VC0, VC1, VC2, VC3, VC4, VC5, VC6, VC7, VC8, reduceIte, reduceCtorEq, Nat.reduceEqDiff, Nat.reduceAdd, Nat.reduceMul, Nat.reduceBEq, Nat.reduceLT, Nat.reduceLeDiff, Int.reduceEq, Int.reduceLT, Int.reduceLE, Int.reduceNeg, Int.reduceToNat, Int.reduceAdd, Nat.reduceDiv, Nat.reduceSub, Nat.reduceMod, encL, MC0, MC1, MC2, hp, hp', hf, isRef3, isRef4, isRef5, li_cat] | (unfold InI64; omega) | refine And.intro ?_ ?_)
      all_goals clear hf hc ih
      all_goals first
        | omega
        | (simp only [List.length_take]; omega)
        | (simp [key, ownS, isRef, *]; done)
        | (simp_all [ownS, isRef]; done)
        | trace_state
    · have hp' : ¬ (0 : Int) < t.elem.length := by omega
      have key : regS t = ownS t.kind t.regions := by
        rw [regS_eq]
        cases he : t.elem with
        | nil => simp [regH]
        | cons x l => rw [he] at hp; simp at hp
      simp only [lc31, VC0, VC1, VC2, VC3, VC4, VC5, VC6, VC7, VC8, reduceIte, reduceCtorEq, Nat.reduceEqDiff, Nat.reduceAdd, Nat.reduceMul, Nat.reduceBEq, Nat.reduceLT, Nat.reduceLeDiff, Int.reduceEq, Int.reduceLT, Int.reduceLE, Int.reduceNeg, Int.reduceToNat, Int.reduceAdd, Nat.reduceDiv, Nat.reduceSub, Nat.reduceMod, encL, MC0, MC1, MC2]
      repeat' (first | refine condDn_of (fun h => ?_) (fun h => ?_) <;> simp only [VC0, VC1, VC2, VC3, VC4, VC5, VC6, VC7, VC8, reduceIte, reduceCtorEq, Nat.reduceEqDiff, Nat.reduceAdd, Nat.reduceMul, Nat.reduceBEq, Nat.reduceLT, Nat.reduceLeDiff, Int.reduceEq, Int.reduceLT, Int.reduceLE, Int.reduceNeg, Int.reduceToNat, Int.reduceAdd, Nat.reduceDiv, Nat.reduceSub, Nat.reduceMod, encL, MC0, MC1, MC2, h, hp', isRef3, isRef4, isRef5, li_cat] | refine condD_of (fun h => ?_) (fun h => ?_) <;> simp only [VC0, VC1, VC2, VC3, VC4, VC5, VC6, VC7, VC8, reduceIte, reduceCtorEq, Nat.reduceEqDiff, Nat.reduceAdd, Nat.reduceMul, Nat.reduceBEq, Nat.reduceLT, Nat.reduceLeDiff, Int.reduceEq, Int.reduceLT, Int.reduceLE, Int.reduceNeg, Int.reduceToNat, Int.reduceAdd, Nat.reduceDiv, Nat.reduceSub, Nat.reduceMod, encL, MC0, MC1, MC2, h, hp', isRef3, isRef4, isRef5, li_cat] | refine condVn_of (fun h => ?_) (fun h => ?_) <;> simp only [VC0, VC1, VC2, VC3, VC4, VC5, VC6, VC7, VC8, reduceIte, reduceCtorEq, Nat.reduceEqDiff, Nat.reduceAdd, Nat.reduceMul, Nat.reduceBEq, Nat.reduceLT, Nat.reduceLeDiff, Int.reduceEq, Int.reduceLT, Int.reduceLE, Int.reduceNeg, Int.reduceToNat, Int.reduceAdd, Nat.reduceDiv, Nat.reduceSub, Nat.reduceMod, encL, MC0, MC1, MC2, h, hp', isRef3, isRef4, isRef5, li_cat] | refine condV_of (fun h => ?_) (fun h => ?_) <;> simp only [VC0, VC1, VC2, VC3, VC4, VC5, VC6, VC7, VC8, reduceIte, reduceCtorEq, Nat.reduceEqDiff, Nat.reduceAdd, Nat.reduceMul, Nat.reduceBEq, Nat.reduceLT, Nat.reduceLeDiff, Int.reduceEq, Int.reduceLT, Int.reduceLE, Int.reduceNeg, Int.reduceToNat, Int.reduceAdd, Nat.reduceDiv, Nat.reduceSub, Nat.reduceMod, encL, MC0, MC1, MC2, h, hp', isRef3, isRef4, isRef5, li_cat] | refine gdDn_of (fun h => ?_) (fun h => ?_) <;> simp only [VC0, VC1, VC2, VC3, VC4, VC5, VC6, VC7, VC8, reduceIte, reduceCtorEq, Nat.reduceEqDiff, Nat.reduceAdd, Nat.reduceMul, Nat.reduceBEq, Nat.reduceLT, Nat.reduceLeDiff, Int.reduceEq, Int.reduceLT, Int.reduceLE, Int.reduceNeg, Int.reduceToNat, Int.reduceAdd, Nat.reduceDiv, Nat.reduceSub, Nat.reduceMod, encL, MC0, MC1, MC2, h, hp', isRef3, isRef4, isRef5, li_cat] | refine gdD_of (fun h => ?_) (fun h => ?_) <;> simp only [VC0, VC1, VC2, VC3, VC4, VC5, VC6, VC7, VC8, reduceIte, reduceCtorEq, Nat.reduceEqDiff, Nat.reduceAdd, Nat.reduceMul, Nat.reduceBEq, Nat.reduceLT, Nat.reduceLeDiff, Int.reduceEq, Int.reduceLT, Int.reduceLE, Int.reduceNeg, Int.reduceToNat, Int.reduceAdd, Nat.reduceDiv, Nat.reduceSub, Nat.reduceMod, encL, MC0, MC1, MC2, h, hp', isRef3, isRef4, isRef5, li_cat] | refine gdVMn_of (fun h => ?_) (fun h => ?_) <;> simp only [VC0, VC1, VC2, VC3, VC4, VC5, VC6, VC7, VC8, reduceIte, reduceCtorEq, Nat.reduceEqDiff, Nat.reduceAdd, Nat.reduceMul, Nat.reduceBEq, Nat.reduceLT, Nat.reduceLeDiff, Int.reduceEq, Int.reduceLT, Int.reduceLE, Int.reduceNeg, Int.reduceToNat, Int.reduceAdd, Nat.reduceDiv, Nat.reduceSub, Nat.reduceMod, encL, MC0, MC1, MC2, h, hp', isRef3, isRef4, isRef5, li_cat] | refine gdVM_of (fun h => ?_) (fun h => ?_) <;> simp only [VC0, VC1, VC2, VC3, VC4, VC5, VC6, VC7, VC8, reduceIte, reduceCtorEq, Nat.reduceEqDiff, Nat.reduceAdd, Nat.reduceMul, Nat.reduceBEq, Nat.reduceLT, Nat.reduceLeDiff, Int.reduceEq, Int.reduceLT, Int.reduceLE, Int.reduceNeg, Int.reduceToNat, Int.reduceAdd, Nat.reduceDiv, Nat.reduceSub, Nat.reduceMod, encL, MC0, MC1, MC2, h, hp', isRef3, isRef4, isRef5, li_cat] | refine gpDn_of (fun h => ?_) (fun h => ?_) <;> simp only [VC0, VC1, VC2, VC3, VC4, VC5, VC6, VC7, VC8, reduceIte, reduceCtorEq, Nat.reduceEqDiff, Nat.reduceAdd, Nat.reduceMul, Nat.reduceBEq, Nat.reduceLT, Nat.reduceLeDiff, Int.reduceEq, Int.reduceLT, Int.reduceLE, Int.reduceNeg, Int.reduceToNat, Int.reduceAdd, Nat.reduceDiv, Nat.reduceSub, Nat.reduceMod, encL, MC0, MC1, MC2, h, hp', isRef3, isRef4, isRef5, li_cat] | refine gpD_of (fun h => ?_) (fun h => ?_) <;> simp only [VC0, VC1, VC2, VC3, VC4, VC5, VC6, VC7, VC8, reduceIte, reduceCtorEq, Nat.reduceEqDiff, Nat.reduceAdd, Nat.reduceMul, Nat.reduceBEq, Nat.reduceLT, Nat.reduceLeDiff, Int.reduceEq, Int.reduceLT, Int.reduceLE, Int.reduceNeg, Int.reduceToNat, Int.reduceAdd, Nat.reduceDiv, Nat.reduceSub, Nat.reduceMod, encL, MC0, MC1, MC2, h, hp', isRef3, isRef4, isRef5, li_cat] | refine gdVn_of (fun h => ?_) (fun h => ?_) <;> simp only [VC0, VC1, VC2, VC3, VC4, VC5, VC6, VC7, VC8, reduceIte, reduceCtorEq, Nat.reduceEqDiff, Nat.reduceAdd, Nat.reduceMul, Nat.reduceBEq, Nat.reduceLT, Nat.reduceLeDiff, Int.reduceEq, Int.reduceLT, Int.reduceLE, Int.reduceNeg, Int.reduceToNat, Int.reduceAdd, Nat.reduceDiv, Nat.reduceSub, Nat.reduceMod, encL, MC0, MC1, MC2, h, hp', isRef3, isRef4, isRef5, li_cat] | refine gdV_of (fun h => ?_) (fun h => ?_) <;> simp only [VC0, VC1, VC2, VC3, VC4, VC5, VC6, VC7, VC8, reduceIte, reduceCtorEq, Nat.reduceEqDiff, Nat.reduceAdd, Nat.reduceMul, Nat.reduceBEq, Nat.reduceLT, Nat.reduceLeDiff, Int.reduceEq, Int.reduceLT, Int.reduceLE, Int.reduceNeg, Int.reduceToNat, Int.reduceAdd, Nat.reduceDiv, Nat.reduceSub, Nat.reduceMod, encL, MC0, MC1, MC2, h, hp', isRef3, isRef4, isRef5, li_cat] | refine callX_of (own_ret t) (by first | exact Or.inr rfl | exact Or.inl rfl) ?_ <;> simp only [VC0, VC1, VC2, VC3, VC4, VC5, VC6, VC7, VC8, reduceIte, reduceCtorEq, Nat.reduceEqDiff, Nat.reduceAdd, Nat.reduceMul, Nat.reduceBEq, Nat.reduceLT, Nat.reduceLeDiff, Int.reduceEq, Int.reduceLT, Int.reduceLE, Int.reduceNeg, Int.reduceToNat, Int.reduceAdd, Nat.reduceDiv, Nat.reduceSub, Nat.reduceMod, encL, MC0, MC1, MC2, hp', isRef3, isRef4, isRef5, li_cat] | refine callX_of (refers_ret _) (by first | exact Or.inr rfl | exact Or.inl rfl) ?_ <;> simp only [VC0, VC1, VC2, VC3, VC4, VC5, VC6, VC7, VC8, reduceIte, reduceCtorEq, Nat.reduceEqDiff, Nat.reduceAdd, Nat.reduceMul, Nat.reduceBEq, Nat.reduceLT, Nat.reduceLeDiff, Int.reduceEq, Int.reduceLT, Int.reduceLE, Int.reduceNeg, Int.reduceToNat, Int.reduceAdd, Nat.reduceDiv, Nat.reduceSub, Nat.reduceMod, encL, MC0, MC1, MC2, hp', isRef3, isRef4, isRef5, li_cat] | (unfold InI64; omega) | refine And.intro ?_ ?_)
      all_goals clear hc ih
      all_goals first
        | omega
        | (simp only [List.length_take]; omega)
        | (simp [key, ownS, isRef, *]; done)
        | (simp_all [ownS, isRef]; done)
        | trace_state
end Go.Proofs.YtgpeaibhhonikaaGreatDoor

set_option linter.unusedSimpArgs false
set_option linter.unusedVariables false
namespace Go.Proofs.YtgpeaibhhonikaaGreatDoor
open Go Go.Lg Go.RowKit
set_option linter.unusedVariables false
set_option linter.unusedSimpArgs false
set_option maxRecDepth 20000

theorem rregs_ret : ∀ (d : Nat) (t : RT), d ≤ 100 → deepB d t = false → PRet Tryz.prog 19 [.agg t.cells] (encL cI (regS t)) := by
  intro d
  induction d with
  | zero => intro t _ h; exact (deep_zero h).elim
  | succ d ih =>
    intro t hd h
    obtain ⟨he, hr, hc⟩ := deep_succ h
    have ol0 := own_len t.kind t.regions
    have ol4 := own_len 4 t.regions
    have ol5 := own_len 5 t.regions
    refine pret_intro_l fd19 (by simp) ?_
    by_cases hp : 0 < t.elem.length
    · have hp' : (0 : Int) < t.elem.length := by omega
      have hrl := reg_len d _ (hc _ (List.getElem_mem hp))
      have hf := rt_first hp
      have key : regS t = ownS t.kind t.regions ++ if isRef t.kind = true then regS t.elem[0] else [] := by rw [regS_eq, regH_pos hp]
      simp only [lc19, VC0, VC1, VC2, VC3, VC4, VC5, VC6, VC7, VC8, reduceIte, reduceCtorEq, Nat.reduceEqDiff, Nat.reduceAdd, Nat.reduceMul, Nat.reduceBEq, Nat.reduceLT, Nat.reduceLeDiff, Int.reduceEq, Int.reduceLT, Int.reduceLE, Int.reduceNeg, Int.reduceToNat, Int.reduceAdd, Nat.reduceDiv, Nat.reduceSub, Nat.reduceMod, encL, MC0, MC1, MC2]
      repeat' (first | refine condDn_of (fun h => ?_) (fun h => ?_) <;> simp only [VC0, VC1, VC2, VC3, VC4, VC5, VC6, VC7, VC8, reduceIte, reduceCtorEq, Nat.reduceEqDiff, Nat.reduceAdd, Nat.reduceMul, Nat.reduceBEq, Nat.reduceLT, Nat.reduceLeDiff, Int.reduceEq, Int.reduceLT, Int.reduceLE, Int.reduceNeg, Int.reduceToNat, Int.reduceAdd, Nat.reduceDiv, Nat.reduceSub, Nat.reduceMod, encL, MC0, MC1, MC2, h, hp, hp', hf, li_cat] | refine condD_of (fun h => ?_) (fun h => ?_) <;> simp only [VC0, VC1, VC2, VC3, VC4, VC5, VC6, VC7, VC8, reduceIte, reduceCtorEq, Nat.reduceEqDiff, Nat.reduceAdd, Nat.reduceMul, Nat.reduceBEq, Nat.reduceLT, Nat.reduceLeDiff, Int.reduceEq, Int.reduceLT, Int.reduceLE, Int.reduceNeg, Int.reduceToNat, Int.reduceAdd, Nat.reduceDiv, Nat.reduceSub, Nat.reduceMod, encL, MC0, MC1, MC2, h, hp, hp', hf, li_cat] | refine condVn_of (fun h => ?_) (fun h => ?_) <;> simp only [VC0, VC1, VC2, VC3, VC4, VC5, VC6, VC7, VC8, reduceIte, reduceCtorEq, Nat.reduceEqDiff, Nat.reduceAdd, Nat.reduceMul, Nat.reduceBEq, Nat.reduceLT, Nat.reduceLeDiff, Int.reduceEq, Int.reduceLT, Int.reduceLE, Int.reduceNeg, Int.reduceToNat, Int.reduceAdd, Nat.reduceDiv, Nat.reduceSub, Nat.reduceMod, encL, MC0, MC1, MC2, h, hp, hp', hf, li_cat] | refine condV_of (fun h => ?_) (fun h => ?_) <;> simp only [VC0, VC1, VC2, VC3, VC4, VC5, VC6, VC7, VC8, reduceIte, reduceCtorEq, Nat.reduceEqDiff, Nat.reduceAdd, Nat.reduceMul, Nat.reduceBEq, Nat.reduceLT, Nat.reduceLeDiff, Int.reduceEq, Int.reduceLT, Int.reduceLE, Int.reduceNeg, Int.reduceToNat, Int.reduceAdd, Nat.reduceDiv, Nat.reduceSub, Nat.reduceMod, encL, MC0, MC1, MC2, h, hp, hp', hf, li_cat] | refine gdDn_of (fun h => ?_) (fun h => ?_) <;> simp only [VC0, VC1, VC2, VC3, VC4, VC5, VC6, VC7, VC8, reduceIte, reduceCtorEq, Nat.reduceEqDiff, Nat.reduceAdd, Nat.reduceMul, Nat.reduceBEq, Nat.reduceLT, Nat.reduceLeDiff, Int.reduceEq, Int.reduceLT, Int.reduceLE, Int.reduceNeg, Int.reduceToNat, Int.reduceAdd, Nat.reduceDiv, Nat.reduceSub, Nat.reduceMod, encL, MC0, MC1, MC2, h, hp, hp', hf, li_cat] | refine gdD_of (fun h => ?_) (fun h => ?_) <;> simp only [VC0, VC1, VC2, VC3, VC4, VC5, VC6, VC7, VC8, reduceIte, reduceCtorEq, Nat.reduceEqDiff, Nat.reduceAdd, Nat.reduceMul, Nat.reduceBEq, Nat.reduceLT, Nat.reduceLeDiff, Int.reduceEq, Int.reduceLT, Int.reduceLE, Int.reduceNeg, Int.reduceToNat, Int.reduceAdd, Nat.reduceDiv, Nat.reduceSub, Nat.reduceMod, encL, MC0, MC1, MC2, h, hp, hp', hf, li_cat] | refine gdVMn_of (fun h => ?_) (fun h => ?_) <;> simp only [VC0, VC1, VC2, VC3, VC4, VC5, VC6, VC7, VC8, reduceIte, reduceCtorEq, Nat.reduceEqDiff, Nat.reduceAdd, Nat.reduceMul, Nat.reduceBEq, Nat.reduceLT, Nat.reduceLeDiff, Int.reduceEq, Int.reduceLT, Int.reduceLE, Int.reduceNeg, Int.reduceToNat, Int.reduceAdd, Nat.reduceDiv, Nat.reduceSub, Nat.reduceMod, encL, MC0, MC1, MC2, h, hp, hp', hf, li_cat] | refine gdVM_of (fun h => ?_) (fun h => ?_) <;> simp only [VC0, VC1, VC2, VC3, VC4, VC5, VC6, VC7, VC8, reduceIte, reduceCtorEq, Nat.reduceEqDiff, Nat.reduceAdd, Nat.reduceMul, Nat.reduceBEq, Nat.reduceLT, Nat.reduceLeDiff, Int.reduceEq, Int.reduceLT, Int.reduceLE, Int.reduceNeg, Int.reduceToNat, Int.reduceAdd, Nat.reduceDiv, Nat.reduceSub, Nat.reduceMod, encL, MC0, MC1, MC2, h, hp, hp', hf, li_cat] | refine gpDn_of (fun h => ?_) (fun h => ?_) <;> simp only [VC0, VC1, VC2, VC3, VC4, VC5, VC6, VC7, VC8, reduceIte, reduceCtorEq, Nat.reduceEqDiff, Nat.reduceAdd, Nat.reduceMul, Nat.reduceBEq, Nat.reduceLT, Nat.reduceLeDiff, Int.reduceEq, Int.reduceLT, Int.reduceLE, Int.reduceNeg, Int.reduceToNat, Int.reduceAdd, Nat.reduceDiv, Nat.reduceSub, Nat.reduceMod, encL, MC0, MC1, MC2, h, hp, hp', hf, li_cat] | refine gpD_of (fun h => ?_) (fun h => ?_) <;> simp only [VC0, VC1, VC2, VC3, VC4, VC5, VC6, VC7, VC8, reduceIte, reduceCtorEq, Nat.reduceEqDiff, Nat.reduceAdd, Nat.reduceMul, Nat.reduceBEq, Nat.reduceLT, Nat.reduceLeDiff, Int.reduceEq, Int.reduceLT, Int.reduceLE, Int.reduceNeg, Int.reduceToNat, Int.reduceAdd, Nat.reduceDiv, Nat.reduceSub, Nat.reduceMod, encL, MC0, MC1, MC2, h, hp, hp', hf, li_cat] | refine gdVn_of (fun h => ?_) (fun h => ?_) <;> simp only [VC0, VC1, VC2, VC3, VC4, VC5, VC6, VC7, VC8, reduceIte, reduceCtorEq, Nat.reduceEqDiff, Nat.reduceAdd, Nat.reduceMul, Nat.reduceBEq, Nat.reduceLT, Nat.reduceLeDiff, Int.reduceEq, Int.reduceLT, Int.reduceLE, Int.reduceNeg, Int.reduceToNat, Int.reduceAdd, Nat.reduceDiv, Nat.reduceSub, Nat.reduceMod, encL, MC0, MC1, MC2, h, hp, hp', hf, li_cat] | refine gdV_of (fun h => ?_) (fun h => ?_) <;> simp only [VC0, VC1, VC2, VC3, VC4, VC5, VC6, VC7, VC8, reduceIte, reduceCtorEq, Nat.reduceEqDiff, Nat.reduceAdd, Nat.reduceMul, Nat.reduceBEq, Nat.reduceLT, Nat.reduceLeDiff, Int.reduceEq, Int.reduceLT, Int.reduceLE, Int.reduceNeg, Int.reduceToNat, Int.reduceAdd, Nat.reduceDiv, Nat.reduceSub, Nat.reduceMod, encL, MC0, MC1, MC2, h, hp, hp', hf, li_cat] | refine callX_of (rown_ret t) (by first | exact Or.inr rfl | exact Or.inl rfl) ?_ <;> simp only [VC0, VC1, VC2, VC3, VC4, VC5, VC6, VC7, VC8, reduceIte, reduceCtorEq, Nat.reduceEqDiff, Nat.reduceAdd, Nat.reduceMul, Nat.reduceBEq, Nat.reduceLT, Nat.reduceLeDiff, Int.reduceEq, Int.reduceLT, Int.reduceLE, Int.reduceNeg, Int.reduceToNat, Int.reduceAdd, Nat.reduceDiv, Nat.reduceSub, Nat.reduceMod, encL, MC0, MC1, MC2, hp, hp', hf, li_cat] | refine callX_of (ih t.elem[0] (by omega) (hc _ (List.getElem_mem hp))) (by first | exact Or.inr rfl | exact Or.inl rfl) ?_ <;> simp only [VC0, VC1, VC2, VC3, VC4, VC5, VC6, VC7, VC8, reduceIte, reduceCtorEq, Nat.reduceEqDiff, Nat.reduceAdd, Nat.reduceMul, Nat.reduceBEq, Nat.reduceLT, Nat.reduceLeDiff, Int.reduceEq, Int.reduceLT, Int.reduceLE, Int.reduceNeg, Int.reduceToNat, Int.reduceAdd, Nat.reduceDiv, Nat.reduceSub, Nat.reduceMod, encL, MC0, MC1, MC2, hp, hp', hf, li_cat] | (unfold InI64; omega) | refine And.intro ?_ ?_)
      all_goals clear hf hc ih
      all_goals first
        | omega
        | (simp [key, isRef, *]; done)
        | (simp_all [ownS, isRef]; done)
        | trace_state
    · have hp' : ¬ (0 : Int) < t.elem.length := by omega
      have key : regS t = ownS t.kind t.regions := by
        rw [regS_eq]
        cases he : t.elem with
        | nil => simp [regH]
        | cons x l => rw [he] at hp; simp at hp
      simp only [lc19, VC0, VC1, VC2, VC3, VC4, VC5, VC6, VC7, VC8, reduceIte, reduceCtorEq, Nat.reduceEqDiff, Nat.reduceAdd, Nat.reduceMul, Nat.reduceBEq, Nat.reduceLT, Nat.reduceLeDiff, Int.reduceEq, Int.reduceLT, Int.reduceLE, Int.reduceNeg, Int.reduceToNat, Int.reduceAdd, Nat.reduceDiv, Nat.reduceSub, Nat.reduceMod, encL, MC0, MC1, MC2]
      repeat' (first | refine condDn_of (fun h => ?_) (fun h => ?_) <;> simp only [VC0, VC1, VC2, VC3, VC4, VC5, VC6, VC7, VC8, reduceIte, reduceCtorEq, Nat.reduceEqDiff, Nat.reduceAdd, Nat.reduceMul, Nat.reduceBEq, Nat.reduceLT, Nat.reduceLeDiff, Int.reduceEq, Int.reduceLT, Int.reduceLE, Int.reduceNeg, Int.reduceToNat, Int.reduceAdd, Nat.reduceDiv, Nat.reduceSub, Nat.reduceMod, encL, MC0, MC1, MC2, h, hp', li_cat] | refine condD_of (fun h => ?_) (fun h => ?_) <;> simp only [VC0, VC1, VC2, VC3, VC4, VC5, VC6, VC7, VC8, reduceIte, reduceCtorEq, Nat.reduceEqDiff, Nat.reduceAdd, Nat.reduceMul, Nat.reduceBEq, Nat.reduceLT, Nat.reduceLeDiff, Int.reduceEq, Int.reduceLT, Int.reduceLE, Int.reduceNeg, Int.reduceToNat, Int.reduceAdd, Nat.reduceDiv, Nat.reduceSub, Nat.reduceMod, encL, MC0, MC1, MC2, h, hp', li_cat] | refine condVn_of (fun h => ?_) (fun h => ?_) <;> simp only [VC0, VC1, VC2, VC3, VC4, VC5, VC6, VC7, VC8, reduceIte, reduceCtorEq, Nat.reduceEqDiff, Nat.reduceAdd, Nat.reduceMul, Nat.reduceBEq, Nat.reduceLT, Nat.reduceLeDiff, Int.reduceEq, Int.reduceLT, Int.reduceLE, Int.reduceNeg, Int.reduceToNat, Int.reduceAdd, Nat.reduceDiv, Nat.reduceSub, Nat.reduceMod, encL, MC0, MC1, MC2, h, hp', li_cat] | refine condV_of (fun h => ?_) (fun h => ?_) <;> simp only [VC0, VC1, VC2, VC3, VC4, VC5, VC6, VC7, VC8, reduceIte, reduceCtorEq, Nat.reduceEqDiff, Nat.reduceAdd, Nat.reduceMul, Nat.reduceBEq, Nat.reduceLT, Nat.reduceLeDiff, Int.reduceEq, Int.reduceLT, Int.reduceLE, Int.reduceNeg, Int.reduceToNat, Int.reduceAdd, Nat.reduceDiv, Nat.reduceSub, Nat.reduceMod, encL, MC0, MC1, MC2, h, hp', li_cat] | refine gdDn_of (fun h => ?_) (fun h => ?_) <;> simp only [VC0, VC1, VC2, VC3, VC4, VC5, VC6, VC7, VC8, reduceIte, reduceCtorEq, Nat.reduceEqDiff, Nat.reduceAdd, Nat.reduceMul, Nat.reduceBEq, Nat.reduceLT, Nat.reduceLeDiff, Int.reduceEq, Int.reduceLT, Int.reduceLE, Int.reduceNeg, Int.reduceToNat, Int.reduceAdd, Nat.reduceDiv, Nat.reduceSub, Nat.reduceMod, encL, MC0, MC1, MC2, h, hp', li_cat] | refine gdD_of (fun h => ?_) (fun h => ?_) <;> simp only [VC0, VC1, VC2, VC3, VC4, VC5, VC6, VC7, VC8, reduceIte, reduceCtorEq, Nat.reduceEqDiff, Nat.reduceAdd, Nat.reduceMul, Nat.reduceBEq, Nat.reduceLT, Nat.reduceLeDiff, Int.reduceEq, Int.reduceLT, Int.reduceLE, Int.reduceNeg, Int.reduceToNat, Int.reduceAdd, Nat.reduceDiv, Nat.reduceSub, Nat.reduceMod, encL, MC0, MC1, MC2, h, hp', li_cat] | refine gdVMn_of (fun h => ?_) (fun h => ?_) <;> simp only [VC0, VC1, VC2, VC3, VC4, VC5, VC6, VC7, VC8, reduceIte, reduceCtorEq, Nat.reduceEqDiff, Nat.reduceAdd, Nat.reduceMul, Nat.reduceBEq, Nat.reduceLT, Nat.reduceLeDiff, Int.reduceEq, Int.reduceLT, Int.reduceLE, Int.reduceNeg, Int.reduceToNat, Int.reduceAdd, Nat.reduceDiv, Nat.reduceSub, Nat.reduceMod, encL, MC0, MC1, MC2, h, hp', li_cat] | refine gdVM_of (fun h => ?_) (fun h => ?_) <;> simp only [VC0, VC1, VC2, VC3, VC4, VC5, VC6, VC7, VC8, reduceIte, reduceCtorEq, Nat.reduceEqDiff, Nat.reduceAdd, Nat.reduceMul, Nat.reduceBEq, Nat.reduceLT, Nat.reduceLeDiff, Int.reduceEq, Int.reduceLT, Int.reduceLE, Int.reduceNeg, Int.reduceToNat, Int.reduceAdd, Nat.reduceDiv, Nat.reduceSub, Nat.reduceMod, encL, MC0, MC1, MC2, h, hp', li_cat] | refine gpDn_of (fun h => ?_) (fun h => ?_) <;> simp only [VC0, VC1, VC2, VC3, VC4, VC5, VC6, VC7, VC8, reduceIte, reduceCtorEq, Nat.reduceEqDiff, Nat.reduceAdd, Nat.reduceMul, Nat.reduceBEq, Nat.reduceLT, Nat.reduceLeDiff, Int.reduceEq, Int.reduceLT, Int.reduceLE, Int.reduceNeg, Int.reduceToNat, Int.reduceAdd, Nat.reduceDiv, Nat.reduceSub, Nat.reduceMod, encL, MC0, MC1, MC2, h, hp', li_cat] | refine gpD_of (fun h => ?_) (fun h => ?_) <;> simp only [VC0, VC1, VC2, VC3, VC4, VC5, VC6, VC7, VC8, reduceIte, reduceCtorEq, Nat.reduceEqDiff, Nat.reduceAdd, Nat.reduceMul, Nat.reduceBEq, Nat.reduceLT, Nat.reduceLeDiff, Int.reduceEq, Int.reduceLT, Int.reduceLE, Int.reduceNeg, Int.reduceToNat, Int.reduceAdd, Nat.reduceDiv, Nat.reduceSub, Nat.reduceMod, encL, MC0, MC1, MC2, h, hp', li_cat] | refine gdVn_of (fun h => ?_) (fun h => ?_) <;> simp only [VC0, VC1, VC2, VC3, VC4, VC5, VC6, VC7, VC8, reduceIte, reduceCtorEq, Nat.reduceEqDiff, Nat.reduceAdd, Nat.reduceMul, Nat.reduceBEq, Nat.reduceLT, Nat.reduceLeDiff, Int.reduceEq, Int.reduceLT, Int.reduceLE, Int.reduceNeg, Int.reduceToNat, Int.reduceAdd, Nat.reduceDiv, Nat.reduceSub, Nat.reduceMod, encL, MC0, MC1, MC2, h, hp', li_cat] | refine gdV_of (fun h => ?_) (fun h => ?_) <;> simp only [VC0, VC1, VC2, VC3, VC4, VC5, VC6, VC7, VC8, reduceIte, reduceCtorEq, Nat.reduceEqDiff, Nat.reduceAdd, Nat.reduceMul, Nat.reduceBEq, Nat.reduceLT, Nat.reduceLeDiff, Int.reduceEq, Int.reduceLT, Int.reduceLE, Int.reduceNeg, Int.reduceToNat, Int.reduceAdd, Nat.reduceDiv, Nat.reduceSub, Nat.reduceMod, encL, MC0, MC1, MC2, h, hp', li_cat] | refine callX_of (rown_ret t) (by first | exact Or.inr rfl | exact Or.inl rfl) ?_ <;> simp only [VC0, VC1, VC2, VC3, VC4, VC5, VC6, VC7, VC8, reduceIte, reduceCtorEq, Nat.reduceEqDiff, Nat.reduceAdd, Nat.reduceMul, Nat.reduceBEq, Nat.reduceLT, Nat.reduceLeDiff, Int.reduceEq, Int.reduceLT, Int.reduceLE, Int.reduceNeg, Int.reduceToNat, Int.reduceAdd, Nat.reduceDiv, Nat.reduceSub, Nat.reduceMod, encL, MC0, MC1, MC2, hp', li_cat] | (unfold InI64; omega) | refine And.intro ?_ ?_)
      all_goals clear hc ih
      all_goals first
        | omega
        | (simp [key, isRef, *]; done)
        | (simp_all [ownS, isRef]; done)
        | trace_state

def allZ (p : RT → RT → Bool) : List RT → List RT → Bool
  | x :: l, y :: m => p x y && allZ p l m
  | _, _ => true
theorem sameL_z : ∀ (l m : List RT), sameL l m = (decide (l.length = m.length) && allZ sameB l m)
  | [], [] => rfl
  | [], y :: m => by simp [sameL, allZ]
  | x :: l, [] => by simp [sameL, allZ]
  | x :: l, y :: m => by
    rw [sameL, sameL_z l m, allZ]
    simp only [List.length_cons, Nat.add_right_cancel_iff]
    cases sameB x y <;> simp
theorem exL_z : ∀ (l m : List RT), exL l m = (decide (l.length = m.length) && allZ exB l m)
  | [], [] => rfl
  | [], y :: m => by simp [exL, allZ]
  | x :: l, [] => by simp [exL, allZ]
  | x :: l, y :: m => by
    rw [exL, exL_z l m, allZ]
    simp only [List.length_cons, Nat.add_right_cancel_iff]
    cases exB x y <;> simp
theorem allZ_drop (p : RT → RT → Bool) {l m : List RT} {k : Nat} (hl : k < l.length) (hm : k < m.length) : allZ p (l.drop k) (m.drop k) = (p l[k] m[k] && allZ p (l.drop (k + 1)) (m.drop (k + 1))) := by
  rw [List.drop_eq_getElem_cons hl, List.drop_eq_getElem_cons hm, allZ]

theorem eqf_ret (l m : List RT) (g : FuncId) (p : RT → RT → Bool) (hl : l.length ≤ 1000000) (hf : ∀ x ∈ l, ∀ y ∈ m, PRet Tryz.prog g [.agg x.cells, .agg y.cells] (.bool (p x y))) :
    PRet Tryz.prog 61 [encL RT.cells l, encL RT.cells m, .fn g []] (.bool (decide (l.length = m.length) && allZ p l m)) := by
  refine pret_intro fd61 (by simp) ?_
  simp only [lc61, VC0, VC1, VC2, VC3, VC4, VC5, VC6, VC7, VC8, reduceIte, reduceCtorEq, Nat.reduceEqDiff, Nat.reduceAdd, Nat.reduceMul, Nat.reduceBEq, Nat.reduceLT, Nat.reduceLeDiff, Int.reduceEq, Int.reduceLT, Int.reduceLE, Int.reduceNeg, Int.reduceToNat, Int.reduceAdd, Nat.reduceDiv, Nat.reduceSub, Nat.reduceMod, encL, MC0, MC1, MC2]
  cases b0 : decide ((l.length : Int) = m.length) <;> simp only [VC0, VC1, VC2, VC3, VC4, VC5, VC6, VC7, VC8, reduceIte, reduceCtorEq, Nat.reduceEqDiff, Nat.reduceAdd, Nat.reduceMul, Nat.reduceBEq, Nat.reduceLT, Nat.reduceLeDiff, Int.reduceEq, Int.reduceLT, Int.reduceLE, Int.reduceNeg, Int.reduceToNat, Int.reduceAdd, Nat.reduceDiv, Nat.reduceSub, Nat.reduceMod, encL, MC0, MC1, MC2, b0]
  · have : decide (l.length = m.length) = false := decide_eq_false (by have := of_decide_eq_false b0; omega)
    rw [this, Bool.false_and]
  have hlm : l.length = m.length := by have := of_decide_eq_true b0; omega
  refine loop_vcg (ι := Nat × (Nat → Nat)) (fun (k, c) => stO [(1, .val (encL RT.cells m)), (2, .val (.fn g [])), (15, .val (encL RT.cells l)), (16, .val (.int .i64 l.length)), (17, .val (.int .i64 k))] c)
    (fun (k, _) => k ≤ l.length ∧ allZ p (l.drop k) (m.drop k) = allZ p l m) (fun (k, _) => l.length - k) (0, _) ⟨Nat.zero_le _, rfl⟩ (ent_of _ [] rfl rfl (by simp only [VC0, VC1, VC2, VC3, VC4, VC5, VC6, VC7, VC8, reduceIte, reduceCtorEq, Nat.reduceEqDiff, Nat.reduceAdd, Nat.reduceMul, Nat.reduceBEq, Nat.reduceLT, Nat.reduceLeDiff, Int.reduceEq, Int.reduceLT, Int.reduceLE, Int.reduceNeg, Int.reduceToNat, Int.reduceAdd, Nat.reduceDiv, Nat.reduceSub, Nat.reduceMod, encL, MC0, MC1, MC2])) ?_
  rintro ⟨k, c⟩ hk
  obtain ⟨hk, hb⟩ : k ≤ l.length ∧ allZ p (l.drop k) (m.drop k) = allZ p l m := hk
  simp only [VC0, VC1, VC2, VC3, VC4, VC5, VC6, VC7, VC8, reduceIte, reduceCtorEq, Nat.reduceEqDiff, Nat.reduceAdd, Nat.reduceMul, Nat.reduceBEq, Nat.reduceLT, Nat.reduceLeDiff, Int.reduceEq, Int.reduceLT, Int.reduceLE, Int.reduceNeg, Int.reduceToNat, Int.reduceAdd, Nat.reduceDiv, Nat.reduceSub, Nat.reduceMod, encL, MC0, MC1, MC2]
  refine condD_of (fun h => ?_) (fun h => ?_)
  · have ha' : k < l.length := by omega
    have hb' : k < m.length := by omega
    have i1 : 0 ≤ (k : Int) ∧ (k : Int) < l.length := by omega
    have i2 : 0 ≤ (k : Int) ∧ (k : Int) < m.length := by omega
    have i3 : InI64 ((k : Int) + 1) := by unfold InI64; omega
    rw [allZ_drop p ha' hb'] at hb
    simp only [VC0, VC1, VC2, VC3, VC4, VC5, VC6, VC7, VC8, reduceIte, reduceCtorEq, Nat.reduceEqDiff, Nat.reduceAdd, Nat.reduceMul, Nat.reduceBEq, Nat.reduceLT, Nat.reduceLeDiff, Int.reduceEq, Int.reduceLT, Int.reduceLE, Int.reduceNeg, Int.reduceToNat, Int.reduceAdd, Nat.reduceDiv, Nat.reduceSub, Nat.reduceMod, encL, MC0, MC1, MC2, ha', hb', i1, i2]
    refine callX_of (hf _ (List.getElem_mem ha') _ (List.getElem_mem hb')) (.inr rfl) ?_
    simp only [VC0, VC1, VC2, VC3, VC4, VC5, VC6, VC7, VC8, reduceIte, reduceCtorEq, Nat.reduceEqDiff, Nat.reduceAdd, Nat.reduceMul, Nat.reduceBEq, Nat.reduceLT, Nat.reduceLeDiff, Int.reduceEq, Int.reduceLT, Int.reduceLE, Int.reduceNeg, Int.reduceToNat, Int.reduceAdd, Nat.reduceDiv, Nat.reduceSub, Nat.reduceMod, encL, MC0, MC1, MC2]
    cases b1 : p l[k] m[k] <;> simp only [VC0, VC1, VC2, VC3, VC4, VC5, VC6, VC7, VC8, reduceIte, reduceCtorEq, Nat.reduceEqDiff, Nat.reduceAdd, Nat.reduceMul, Nat.reduceBEq, Nat.reduceLT, Nat.reduceLeDiff, Int.reduceEq, Int.reduceLT, Int.reduceLE, Int.reduceNeg, Int.reduceToNat, Int.reduceAdd, Nat.reduceDiv, Nat.reduceSub, Nat.reduceMod, encL, MC0, MC1, MC2, b1, i3]
    · rw [b1, Bool.false_and] at hb
      rw [← hb, Bool.and_false]
    · rw [b1, Bool.true_and] at hb
      exact backTo_of (k + 1, _) ⟨ha', hb⟩ (by simp only []; omega) (ent_of _ [] rfl rfl (by simp only [VC0, VC1, VC2, VC3, VC4, VC5, VC6, VC7, VC8, reduceIte, reduceCtorEq, Nat.reduceEqDiff, Nat.reduceAdd, Nat.reduceMul, Nat.reduceBEq, Nat.reduceLT, Nat.reduceLeDiff, Int.reduceEq, Int.reduceLT, Int.reduceLE, Int.reduceNeg, Int.reduceToNat, Int.reduceAdd, Nat.reduceDiv, Nat.reduceSub, Nat.reduceMod, encL, MC0, MC1, MC2]))
  · have hk' : k = l.length := by omega
    subst hk'
    rw [List.drop_length] at hb
    simp only [VC0, VC1, VC2, VC3, VC4, VC5, VC6, VC7, VC8, reduceIte, reduceCtorEq, Nat.reduceEqDiff, Nat.reduceAdd, Nat.reduceMul, Nat.reduceBEq, Nat.reduceLT, Nat.reduceLeDiff, Int.reduceEq, Int.reduceLT, Int.reduceLE, Int.reduceNeg, Int.reduceToNat, Int.reduceAdd, Nat.reduceDiv, Nat.reduceSub, Nat.reduceMod, encL, MC0, MC1, MC2]
    rw [← hb, decide_eq_true hlm]; rfl

theorem str_eq (a b : ByteArray) : (a.toList == b.toList) = decide (a = b) := by
  rw [ByteArray.toList_eq, ByteArray.toList_eq, Bool.eq_iff_iff]
  simp only [beq_iff_eq, decide_eq_true_eq]
  constructor
  · intro h
    cases a; cases b
    simp only at h
    congr 1
    exact Array.toList_inj.1 h
  · rintro rfl; rfl
theorem str_ne (a b : ByteArray) : (a.toList != b.toList) = !decide (a = b) := by rw [bne, str_eq]
theorem len_dec (a b : Nat) : decide ((a : Int) = b) = decide (a = b) := by rw [Bool.eq_iff_iff, decide_eq_true_eq, decide_eq_true_eq]; omega

theorem same_ret : ∀ (d : Nat) (a b : RT), d ≤ 100 → deepB d a = false → PRet Tryz.prog 32 [.agg a.cells, .agg b.cells] (.bool (sameB a b)) := by
  intro d
  induction d with
  | zero => intro t _ _ h; exact (deep_zero h).elim
  | succ d ih =>
    intro a b hd h
    obtain ⟨he, hr, hc⟩ := deep_succ h
    refine pret_intro fd32 (by simp) ?_
    have h5 := eqf_ret a.elem b.elem 32 sameB (by omega) (fun x hx y hy => ih x y (by omega) (hc x hx))
    simp only [lc32, VC0, VC1, VC2, VC3, VC4, VC5, VC6, VC7, VC8, reduceIte, reduceCtorEq, Nat.reduceEqDiff, Nat.reduceAdd, Nat.reduceMul, Nat.reduceBEq, Nat.reduceLT, Nat.reduceLeDiff, Int.reduceEq, Int.reduceLT, Int.reduceLE, Int.reduceNeg, Int.reduceToNat, Int.reduceAdd, Nat.reduceDiv, Nat.reduceSub, Nat.reduceMod, encL, MC0, MC1, MC2, str_eq, len_dec]
    cases b1 : decide (a.kind = b.kind) <;> simp only [VC0, VC1, VC2, VC3, VC4, VC5, VC6, VC7, VC8, reduceIte, reduceCtorEq, Nat.reduceEqDiff, Nat.reduceAdd, Nat.reduceMul, Nat.reduceBEq, Nat.reduceLT, Nat.reduceLeDiff, Int.reduceEq, Int.reduceLT, Int.reduceLE, Int.reduceNeg, Int.reduceToNat, Int.reduceAdd, Nat.reduceDiv, Nat.reduceSub, Nat.reduceMod, encL, MC0, MC1, MC2, b1, str_eq, len_dec]
    · rw [sameB_eq, b1, Bool.false_and]
    cases b2 : decide (a.name = b.name) <;> simp only [VC0, VC1, VC2, VC3, VC4, VC5, VC6, VC7, VC8, reduceIte, reduceCtorEq, Nat.reduceEqDiff, Nat.reduceAdd, Nat.reduceMul, Nat.reduceBEq, Nat.reduceLT, Nat.reduceLeDiff, Int.reduceEq, Int.reduceLT, Int.reduceLE, Int.reduceNeg, Int.reduceToNat, Int.reduceAdd, Nat.reduceDiv, Nat.reduceSub, Nat.reduceMod, encL, MC0, MC1, MC2, b2, str_eq, len_dec]
    · rw [sameB_eq, b1, b2]; rfl
    cases b3 : decide (a.regions.length = b.regions.length) <;> simp only [VC0, VC1, VC2, VC3, VC4, VC5, VC6, VC7, VC8, reduceIte, reduceCtorEq, Nat.reduceEqDiff, Nat.reduceAdd, Nat.reduceMul, Nat.reduceBEq, Nat.reduceLT, Nat.reduceLeDiff, Int.reduceEq, Int.reduceLT, Int.reduceLE, Int.reduceNeg, Int.reduceToNat, Int.reduceAdd, Nat.reduceDiv, Nat.reduceSub, Nat.reduceMod, encL, MC0, MC1, MC2, b3, str_eq, len_dec]
    · rw [sameB_eq, b1, b2, b3]; rfl
    refine callX_of h5 (.inr rfl) ?_
    simp only [VC0, VC1, VC2, VC3, VC4, VC5, VC6, VC7, VC8, reduceIte, reduceCtorEq, Nat.reduceEqDiff, Nat.reduceAdd, Nat.reduceMul, Nat.reduceBEq, Nat.reduceLT, Nat.reduceLeDiff, Int.reduceEq, Int.reduceLT, Int.reduceLE, Int.reduceNeg, Int.reduceToNat, Int.reduceAdd, Nat.reduceDiv, Nat.reduceSub, Nat.reduceMod, encL, MC0, MC1, MC2]
    rw [sameB_eq, b1, b2, b3, sameL_z]; rfl

theorem rsame_ret : ∀ (d : Nat) (a b : RT), d ≤ 100 → deepB d a = false → PRet Tryz.prog 33 [.agg a.cells, .agg b.cells] (.bool (sameB a b)) := by
  intro d
  induction d with
  | zero => intro t _ _ h; exact (deep_zero h).elim
  | succ d ih =>
    intro a b hd h
    obtain ⟨he, hr, hc⟩ := deep_succ h
    refine pret_intro fd33 (by simp) ?_
    simp only [lc33, VC0, VC1, VC2, VC3, VC4, VC5, VC6, VC7, VC8, reduceIte, reduceCtorEq, Nat.reduceEqDiff, Nat.reduceAdd, Nat.reduceMul, Nat.reduceBEq, Nat.reduceLT, Nat.reduceLeDiff, Int.reduceEq, Int.reduceLT, Int.reduceLE, Int.reduceNeg, Int.reduceToNat, Int.reduceAdd, Nat.reduceDiv, Nat.reduceSub, Nat.reduceMod, encL, MC0, MC1, MC2, str_eq, str_ne, len_dec]
    cases b1 : decide (a.kind = b.kind) <;> simp only [VC0, VC1, VC2, VC3, VC4, VC5, VC6, VC7, VC8, reduceIte, reduceCtorEq, Nat.reduceEqDiff, Nat.reduceAdd, Nat.reduceMul, Nat.reduceBEq, Nat.reduceLT, Nat.reduceLeDiff, Int.reduceEq, Int.reduceLT, Int.reduceLE, Int.reduceNeg, Int.reduceToNat, Int.reduceAdd, Nat.reduceDiv, Nat.reduceSub, Nat.reduceMod, encL, MC0, MC1, MC2, b1, str_eq, str_ne, len_dec]
    · rw [sameB_eq, b1, Bool.false_and]
    cases b2 : decide (a.name = b.name) <;> simp only [VC0, VC1, VC2, VC3, VC4, VC5, VC6, VC7, VC8, reduceIte, reduceCtorEq, Nat.reduceEqDiff, Nat.reduceAdd, Nat.reduceMul, Nat.reduceBEq, Nat.reduceLT, Nat.reduceLeDiff, Int.reduceEq, Int.reduceLT, Int.reduceLE, Int.reduceNeg, Int.reduceToNat, Int.reduceAdd, Nat.reduceDiv, Nat.reduceSub, Nat.reduceMod, encL, MC0, MC1, MC2, b2, str_eq, str_ne, len_dec]
    · rw [sameB_eq, b1, b2]; rfl
    cases b3 : decide (a.regions.length = b.regions.length) <;> simp only [VC0, VC1, VC2, VC3, VC4, VC5, VC6, VC7, VC8, reduceIte, reduceCtorEq, Nat.reduceEqDiff, Nat.reduceAdd, Nat.reduceMul, Nat.reduceBEq, Nat.reduceLT, Nat.reduceLeDiff, Int.reduceEq, Int.reduceLT, Int.reduceLE, Int.reduceNeg, Int.reduceToNat, Int.reduceAdd, Nat.reduceDiv, Nat.reduceSub, Nat.reduceMod, encL, MC0, MC1, MC2, b3, str_eq, str_ne, len_dec]
    · rw [sameB_eq, b1, b2, b3]; rfl
    cases b4 : decide (a.elem.length = b.elem.length) <;> simp only [VC0, VC1, VC2, VC3, VC4, VC5, VC6, VC7, VC8, reduceIte, reduceCtorEq, Nat.reduceEqDiff, Nat.reduceAdd, Nat.reduceMul, Nat.reduceBEq, Nat.reduceLT, Nat.reduceLeDiff, Int.reduceEq, Int.reduceLT, Int.reduceLE, Int.reduceNeg, Int.reduceToNat, Int.reduceAdd, Nat.reduceDiv, Nat.reduceSub, Nat.reduceMod, encL, MC0, MC1, MC2, b4, str_eq, str_ne, len_dec]
    · rw [sameB_eq, b1, b2, b3, sameL_z, b4]; rfl
    have hlm : a.elem.length = b.elem.length := of_decide_eq_true b4
    refine loop_vcg (ι := Nat × (Nat → Nat)) (fun (k, c) => stO [(2, .box a.cells), (3, .box b.cells), (5, .val (.int .i64 k))] c)
      (fun (k, _) => k ≤ a.elem.length ∧ allZ sameB (a.elem.drop k) (b.elem.drop k) = allZ sameB a.elem b.elem) (fun (k, _) => a.elem.length - k) (0, _) ⟨Nat.zero_le _, rfl⟩ (ent_of _ [] rfl rfl (by simp only [VC0, VC1, VC2, VC3, VC4, VC5, VC6, VC7, VC8, reduceIte, reduceCtorEq, Nat.reduceEqDiff, Nat.reduceAdd, Nat.reduceMul, Nat.reduceBEq, Nat.reduceLT, Nat.reduceLeDiff, Int.reduceEq, Int.reduceLT, Int.reduceLE, Int.reduceNeg, Int.reduceToNat, Int.reduceAdd, Nat.reduceDiv, Nat.reduceSub, Nat.reduceMod, encL, MC0, MC1, MC2])) ?_
    rintro ⟨k, c⟩ hk
    obtain ⟨hk, hb⟩ : k ≤ a.elem.length ∧ allZ sameB (a.elem.drop k) (b.elem.drop k) = allZ sameB a.elem b.elem := hk
    simp only [VC0, VC1, VC2, VC3, VC4, VC5, VC6, VC7, VC8, reduceIte, reduceCtorEq, Nat.reduceEqDiff, Nat.reduceAdd, Nat.reduceMul, Nat.reduceBEq, Nat.reduceLT, Nat.reduceLeDiff, Int.reduceEq, Int.reduceLT, Int.reduceLE, Int.reduceNeg, Int.reduceToNat, Int.reduceAdd, Nat.reduceDiv, Nat.reduceSub, Nat.reduceMod, encL, MC0, MC1, MC2]
    refine condD_of (fun h => ?_) (fun h => ?_)
    · have ha' : k < a.elem.length := by omega
      have hb' : k < b.elem.length := by omega
      have i1 : 0 ≤ (k : Int) ∧ (k : Int) < a.elem.length := by omega
      have i2 : 0 ≤ (k : Int) ∧ (k : Int) < b.elem.length := by omega
      have i3 : InI64 ((k : Int) + 1) := by unfold InI64; omega
      rw [allZ_drop sameB ha' hb'] at hb
      simp only [VC0, VC1, VC2, VC3, VC4, VC5, VC6, VC7, VC8, reduceIte, reduceCtorEq, Nat.reduceEqDiff, Nat.reduceAdd, Nat.reduceMul, Nat.reduceBEq, Nat.reduceLT, Nat.reduceLeDiff, Int.reduceEq, Int.reduceLT, Int.reduceLE, Int.reduceNeg, Int.reduceToNat, Int.reduceAdd, Nat.reduceDiv, Nat.reduceSub, Nat.reduceMod, encL, MC0, MC1, MC2, ha', hb', i1, i2]
      refine callV_of (ih _ (b.elem[k]) (by omega) (hc _ (List.getElem_mem ha'))) (.inr rfl) ?_
      simp only [VC0, VC1, VC2, VC3, VC4, VC5, VC6, VC7, VC8, reduceIte, reduceCtorEq, Nat.reduceEqDiff, Nat.reduceAdd, Nat.reduceMul, Nat.reduceBEq, Nat.reduceLT, Nat.reduceLeDiff, Int.reduceEq, Int.reduceLT, Int.reduceLE, Int.reduceNeg, Int.reduceToNat, Int.reduceAdd, Nat.reduceDiv, Nat.reduceSub, Nat.reduceMod, encL, MC0, MC1, MC2]
      cases c1 : sameB a.elem[k] b.elem[k] <;> simp only [VC0, VC1, VC2, VC3, VC4, VC5, VC6, VC7, VC8, reduceIte, reduceCtorEq, Nat.reduceEqDiff, Nat.reduceAdd, Nat.reduceMul, Nat.reduceBEq, Nat.reduceLT, Nat.reduceLeDiff, Int.reduceEq, Int.reduceLT, Int.reduceLE, Int.reduceNeg, Int.reduceToNat, Int.reduceAdd, Nat.reduceDiv, Nat.reduceSub, Nat.reduceMod, encL, MC0, MC1, MC2, c1, i3]
      · rw [c1, Bool.false_and] at hb
        rw [sameB_eq, b1, b2, b3, sameL_z, ← hb, Bool.and_false]; rfl
      · rw [c1, Bool.true_and] at hb
        exact backTo_of (k + 1, _) ⟨ha', hb⟩ (by simp only []; omega) (ent_of _ [] rfl rfl (by simp only [VC0, VC1, VC2, VC3, VC4, VC5, VC6, VC7, VC8, reduceIte, reduceCtorEq, Nat.reduceEqDiff, Nat.reduceAdd, Nat.reduceMul, Nat.reduceBEq, Nat.reduceLT, Nat.reduceLeDiff, Int.reduceEq, Int.reduceLT, Int.reduceLE, Int.reduceNeg, Int.reduceToNat, Int.reduceAdd, Nat.reduceDiv, Nat.reduceSub, Nat.reduceMod, encL, MC0, MC1, MC2]))
    · have hk' : k = a.elem.length := by omega
      subst hk'
      rw [List.drop_length] at hb
      simp only [VC0, VC1, VC2, VC3, VC4, VC5, VC6, VC7, VC8, reduceIte, reduceCtorEq, Nat.reduceEqDiff, Nat.reduceAdd, Nat.reduceMul, Nat.reduceBEq, Nat.reduceLT, Nat.reduceLeDiff, Int.reduceEq, Int.reduceLT, Int.reduceLE, Int.reduceNeg, Int.reduceToNat, Int.reduceAdd, Nat.reduceDiv, Nat.reduceSub, Nat.reduceMod, encL, MC0, MC1, MC2]
      rw [sameB_eq, b1, b2, b3, sameL_z, b4, ← hb]; rfl
end Go.Proofs.YtgpeaibhhonikaaGreatDoor

set_option linter.unusedSimpArgs false
set_option linter.unusedVariables false
namespace Go.Proofs.YtgpeaibhhonikaaGreatDoor
open Go Go.Lg Go.RowKit
set_option linter.unusedVariables false
set_option linter.unusedSimpArgs false
set_option maxRecDepth 20000

theorem take_map_succ {α β : Type} (f : α → β) {l : List α} {k : Nat} (h : k < l.length) : (l.take k).map f ++ [f l[k]] = (l.take (k + 1)).map f := by
  rw [List.take_succ_eq_append_getElem h, List.map_append]; rfl
theorem mapR_in {m : List Int} {x : Int} (h0 : 0 ≤ x) (h1 : x < m.length) : mapR m x = m[x.toNat]'(by omega) := by
  unfold mapR
  rw [if_pos ⟨h0, h1⟩, List.getD_eq_getElem?_getD, List.getElem?_eq_getElem (by omega)]; rfl
theorem mapR_out {m : List Int} {x : Int} (h : ¬ (0 ≤ x ∧ x < m.length)) : mapR m x = x := by
  unfold mapR
  rw [if_neg h]

theorem ld4_0 (a b c d : V) : ldV false 1 [a, b, c, d] 0 = some a := rfl
theorem ld4_1 (a b c d : V) : ldV false 1 [a, b, c, d] 1 = some b := rfl
theorem ld4_2 (a b c d : V) : ldV false 1 [a, b, c, d] 2 = some c := rfl
theorem ld4_3 (a b c d : V) : ldV false 1 [a, b, c, d] 3 = some d := rfl
theorem ld4_a (a b c d : V) : ldV true 4 [a, b, c, d] 0 = some (.agg [a, b, c, d]) := rfl
theorem sc4_2 (a b c d x : V) : setCells [a, b, c, d] 2 [x] = [a, b, x, d] := rfl
theorem sc4_3 (a b c d x : V) : setCells [a, b, c, d] 3 [x] = [a, b, c, x] := rfl
theorem sc4_a (a b c d w x y z : V) : setCells [a, b, c, d] 0 [w, x, y, z] = [w, x, y, z] := rfl
theorem rt_take {l : List RT} {n : Nat} (h : l.length * 4 ≤ n) : (l.flatMap RT.cells).take n = l.flatMap RT.cells := List.take_of_length_le (by rw [rt_len]; exact h)
theorem subst_ret (m : List Int) (hm : m.length ≤ 1000) : ∀ (d : Nat) (t : RT), d ≤ 100 → deepB d t = false → PRet Tryz.prog 28 [.agg t.cells, encL cI m] (.agg (substS m t).cells) := by
  intro d
  induction d with
  | zero => intro t _ h; exact (deep_zero h).elim
  | succ d ih =>
    intro t hd h
    obtain ⟨he, hr, hc⟩ := deep_succ h
    refine pret_intro fd28 (by simp) ?_
    simp only [lc28, VC0, VC1, VC2, VC3, VC4, VC5, VC6, VC7, VC8, reduceIte, reduceCtorEq, Nat.reduceEqDiff, Nat.reduceAdd, Nat.reduceMul, Nat.reduceBEq, Nat.reduceLT, Nat.reduceLeDiff, Int.reduceEq, Int.reduceLT, Int.reduceLE, Int.reduceNeg, Int.reduceToNat, Int.reduceAdd, Nat.reduceDiv, Nat.reduceSub, Nat.reduceMod, encL, MC0, MC1, MC2]
    have e0 : setCells (setCells [V.int IntKind.i64 0, V.str { data := #[] }, V.e0, V.e0] 0 [V.int IntKind.i64 t.kind]) 1 [V.str t.name] = [.int .i64 t.kind, .str t.name, .e0, .e0] := rfl
    simp only [e0, VC0, VC1, VC2, VC3, VC4, VC5, VC6, VC7, VC8, reduceIte, reduceCtorEq, Nat.reduceEqDiff, Nat.reduceAdd, Nat.reduceMul, Nat.reduceBEq, Nat.reduceLT, Nat.reduceLeDiff, Int.reduceEq, Int.reduceLT, Int.reduceLE, Int.reduceNeg, Int.reduceToNat, Int.reduceAdd, Nat.reduceDiv, Nat.reduceSub, Nat.reduceMod, encL, MC0, MC1, MC2]
    refine loop_vcg (ι := (Nat × List Int) × (Nat → Nat)) (fun y => stO [(1, .val (encL cI m)), (2, .box t.cells), (4, .box [.int .i64 0, .str ⟨#[]⟩, .e0, .e0]), (5, .boxG [.int .i64 t.kind, .str t.name] 1 y.1.2.length (y.1.2.flatMap cI) [.e0]), (16, .val (encL cI t.regions)), (17, .val (.int .i64 t.regions.length)), (18, .val (.int .i64 y.1.1))] y.2)
      (fun y => y.1.1 ≤ t.regions.length ∧ y.1.2 = (t.regions.take y.1.1).map (mapR m)) (fun y => t.regions.length - y.1.1) ((0, []), _) ⟨Nat.zero_le _, rfl⟩ (ent_of _ [] rfl rfl (by simp only [VC0, VC1, VC2, VC3, VC4, VC5, VC6, VC7, VC8, reduceIte, reduceCtorEq, Nat.reduceEqDiff, Nat.reduceAdd, Nat.reduceMul, Nat.reduceBEq, Nat.reduceLT, Nat.reduceLeDiff, Int.reduceEq, Int.reduceLT, Int.reduceLE, Int.reduceNeg, Int.reduceToNat, Int.reduceAdd, Nat.reduceDiv, Nat.reduceSub, Nat.reduceMod, encL, MC0, MC1, MC2, List.flatMap_nil])) ?_
    rintro ⟨⟨k, R⟩, c⟩ hk
    obtain ⟨hk, hR⟩ : k ≤ t.regions.length ∧ R = (t.regions.take k).map (mapR m) := hk
    have hRl : R.length = k := by rw [hR, List.length_map, List.length_take]; omega
    simp only [VC0, VC1, VC2, VC3, VC4, VC5, VC6, VC7, VC8, reduceIte, reduceCtorEq, Nat.reduceEqDiff, Nat.reduceAdd, Nat.reduceMul, Nat.reduceBEq, Nat.reduceLT, Nat.reduceLeDiff, Int.reduceEq, Int.reduceLT, Int.reduceLE, Int.reduceNeg, Int.reduceToNat, Int.reduceAdd, Nat.reduceDiv, Nat.reduceSub, Nat.reduceMod, encL, MC0, MC1, MC2]
    refine condD_of (fun h => ?_) (fun h => ?_)
    · have ha' : k < t.regions.length := by omega
      have i1 : 0 ≤ (k : Int) ∧ (k : Int) < t.regions.length := by omega
      have i3 : InI64 ((k : Int) + 1) := by unfold InI64; omega
      simp only [VC0, VC1, VC2, VC3, VC4, VC5, VC6, VC7, VC8, reduceIte, reduceCtorEq, Nat.reduceEqDiff, Nat.reduceAdd, Nat.reduceMul, Nat.reduceBEq, Nat.reduceLT, Nat.reduceLeDiff, Int.reduceEq, Int.reduceLT, Int.reduceLE, Int.reduceNeg, Int.reduceToNat, Int.reduceAdd, Nat.reduceDiv, Nat.reduceSub, Nat.reduceMod, encL, MC0, MC1, MC2, ha', i1]
      have hRs : R ++ [mapR m t.regions[k]] = (t.regions.take (k + 1)).map (mapR m) := by rw [hR, take_map_succ _ ha']
      cases b1 : decide (0 ≤ t.regions[k]) <;> simp only [VC0, VC1, VC2, VC3, VC4, VC5, VC6, VC7, VC8, reduceIte, reduceCtorEq, Nat.reduceEqDiff, Nat.reduceAdd, Nat.reduceMul, Nat.reduceBEq, Nat.reduceLT, Nat.reduceLeDiff, Int.reduceEq, Int.reduceLT, Int.reduceLE, Int.reduceNeg, Int.reduceToNat, Int.reduceAdd, Nat.reduceDiv, Nat.reduceSub, Nat.reduceMod, encL, MC0, MC1, MC2, b1, ld4_0, ld4_1, ld4_2, ld4_3, ld4_a, sc4_2, sc4_3, sc4_a, i3]
      · have hx : mapR m t.regions[k] = t.regions[k] := mapR_out (by have := of_decide_eq_false b1; omega)
        rw [hx] at hRs
        refine ⟨⟨by omega, by omega⟩, backTo_of ((k + 1, R ++ [t.regions[k]]), _) ⟨ha', hRs⟩ (by simp only []; omega) (ent_of _ [] rfl rfl (by simp only [VC0, VC1, VC2, VC3, VC4, VC5, VC6, VC7, VC8, reduceIte, reduceCtorEq, Nat.reduceEqDiff, Nat.reduceAdd, Nat.reduceMul, Nat.reduceBEq, Nat.reduceLT, Nat.reduceLeDiff, Int.reduceEq, Int.reduceLT, Int.reduceLE, Int.reduceNeg, Int.reduceToNat, Int.reduceAdd, Nat.reduceDiv, Nat.reduceSub, Nat.reduceMod, encL, MC0, MC1, MC2, ld4_0, ld4_1, ld4_2, ld4_3, ld4_a, sc4_2, sc4_3, sc4_a]; decide))⟩
      · cases b2 : decide (t.regions[k] < m.length) <;> simp only [VC0, VC1, VC2, VC3, VC4, VC5, VC6, VC7, VC8, reduceIte, reduceCtorEq, Nat.reduceEqDiff, Nat.reduceAdd, Nat.reduceMul, Nat.reduceBEq, Nat.reduceLT, Nat.reduceLeDiff, Int.reduceEq, Int.reduceLT, Int.reduceLE, Int.reduceNeg, Int.reduceToNat, Int.reduceAdd, Nat.reduceDiv, Nat.reduceSub, Nat.reduceMod, encL, MC0, MC1, MC2, b2, ld4_0, ld4_1, ld4_2, ld4_3, ld4_a, sc4_2, sc4_3, sc4_a, i3]
        · have hx : mapR m t.regions[k] = t.regions[k] := mapR_out (by have := of_decide_eq_false b2; omega)
          rw [hx] at hRs
          refine ⟨⟨by omega, by omega⟩, backTo_of ((k + 1, R ++ [t.regions[k]]), _) ⟨ha', hRs⟩ (by simp only []; omega) (ent_of _ [] rfl rfl (by simp only [VC0, VC1, VC2, VC3, VC4, VC5, VC6, VC7, VC8, reduceIte, reduceCtorEq, Nat.reduceEqDiff, Nat.reduceAdd, Nat.reduceMul, Nat.reduceBEq, Nat.reduceLT, Nat.reduceLeDiff, Int.reduceEq, Int.reduceLT, Int.reduceLE, Int.reduceNeg, Int.reduceToNat, Int.reduceAdd, Nat.reduceDiv, Nat.reduceSub, Nat.reduceMod, encL, MC0, MC1, MC2, ld4_0, ld4_1, ld4_2, ld4_3, ld4_a, sc4_2, sc4_3, sc4_a]; decide))⟩
        · obtain ⟨n, hn⟩ : ∃ n : Nat, t.regions[k] = n := ⟨t.regions[k].toNat, by have := of_decide_eq_true b1; omega⟩
          have hnm : n < m.length := by have := of_decide_eq_true b2; omega
          have i4 : 0 ≤ (n : Int) ∧ (n : Int) < m.length := by omega
          have hx : mapR m t.regions[k] = m[n] := by
            have e1 := mapR_in (m := m) (x := t.regions[k]) (by omega) (by omega)
            rw [e1]
            congr 1
            omega
          rw [hx] at hRs
          simp only [VC0, VC1, VC2, VC3, VC4, VC5, VC6, VC7, VC8, reduceIte, reduceCtorEq, Nat.reduceEqDiff, Nat.reduceAdd, Nat.reduceMul, Nat.reduceBEq, Nat.reduceLT, Nat.reduceLeDiff, Int.reduceEq, Int.reduceLT, Int.reduceLE, Int.reduceNeg, Int.reduceToNat, Int.reduceAdd, Nat.reduceDiv, Nat.reduceSub, Nat.reduceMod, encL, MC0, MC1, MC2, hn, i4, hnm, ld4_0, ld4_1, ld4_2, ld4_3, ld4_a, sc4_2, sc4_3, sc4_a, i3]
          refine ⟨⟨by omega, by omega⟩, backTo_of ((k + 1, R ++ [m[n]]), _) ⟨ha', hRs⟩ (by simp only []; omega) (ent_of _ [] rfl rfl (by simp only [VC0, VC1, VC2, VC3, VC4, VC5, VC6, VC7, VC8, reduceIte, reduceCtorEq, Nat.reduceEqDiff, Nat.reduceAdd, Nat.reduceMul, Nat.reduceBEq, Nat.reduceLT, Nat.reduceLeDiff, Int.reduceEq, Int.reduceLT, Int.reduceLE, Int.reduceNeg, Int.reduceToNat, Int.reduceAdd, Nat.reduceDiv, Nat.reduceSub, Nat.reduceMod, encL, MC0, MC1, MC2, ld4_0, ld4_1, ld4_2, ld4_3, ld4_a, sc4_2, sc4_3, sc4_a]; decide))⟩
    · have hk' : k = t.regions.length := by omega
      subst hk'
      rw [List.take_length] at hR
      simp only [VC0, VC1, VC2, VC3, VC4, VC5, VC6, VC7, VC8, reduceIte, reduceCtorEq, Nat.reduceEqDiff, Nat.reduceAdd, Nat.reduceMul, Nat.reduceBEq, Nat.reduceLT, Nat.reduceLeDiff, Int.reduceEq, Int.reduceLT, Int.reduceLE, Int.reduceNeg, Int.reduceToNat, Int.reduceAdd, Nat.reduceDiv, Nat.reduceSub, Nat.reduceMod, encL, MC0, MC1, MC2, ld4_0, ld4_1, ld4_2, ld4_3, ld4_a, sc4_2, sc4_3, sc4_a]
      refine loop_vcg (ι := (Nat × List RT) × (Nat → Nat)) (fun y => stO [(1, .val (encL cI m)), (4, .box [.int .i64 0, .str ⟨#[]⟩, .e0, .e0]), (5, .boxG [.int .i64 t.kind, .str t.name, .sl R.length (R.flatMap cI)] 4 y.1.2.length (y.1.2.flatMap RT.cells) []), (42, .val (encL RT.cells t.elem)), (43, .val (.int .i64 t.elem.length)), (44, .val (.int .i64 y.1.1))] y.2)
        (fun y => y.1.1 ≤ t.elem.length ∧ y.1.2 = (t.elem.take y.1.1).map (substS m)) (fun y => t.elem.length - y.1.1) ((0, []), _) ⟨Nat.zero_le _, rfl⟩ (ent_of _ [(4398046511109, 0)] rfl rfl (by simp only [VC0, VC1, VC2, VC3, VC4, VC5, VC6, VC7, VC8, reduceIte, reduceCtorEq, Nat.reduceEqDiff, Nat.reduceAdd, Nat.reduceMul, Nat.reduceBEq, Nat.reduceLT, Nat.reduceLeDiff, Int.reduceEq, Int.reduceLT, Int.reduceLE, Int.reduceNeg, Int.reduceToNat, Int.reduceAdd, Nat.reduceDiv, Nat.reduceSub, Nat.reduceMod, encL, MC0, MC1, MC2, ld4_0, ld4_1, ld4_2, ld4_3, ld4_a, sc4_2, sc4_3, sc4_a, List.flatMap_nil, List.mem_cons, List.not_mem_nil, or_false, or_true, true_or, false_or])) ?_
      rintro ⟨⟨j, E⟩, c⟩ hj
      obtain ⟨hj, hE⟩ : j ≤ t.elem.length ∧ E = (t.elem.take j).map (substS m) := hj
      have hEl : E.length = j := by rw [hE, List.length_map, List.length_take]; omega
      simp only [VC0, VC1, VC2, VC3, VC4, VC5, VC6, VC7, VC8, reduceIte, reduceCtorEq, Nat.reduceEqDiff, Nat.reduceAdd, Nat.reduceMul, Nat.reduceBEq, Nat.reduceLT, Nat.reduceLeDiff, Int.reduceEq, Int.reduceLT, Int.reduceLE, Int.reduceNeg, Int.reduceToNat, Int.reduceAdd, Nat.reduceDiv, Nat.reduceSub, Nat.reduceMod, encL, MC0, MC1, MC2, ld4_0, ld4_1, ld4_2, ld4_3, ld4_a, sc4_2, sc4_3, sc4_a]
      refine condD_of (fun h => ?_) (fun h => ?_)
      · have ha' : j < t.elem.length := by omega
        have i1 : 0 ≤ (j : Int) ∧ (j : Int) < t.elem.length := by omega
        have i3 : InI64 ((j : Int) + 1) := by unfold InI64; omega
        have hEs : E ++ [substS m t.elem[j]] = (t.elem.take (j + 1)).map (substS m) := by rw [hE, take_map_succ _ ha']
        simp only [VC0, VC1, VC2, VC3, VC4, VC5, VC6, VC7, VC8, reduceIte, reduceCtorEq, Nat.reduceEqDiff, Nat.reduceAdd, Nat.reduceMul, Nat.reduceBEq, Nat.reduceLT, Nat.reduceLeDiff, Int.reduceEq, Int.reduceLT, Int.reduceLE, Int.reduceNeg, Int.reduceToNat, Int.reduceAdd, Nat.reduceDiv, Nat.reduceSub, Nat.reduceMod, encL, MC0, MC1, MC2, ha', i1, ld4_0, ld4_1, ld4_2, ld4_3, ld4_a, sc4_2, sc4_3, sc4_a]
        refine callV_of (ih t.elem[j] (by omega) (hc _ (List.getElem_mem ha'))) (.inl rfl) ?_
        simp only [VC0, VC1, VC2, VC3, VC4, VC5, VC6, VC7, VC8, reduceIte, reduceCtorEq, Nat.reduceEqDiff, Nat.reduceAdd, Nat.reduceMul, Nat.reduceBEq, Nat.reduceLT, Nat.reduceLeDiff, Int.reduceEq, Int.reduceLT, Int.reduceLE, Int.reduceNeg, Int.reduceToNat, Int.reduceAdd, Nat.reduceDiv, Nat.reduceSub, Nat.reduceMod, encL, MC0, MC1, MC2, ha', i1, ld4_0, ld4_1, ld4_2, ld4_3, ld4_a, sc4_2, sc4_3, sc4_a, rt_app, i3]
        exact ⟨⟨rt_len E, by omega, by omega⟩, backTo_of ((j + 1, E ++ [substS m t.elem[j]]), _) ⟨ha', hEs⟩ (by simp only []; omega) (ent_of _ [] rfl rfl (by simp only [VC0, VC1, VC2, VC3, VC4, VC5, VC6, VC7, VC8, reduceIte, reduceCtorEq, Nat.reduceEqDiff, Nat.reduceAdd, Nat.reduceMul, Nat.reduceBEq, Nat.reduceLT, Nat.reduceLeDiff, Int.reduceEq, Int.reduceLT, Int.reduceLE, Int.reduceNeg, Int.reduceToNat, Int.reduceAdd, Nat.reduceDiv, Nat.reduceSub, Nat.reduceMod, encL, MC0, MC1, MC2, ld4_0, ld4_1, ld4_2, ld4_3, ld4_a, sc4_2, sc4_3, sc4_a, rt_snap, rt_app]; decide))⟩
      · have hj' : j = t.elem.length := by omega
        subst hj'
        rw [List.take_length] at hE
        simp only [VC0, VC1, VC2, VC3, VC4, VC5, VC6, VC7, VC8, reduceIte, reduceCtorEq, Nat.reduceEqDiff, Nat.reduceAdd, Nat.reduceMul, Nat.reduceBEq, Nat.reduceLT, Nat.reduceLeDiff, Int.reduceEq, Int.reduceLT, Int.reduceLE, Int.reduceNeg, Int.reduceToNat, Int.reduceAdd, Nat.reduceDiv, Nat.reduceSub, Nat.reduceMod, encL, MC0, MC1, MC2, ld4_0, ld4_1, ld4_2, ld4_3, ld4_a, sc4_2, sc4_3, sc4_a, rt_len, rt_snap, rt_take]
        rw [hR, hE, RT.cells_eq, substS_eq]
        simp only [RT.mkK, RT.mkN, RT.mkR, RT.mkE, substL_eq, encL]

end Go.Proofs.YtgpeaibhhonikaaGreatDoor

set_option linter.unusedSimpArgs false
set_option linter.unusedVariables false
namespace Go.Proofs.YtgpeaibhhonikaaGreatDoor
open Go Go.Lg Go.RowKit
set_option linter.unusedVariables false
set_option linter.unusedSimpArgs false
set_option maxRecDepth 20000

theorem ex_not {a b : RT} (h : sameB a b = false) : exB a b = false := by
  cases he : exB a b with
  | false => rfl
  | true =>
    obtain rfl := (exB_iff a b).1 he
    rw [same_self] at h; cases h
theorem same_parts {a b : RT} (h : sameB a b = true) : a.kind = b.kind ∧ a.name = b.name ∧ a.regions.length = b.regions.length ∧ sameL a.elem b.elem = true := by
  rw [sameB_eq] at h
  simp only [Bool.and_eq_true, decide_eq_true_eq] at h
  exact h
theorem exact_ret : ∀ (d : Nat) (a b : RT), d ≤ 100 → deepB d a = false → PRet Tryz.prog 24 [.agg a.cells, .agg b.cells] (.bool (exB a b)) := by
  intro d
  induction d with
  | zero => intro t _ _ h; exact (deep_zero h).elim
  | succ d ih =>
    intro a b hd h
    obtain ⟨he, hr, hc⟩ := deep_succ h
    refine pret_intro fd24 (by simp) ?_
    simp only [lc24, VC0, VC1, VC2, VC3, VC4, VC5, VC6, VC7, VC8, reduceIte, reduceCtorEq, Nat.reduceEqDiff, Nat.reduceAdd, Nat.reduceMul, Nat.reduceBEq, Nat.reduceLT, Nat.reduceLeDiff, Int.reduceEq, Int.reduceLT, Int.reduceLE, Int.reduceNeg, Int.reduceToNat, Int.reduceAdd, Nat.reduceDiv, Nat.reduceSub, Nat.reduceMod, encL, MC0, MC1, MC2]
    refine callX_of (rsame_ret (d + 1) a b hd h) (.inr rfl) ?_
    simp only [VC0, VC1, VC2, VC3, VC4, VC5, VC6, VC7, VC8, reduceIte, reduceCtorEq, Nat.reduceEqDiff, Nat.reduceAdd, Nat.reduceMul, Nat.reduceBEq, Nat.reduceLT, Nat.reduceLeDiff, Int.reduceEq, Int.reduceLT, Int.reduceLE, Int.reduceNeg, Int.reduceToNat, Int.reduceAdd, Nat.reduceDiv, Nat.reduceSub, Nat.reduceMod, encL, MC0, MC1, MC2]
    cases hs : sameB a b <;> simp only [VC0, VC1, VC2, VC3, VC4, VC5, VC6, VC7, VC8, reduceIte, reduceCtorEq, Nat.reduceEqDiff, Nat.reduceAdd, Nat.reduceMul, Nat.reduceBEq, Nat.reduceLT, Nat.reduceLeDiff, Int.reduceEq, Int.reduceLT, Int.reduceLE, Int.reduceNeg, Int.reduceToNat, Int.reduceAdd, Nat.reduceDiv, Nat.reduceSub, Nat.reduceMod, encL, MC0, MC1, MC2, hs]
    · rw [ex_not hs]
    obtain ⟨s1, s2, s3, s4⟩ := same_parts hs
    have hel := sameL_len _ _ s4
    refine loop_vcg (ι := Nat × (Nat → Nat)) (fun (k, c) => stO [(2, .box a.cells), (3, .box b.cells), (5, .val (.int .i64 k))] c)
      (fun (k, _) => k ≤ a.regions.length ∧ decide (a.regions.drop k = b.regions.drop k) = decide (a.regions = b.regions)) (fun (k, _) => a.regions.length - k) (0, _) ⟨Nat.zero_le _, rfl⟩ (ent_of _ [] rfl rfl (by simp only [VC0, VC1, VC2, VC3, VC4, VC5, VC6, VC7, VC8, reduceIte, reduceCtorEq, Nat.reduceEqDiff, Nat.reduceAdd, Nat.reduceMul, Nat.reduceBEq, Nat.reduceLT, Nat.reduceLeDiff, Int.reduceEq, Int.reduceLT, Int.reduceLE, Int.reduceNeg, Int.reduceToNat, Int.reduceAdd, Nat.reduceDiv, Nat.reduceSub, Nat.reduceMod, encL, MC0, MC1, MC2])) ?_
    rintro ⟨k, c⟩ hk
    obtain ⟨hk, hb⟩ : k ≤ a.regions.length ∧ decide (a.regions.drop k = b.regions.drop k) = decide (a.regions = b.regions) := hk
    simp only [VC0, VC1, VC2, VC3, VC4, VC5, VC6, VC7, VC8, reduceIte, reduceCtorEq, Nat.reduceEqDiff, Nat.reduceAdd, Nat.reduceMul, Nat.reduceBEq, Nat.reduceLT, Nat.reduceLeDiff, Int.reduceEq, Int.reduceLT, Int.reduceLE, Int.reduceNeg, Int.reduceToNat, Int.reduceAdd, Nat.reduceDiv, Nat.reduceSub, Nat.reduceMod, encL, MC0, MC1, MC2]
    refine condD_of (fun h => ?_) (fun h => ?_)
    · have ha' : k < a.regions.length := by omega
      have hb' : k < b.regions.length := by omega
      have i1 : 0 ≤ (k : Int) ∧ (k : Int) < a.regions.length := by omega
      have i2 : 0 ≤ (k : Int) ∧ (k : Int) < b.regions.length := by omega
      have i3 : InI64 ((k : Int) + 1) := by unfold InI64; omega
      rw [List.drop_eq_getElem_cons ha', List.drop_eq_getElem_cons hb'] at hb
      simp only [VC0, VC1, VC2, VC3, VC4, VC5, VC6, VC7, VC8, reduceIte, reduceCtorEq, Nat.reduceEqDiff, Nat.reduceAdd, Nat.reduceMul, Nat.reduceBEq, Nat.reduceLT, Nat.reduceLeDiff, Int.reduceEq, Int.reduceLT, Int.reduceLE, Int.reduceNeg, Int.reduceToNat, Int.reduceAdd, Nat.reduceDiv, Nat.reduceSub, Nat.reduceMod, encL, MC0, MC1, MC2, ha', hb', i1, i2]
      cases c1 : decide (a.regions[k] = b.regions[k]) <;> simp only [VC0, VC1, VC2, VC3, VC4, VC5, VC6, VC7, VC8, reduceIte, reduceCtorEq, Nat.reduceEqDiff, Nat.reduceAdd, Nat.reduceMul, Nat.reduceBEq, Nat.reduceLT, Nat.reduceLeDiff, Int.reduceEq, Int.reduceLT, Int.reduceLE, Int.reduceNeg, Int.reduceToNat, Int.reduceAdd, Nat.reduceDiv, Nat.reduceSub, Nat.reduceMod, encL, MC0, MC1, MC2, c1, i3]
      · have : decide (a.regions = b.regions) = false := by
          rw [← hb]
          exact decide_eq_false (by intro e; injection e with e1; exact of_decide_eq_false c1 e1)
        rw [exB_eq, this]; simp
      · refine backTo_of (k + 1, _) ⟨ha', ?_⟩ (by simp only []; omega) (ent_of _ [] rfl rfl (by simp only [VC0, VC1, VC2, VC3, VC4, VC5, VC6, VC7, VC8, reduceIte, reduceCtorEq, Nat.reduceEqDiff, Nat.reduceAdd, Nat.reduceMul, Nat.reduceBEq, Nat.reduceLT, Nat.reduceLeDiff, Int.reduceEq, Int.reduceLT, Int.reduceLE, Int.reduceNeg, Int.reduceToNat, Int.reduceAdd, Nat.reduceDiv, Nat.reduceSub, Nat.reduceMod, encL, MC0, MC1, MC2]))
        have e := of_decide_eq_true c1
        rw [← hb, e, Bool.eq_iff_iff, decide_eq_true_eq, decide_eq_true_eq]
        exact ⟨fun q => congrArg _ q, fun q => by injection q⟩
    have hk' : k = a.regions.length := by omega
    subst hk'
    have hreg : a.regions = b.regions := by
      rw [List.drop_length, s3, List.drop_length] at hb
      exact of_decide_eq_true (by rw [← hb]; rfl)
    simp only [VC0, VC1, VC2, VC3, VC4, VC5, VC6, VC7, VC8, reduceIte, reduceCtorEq, Nat.reduceEqDiff, Nat.reduceAdd, Nat.reduceMul, Nat.reduceBEq, Nat.reduceLT, Nat.reduceLeDiff, Int.reduceEq, Int.reduceLT, Int.reduceLE, Int.reduceNeg, Int.reduceToNat, Int.reduceAdd, Nat.reduceDiv, Nat.reduceSub, Nat.reduceMod, encL, MC0, MC1, MC2]
    refine loop_vcg (ι := Nat × (Nat → Nat)) (fun (k, c) => stO [(2, .box a.cells), (3, .box b.cells), (6, .val (.int .i64 k))] c)
      (fun (k, _) => k ≤ a.elem.length ∧ allZ exB (a.elem.drop k) (b.elem.drop k) = allZ exB a.elem b.elem) (fun (k, _) => a.elem.length - k) (0, _) ⟨Nat.zero_le _, rfl⟩ (ent_of _ [] rfl rfl (by simp only [VC0, VC1, VC2, VC3, VC4, VC5, VC6, VC7, VC8, reduceIte, reduceCtorEq, Nat.reduceEqDiff, Nat.reduceAdd, Nat.reduceMul, Nat.reduceBEq, Nat.reduceLT, Nat.reduceLeDiff, Int.reduceEq, Int.reduceLT, Int.reduceLE, Int.reduceNeg, Int.reduceToNat, Int.reduceAdd, Nat.reduceDiv, Nat.reduceSub, Nat.reduceMod, encL, MC0, MC1, MC2])) ?_
    rintro ⟨k, c⟩ hk
    obtain ⟨hk, hb⟩ : k ≤ a.elem.length ∧ allZ exB (a.elem.drop k) (b.elem.drop k) = allZ exB a.elem b.elem := hk
    simp only [VC0, VC1, VC2, VC3, VC4, VC5, VC6, VC7, VC8, reduceIte, reduceCtorEq, Nat.reduceEqDiff, Nat.reduceAdd, Nat.reduceMul, Nat.reduceBEq, Nat.reduceLT, Nat.reduceLeDiff, Int.reduceEq, Int.reduceLT, Int.reduceLE, Int.reduceNeg, Int.reduceToNat, Int.reduceAdd, Nat.reduceDiv, Nat.reduceSub, Nat.reduceMod, encL, MC0, MC1, MC2]
    refine condD_of (fun h => ?_) (fun h => ?_)
    · have ha' : k < a.elem.length := by omega
      have hb' : k < b.elem.length := by omega
      have i1 : 0 ≤ (k : Int) ∧ (k : Int) < a.elem.length := by omega
      have i2 : 0 ≤ (k : Int) ∧ (k : Int) < b.elem.length := by omega
      have i3 : InI64 ((k : Int) + 1) := by unfold InI64; omega
      rw [allZ_drop exB ha' hb'] at hb
      simp only [VC0, VC1, VC2, VC3, VC4, VC5, VC6, VC7, VC8, reduceIte, reduceCtorEq, Nat.reduceEqDiff, Nat.reduceAdd, Nat.reduceMul, Nat.reduceBEq, Nat.reduceLT, Nat.reduceLeDiff, Int.reduceEq, Int.reduceLT, Int.reduceLE, Int.reduceNeg, Int.reduceToNat, Int.reduceAdd, Nat.reduceDiv, Nat.reduceSub, Nat.reduceMod, encL, MC0, MC1, MC2, ha', hb', i1, i2]
      refine callV_of (ih _ (b.elem[k]) (by omega) (hc _ (List.getElem_mem ha'))) (.inr rfl) ?_
      simp only [VC0, VC1, VC2, VC3, VC4, VC5, VC6, VC7, VC8, reduceIte, reduceCtorEq, Nat.reduceEqDiff, Nat.reduceAdd, Nat.reduceMul, Nat.reduceBEq, Nat.reduceLT, Nat.reduceLeDiff, Int.reduceEq, Int.reduceLT, Int.reduceLE, Int.reduceNeg, Int.reduceToNat, Int.reduceAdd, Nat.reduceDiv, Nat.reduceSub, Nat.reduceMod, encL, MC0, MC1, MC2]
      cases c1 : exB a.elem[k] b.elem[k] <;> simp only [VC0, VC1, VC2, VC3, VC4, VC5, VC6, VC7, VC8, reduceIte, reduceCtorEq, Nat.reduceEqDiff, Nat.reduceAdd, Nat.reduceMul, Nat.reduceBEq, Nat.reduceLT, Nat.reduceLeDiff, Int.reduceEq, Int.reduceLT, Int.reduceLE, Int.reduceNeg, Int.reduceToNat, Int.reduceAdd, Nat.reduceDiv, Nat.reduceSub, Nat.reduceMod, encL, MC0, MC1, MC2, c1, i3]
      · rw [c1, Bool.false_and] at hb
        rw [exB_eq, exL_z, ← hb]; simp
      · rw [c1, Bool.true_and] at hb
        exact backTo_of (k + 1, _) ⟨ha', hb⟩ (by simp only []; omega) (ent_of _ [] rfl rfl (by simp only [VC0, VC1, VC2, VC3, VC4, VC5, VC6, VC7, VC8, reduceIte, reduceCtorEq, Nat.reduceEqDiff, Nat.reduceAdd, Nat.reduceMul, Nat.reduceBEq, Nat.reduceLT, Nat.reduceLeDiff, Int.reduceEq, Int.reduceLT, Int.reduceLE, Int.reduceNeg, Int.reduceToNat, Int.reduceAdd, Nat.reduceDiv, Nat.reduceSub, Nat.reduceMod, encL, MC0, MC1, MC2]))
    · have hk' : k = a.elem.length := by omega
      subst hk'
      rw [List.drop_length] at hb
      simp only [VC0, VC1, VC2, VC3, VC4, VC5, VC6, VC7, VC8, reduceIte, reduceCtorEq, Nat.reduceEqDiff, Nat.reduceAdd, Nat.reduceMul, Nat.reduceBEq, Nat.reduceLT, Nat.reduceLeDiff, Int.reduceEq, Int.reduceLT, Int.reduceLE, Int.reduceNeg, Int.reduceToNat, Int.reduceAdd, Nat.reduceDiv, Nat.reduceSub, Nat.reduceMod, encL, MC0, MC1, MC2]
      rw [exB_eq, exL_z, decide_eq_true s1, decide_eq_true s2, decide_eq_true hreg, decide_eq_true hel, ← hb]; rfl

end Go.Proofs.YtgpeaibhhonikaaGreatDoor

namespace Go.Proofs.YtgpeaibhhonikaaGreatDoor
open Go Go.Lg
set_option maxRecDepth 100000

end Go.Proofs.YtgpeaibhhonikaaGreatDoor

set_option linter.unusedSimpArgs false
set_option linter.unusedVariables false
namespace Go.Proofs.YtgpeaibhhonikaaGreatDoor
open Go Go.Lg Go.RowKit
set_option linter.unusedVariables false
set_option linter.unusedSimpArgs false
set_option maxRecDepth 20000

end Go.Proofs.YtgpeaibhhonikaaGreatDoor

namespace Go.Proofs.YtgpeaibhhonikaaGreatDoor
open Go Go.Lg
set_option maxRecDepth 100000

end Go.Proofs.YtgpeaibhhonikaaGreatDoor

set_option linter.unusedSimpArgs false
set_option linter.unusedVariables false
namespace Go.Proofs.YtgpeaibhhonikaaGreatDoor
open Go Go.Lg Go.RowKit
set_option linter.unusedVariables false
set_option linter.unusedSimpArgs false
set_option maxRecDepth 20000

theorem any_drop {α : Type} (p : α → Bool) (l : List α) (k : Nat) (h : k < l.length) : (l.drop k).any p = (p l[k] || (l.drop (k + 1)).any p) := by
  rw [List.drop_eq_getElem_cons h, List.any_cons]
theorem deep_ret : ∀ (d : Nat) (t : RT), t.ok → d ≤ 100 → PRet Tryz.prog 15 [.agg t.cells, .int .i64 d] (.bool (deepB d t)) := by
  intro d
  induction d with
  | zero =>
    intro t ht hd
    refine pret_intro fd15 (by simp) ?_
    simp only [lc15, VC0, VC1, VC2, VC3, VC4, VC5, VC6, VC7, VC8, reduceIte, reduceCtorEq, Nat.reduceEqDiff, Nat.reduceAdd, Nat.reduceMul, Nat.reduceBEq, Nat.reduceLT, Nat.reduceLeDiff, Int.reduceEq, Int.reduceLT, Int.reduceLE, Int.reduceNeg, Int.reduceToNat, Int.reduceAdd, Nat.reduceDiv, Nat.reduceSub, Nat.reduceMod, encL, MC0, MC1, MC2, Int.le_refl]
    simp [deepB]
  | succ d ih =>
    intro t ht hd
    rw [RT.ok_iff] at ht
    obtain ⟨_, _, ⟨hr, _⟩, he, hok⟩ := ht
    rw [maxLen_eq] at he
    refine pret_intro fd15 (by simp) ?_
    have h0 : ¬ (((d + 1 : Nat) : Int) ≤ 0) := by omega
    simp only [lc15, VC0, VC1, VC2, VC3, VC4, VC5, VC6, VC7, VC8, reduceIte, reduceCtorEq, Nat.reduceEqDiff, Nat.reduceAdd, Nat.reduceMul, Nat.reduceBEq, Nat.reduceLT, Nat.reduceLeDiff, Int.reduceEq, Int.reduceLT, Int.reduceLE, Int.reduceNeg, Int.reduceToNat, Int.reduceAdd, Nat.reduceDiv, Nat.reduceSub, Nat.reduceMod, encL, MC0, MC1, MC2, h0]
    repeat' (first | refine condDn_of (fun h => ?_) (fun h => ?_) <;> simp only [VC0, VC1, VC2, VC3, VC4, VC5, VC6, VC7, VC8, reduceIte, reduceCtorEq, Nat.reduceEqDiff, Nat.reduceAdd, Nat.reduceMul, Nat.reduceBEq, Nat.reduceLT, Nat.reduceLeDiff, Int.reduceEq, Int.reduceLT, Int.reduceLE, Int.reduceNeg, Int.reduceToNat, Int.reduceAdd, Nat.reduceDiv, Nat.reduceSub, Nat.reduceMod, encL, MC0, MC1, MC2, h] | refine condD_of (fun h => ?_) (fun h => ?_) <;> simp only [VC0, VC1, VC2, VC3, VC4, VC5, VC6, VC7, VC8, reduceIte, reduceCtorEq, Nat.reduceEqDiff, Nat.reduceAdd, Nat.reduceMul, Nat.reduceBEq, Nat.reduceLT, Nat.reduceLeDiff, Int.reduceEq, Int.reduceLT, Int.reduceLE, Int.reduceNeg, Int.reduceToNat, Int.reduceAdd, Nat.reduceDiv, Nat.reduceSub, Nat.reduceMod, encL, MC0, MC1, MC2, h] | refine condVn_of (fun h => ?_) (fun h => ?_) <;> simp only [VC0, VC1, VC2, VC3, VC4, VC5, VC6, VC7, VC8, reduceIte, reduceCtorEq, Nat.reduceEqDiff, Nat.reduceAdd, Nat.reduceMul, Nat.reduceBEq, Nat.reduceLT, Nat.reduceLeDiff, Int.reduceEq, Int.reduceLT, Int.reduceLE, Int.reduceNeg, Int.reduceToNat, Int.reduceAdd, Nat.reduceDiv, Nat.reduceSub, Nat.reduceMod, encL, MC0, MC1, MC2, h] | refine condV_of (fun h => ?_) (fun h => ?_) <;> simp only [VC0, VC1, VC2, VC3, VC4, VC5, VC6, VC7, VC8, reduceIte, reduceCtorEq, Nat.reduceEqDiff, Nat.reduceAdd, Nat.reduceMul, Nat.reduceBEq, Nat.reduceLT, Nat.reduceLeDiff, Int.reduceEq, Int.reduceLT, Int.reduceLE, Int.reduceNeg, Int.reduceToNat, Int.reduceAdd, Nat.reduceDiv, Nat.reduceSub, Nat.reduceMod, encL, MC0, MC1, MC2, h] | refine gdDn_of (fun h => ?_) (fun h => ?_) <;> simp only [VC0, VC1, VC2, VC3, VC4, VC5, VC6, VC7, VC8, reduceIte, reduceCtorEq, Nat.reduceEqDiff, Nat.reduceAdd, Nat.reduceMul, Nat.reduceBEq, Nat.reduceLT, Nat.reduceLeDiff, Int.reduceEq, Int.reduceLT, Int.reduceLE, Int.reduceNeg, Int.reduceToNat, Int.reduceAdd, Nat.reduceDiv, Nat.reduceSub, Nat.reduceMod, encL, MC0, MC1, MC2, h] | refine gdD_of (fun h => ?_) (fun h => ?_) <;> simp only [VC0, VC1, VC2, VC3, VC4, VC5, VC6, VC7, VC8, reduceIte, reduceCtorEq, Nat.reduceEqDiff, Nat.reduceAdd, Nat.reduceMul, Nat.reduceBEq, Nat.reduceLT, Nat.reduceLeDiff, Int.reduceEq, Int.reduceLT, Int.reduceLE, Int.reduceNeg, Int.reduceToNat, Int.reduceAdd, Nat.reduceDiv, Nat.reduceSub, Nat.reduceMod, encL, MC0, MC1, MC2, h] | refine gdVMn_of (fun h => ?_) (fun h => ?_) <;> simp only [VC0, VC1, VC2, VC3, VC4, VC5, VC6, VC7, VC8, reduceIte, reduceCtorEq, Nat.reduceEqDiff, Nat.reduceAdd, Nat.reduceMul, Nat.reduceBEq, Nat.reduceLT, Nat.reduceLeDiff, Int.reduceEq, Int.reduceLT, Int.reduceLE, Int.reduceNeg, Int.reduceToNat, Int.reduceAdd, Nat.reduceDiv, Nat.reduceSub, Nat.reduceMod, encL, MC0, MC1, MC2, h] | refine gdVM_of (fun h => ?_) (fun h => ?_) <;> simp only [VC0, VC1, VC2, VC3, VC4, VC5, VC6, VC7, VC8, reduceIte, reduceCtorEq, Nat.reduceEqDiff, Nat.reduceAdd, Nat.reduceMul, Nat.reduceBEq, Nat.reduceLT, Nat.reduceLeDiff, Int.reduceEq, Int.reduceLT, Int.reduceLE, Int.reduceNeg, Int.reduceToNat, Int.reduceAdd, Nat.reduceDiv, Nat.reduceSub, Nat.reduceMod, encL, MC0, MC1, MC2, h] | refine gpDn_of (fun h => ?_) (fun h => ?_) <;> simp only [VC0, VC1, VC2, VC3, VC4, VC5, VC6, VC7, VC8, reduceIte, reduceCtorEq, Nat.reduceEqDiff, Nat.reduceAdd, Nat.reduceMul, Nat.reduceBEq, Nat.reduceLT, Nat.reduceLeDiff, Int.reduceEq, Int.reduceLT, Int.reduceLE, Int.reduceNeg, Int.reduceToNat, Int.reduceAdd, Nat.reduceDiv, Nat.reduceSub, Nat.reduceMod, encL, MC0, MC1, MC2, h] | refine gpD_of (fun h => ?_) (fun h => ?_) <;> simp only [VC0, VC1, VC2, VC3, VC4, VC5, VC6, VC7, VC8, reduceIte, reduceCtorEq, Nat.reduceEqDiff, Nat.reduceAdd, Nat.reduceMul, Nat.reduceBEq, Nat.reduceLT, Nat.reduceLeDiff, Int.reduceEq, Int.reduceLT, Int.reduceLE, Int.reduceNeg, Int.reduceToNat, Int.reduceAdd, Nat.reduceDiv, Nat.reduceSub, Nat.reduceMod, encL, MC0, MC1, MC2, h] | refine gdVn_of (fun h => ?_) (fun h => ?_) <;> simp only [VC0, VC1, VC2, VC3, VC4, VC5, VC6, VC7, VC8, reduceIte, reduceCtorEq, Nat.reduceEqDiff, Nat.reduceAdd, Nat.reduceMul, Nat.reduceBEq, Nat.reduceLT, Nat.reduceLeDiff, Int.reduceEq, Int.reduceLT, Int.reduceLE, Int.reduceNeg, Int.reduceToNat, Int.reduceAdd, Nat.reduceDiv, Nat.reduceSub, Nat.reduceMod, encL, MC0, MC1, MC2, h] | refine gdV_of (fun h => ?_) (fun h => ?_) <;> simp only [VC0, VC1, VC2, VC3, VC4, VC5, VC6, VC7, VC8, reduceIte, reduceCtorEq, Nat.reduceEqDiff, Nat.reduceAdd, Nat.reduceMul, Nat.reduceBEq, Nat.reduceLT, Nat.reduceLeDiff, Int.reduceEq, Int.reduceLT, Int.reduceLE, Int.reduceNeg, Int.reduceToNat, Int.reduceAdd, Nat.reduceDiv, Nat.reduceSub, Nat.reduceMod, encL, MC0, MC1, MC2, h] | (unfold InI64; omega) | refine And.intro ?_ ?_)
    all_goals try (simp only [deepB, V.bool.injEq] ; simp ; omega)
    refine loop_vcg (ι := Nat × (Nat → Nat)) (fun (k, c) => stO [(2, .box t.cells), (1, .val (.int .i64 ((d + 1 : Nat) : Int))), (5, .val (.int .i64 k))] c)
      (fun (k, _) => k ≤ t.elem.length ∧ (t.elem.drop k).any (deepB d) = t.elem.any (deepB d)) (fun (k, _) => t.elem.length - k) (0, _) ⟨by omega, rfl⟩ (ent_of _ [] rfl rfl (by simp only [VC0, VC1, VC2, VC3, VC4, VC5, VC6, VC7, VC8, reduceIte, reduceCtorEq, Nat.reduceEqDiff, Nat.reduceAdd, Nat.reduceMul, Nat.reduceBEq, Nat.reduceLT, Nat.reduceLeDiff, Int.reduceEq, Int.reduceLT, Int.reduceLE, Int.reduceNeg, Int.reduceToNat, Int.reduceAdd, Nat.reduceDiv, Nat.reduceSub, Nat.reduceMod, encL, MC0, MC1, MC2])) ?_
    rintro ⟨k, c⟩ ⟨hk, hb⟩
    simp only [VC0, VC1, VC2, VC3, VC4, VC5, VC6, VC7, VC8, reduceIte, reduceCtorEq, Nat.reduceEqDiff, Nat.reduceAdd, Nat.reduceMul, Nat.reduceBEq, Nat.reduceLT, Nat.reduceLeDiff, Int.reduceEq, Int.reduceLT, Int.reduceLE, Int.reduceNeg, Int.reduceToNat, Int.reduceAdd, Nat.reduceDiv, Nat.reduceSub, Nat.reduceMod, encL, MC0, MC1, MC2]
    refine condD_of (fun h => ?_) (fun h => ?_)
    · have hk' : k < t.elem.length := by omega
      rw [any_drop _ _ _ hk'] at hb
      simp only [VC0, VC1, VC2, VC3, VC4, VC5, VC6, VC7, VC8, reduceIte, reduceCtorEq, Nat.reduceEqDiff, Nat.reduceAdd, Nat.reduceMul, Nat.reduceBEq, Nat.reduceLT, Nat.reduceLeDiff, Int.reduceEq, Int.reduceLT, Int.reduceLE, Int.reduceNeg, Int.reduceToNat, Int.reduceAdd, Nat.reduceDiv, Nat.reduceSub, Nat.reduceMod, encL, MC0, MC1, MC2, hk']
      refine ⟨by omega, by unfold InI64; omega, callX_of (ih _ (hok _ (List.getElem_mem hk')) (by omega)) (.inr rfl) ?_⟩
      simp only [VC0, VC1, VC2, VC3, VC4, VC5, VC6, VC7, VC8, reduceIte, reduceCtorEq, Nat.reduceEqDiff, Nat.reduceAdd, Nat.reduceMul, Nat.reduceBEq, Nat.reduceLT, Nat.reduceLeDiff, Int.reduceEq, Int.reduceLT, Int.reduceLE, Int.reduceNeg, Int.reduceToNat, Int.reduceAdd, Nat.reduceDiv, Nat.reduceSub, Nat.reduceMod, encL, MC0, MC1, MC2]
      repeat' (first | refine condDn_of (fun h => ?_) (fun h => ?_) <;> simp only [VC0, VC1, VC2, VC3, VC4, VC5, VC6, VC7, VC8, reduceIte, reduceCtorEq, Nat.reduceEqDiff, Nat.reduceAdd, Nat.reduceMul, Nat.reduceBEq, Nat.reduceLT, Nat.reduceLeDiff, Int.reduceEq, Int.reduceLT, Int.reduceLE, Int.reduceNeg, Int.reduceToNat, Int.reduceAdd, Nat.reduceDiv, Nat.reduceSub, Nat.reduceMod, encL, MC0, MC1, MC2, h] | refine condD_of (fun h => ?_) (fun h => ?_) <;> simp only [VC0, VC1, VC2, VC3, VC4, VC5, VC6, VC7, VC8, reduceIte, reduceCtorEq, Nat.reduceEqDiff, Nat.reduceAdd, Nat.reduceMul, Nat.reduceBEq, Nat.reduceLT, Nat.reduceLeDiff, Int.reduceEq, Int.reduceLT, Int.reduceLE, Int.reduceNeg, Int.reduceToNat, Int.reduceAdd, Nat.reduceDiv, Nat.reduceSub, Nat.reduceMod, encL, MC0, MC1, MC2, h] | refine condVn_of (fun h => ?_) (fun h => ?_) <;> simp only [VC0, VC1, VC2, VC3, VC4, VC5, VC6, VC7, VC8, reduceIte, reduceCtorEq, Nat.reduceEqDiff, Nat.reduceAdd, Nat.reduceMul, Nat.reduceBEq, Nat.reduceLT, Nat.reduceLeDiff, Int.reduceEq, Int.reduceLT, Int.reduceLE, Int.reduceNeg, Int.reduceToNat, Int.reduceAdd, Nat.reduceDiv, Nat.reduceSub, Nat.reduceMod, encL, MC0, MC1, MC2, h] | refine condV_of (fun h => ?_) (fun h => ?_) <;> simp only [VC0, VC1, VC2, VC3, VC4, VC5, VC6, VC7, VC8, reduceIte, reduceCtorEq, Nat.reduceEqDiff, Nat.reduceAdd, Nat.reduceMul, Nat.reduceBEq, Nat.reduceLT, Nat.reduceLeDiff, Int.reduceEq, Int.reduceLT, Int.reduceLE, Int.reduceNeg, Int.reduceToNat, Int.reduceAdd, Nat.reduceDiv, Nat.reduceSub, Nat.reduceMod, encL, MC0, MC1, MC2, h] | refine gdDn_of (fun h => ?_) (fun h => ?_) <;> simp only [VC0, VC1, VC2, VC3, VC4, VC5, VC6, VC7, VC8, reduceIte, reduceCtorEq, Nat.reduceEqDiff, Nat.reduceAdd, Nat.reduceMul, Nat.reduceBEq, Nat.reduceLT, Nat.reduceLeDiff, Int.reduceEq, Int.reduceLT, Int.reduceLE, Int.reduceNeg, Int.reduceToNat, Int.reduceAdd, Nat.reduceDiv, Nat.reduceSub, Nat.reduceMod, encL, MC0, MC1, MC2, h] | refine gdD_of (fun h => ?_) (fun h => ?_) <;> simp only [VC0, VC1, VC2, VC3, VC4, VC5, VC6, VC7, VC8, reduceIte, reduceCtorEq, Nat.reduceEqDiff, Nat.reduceAdd, Nat.reduceMul, Nat.reduceBEq, Nat.reduceLT, Nat.reduceLeDiff, Int.reduceEq, Int.reduceLT, Int.reduceLE, Int.reduceNeg, Int.reduceToNat, Int.reduceAdd, Nat.reduceDiv, Nat.reduceSub, Nat.reduceMod, encL, MC0, MC1, MC2, h] | refine gdVMn_of (fun h => ?_) (fun h => ?_) <;> simp only [VC0, VC1, VC2, VC3, VC4, VC5, VC6, VC7, VC8, reduceIte, reduceCtorEq, Nat.reduceEqDiff, Nat.reduceAdd, Nat.reduceMul, Nat.reduceBEq, Nat.reduceLT, Nat.reduceLeDiff, Int.reduceEq, Int.reduceLT, Int.reduceLE, Int.reduceNeg, Int.reduceToNat, Int.reduceAdd, Nat.reduceDiv, Nat.reduceSub, Nat.reduceMod, encL, MC0, MC1, MC2, h] | refine gdVM_of (fun h => ?_) (fun h => ?_) <;> simp only [VC0, VC1, VC2, VC3, VC4, VC5, VC6, VC7, VC8, reduceIte, reduceCtorEq, Nat.reduceEqDiff, Nat.reduceAdd, Nat.reduceMul, Nat.reduceBEq, Nat.reduceLT, Nat.reduceLeDiff, Int.reduceEq, Int.reduceLT, Int.reduceLE, Int.reduceNeg, Int.reduceToNat, Int.reduceAdd, Nat.reduceDiv, Nat.reduceSub, Nat.reduceMod, encL, MC0, MC1, MC2, h] | refine gpDn_of (fun h => ?_) (fun h => ?_) <;> simp only [VC0, VC1, VC2, VC3, VC4, VC5, VC6, VC7, VC8, reduceIte, reduceCtorEq, Nat.reduceEqDiff, Nat.reduceAdd, Nat.reduceMul, Nat.reduceBEq, Nat.reduceLT, Nat.reduceLeDiff, Int.reduceEq, Int.reduceLT, Int.reduceLE, Int.reduceNeg, Int.reduceToNat, Int.reduceAdd, Nat.reduceDiv, Nat.reduceSub, Nat.reduceMod, encL, MC0, MC1, MC2, h] | refine gpD_of (fun h => ?_) (fun h => ?_) <;> simp only [VC0, VC1, VC2, VC3, VC4, VC5, VC6, VC7, VC8, reduceIte, reduceCtorEq, Nat.reduceEqDiff, Nat.reduceAdd, Nat.reduceMul, Nat.reduceBEq, Nat.reduceLT, Nat.reduceLeDiff, Int.reduceEq, Int.reduceLT, Int.reduceLE, Int.reduceNeg, Int.reduceToNat, Int.reduceAdd, Nat.reduceDiv, Nat.reduceSub, Nat.reduceMod, encL, MC0, MC1, MC2, h] | refine gdVn_of (fun h => ?_) (fun h => ?_) <;> simp only [VC0, VC1, VC2, VC3, VC4, VC5, VC6, VC7, VC8, reduceIte, reduceCtorEq, Nat.reduceEqDiff, Nat.reduceAdd, Nat.reduceMul, Nat.reduceBEq, Nat.reduceLT, Nat.reduceLeDiff, Int.reduceEq, Int.reduceLT, Int.reduceLE, Int.reduceNeg, Int.reduceToNat, Int.reduceAdd, Nat.reduceDiv, Nat.reduceSub, Nat.reduceMod, encL, MC0, MC1, MC2, h] | refine gdV_of (fun h => ?_) (fun h => ?_) <;> simp only [VC0, VC1, VC2, VC3, VC4, VC5, VC6, VC7, VC8, reduceIte, reduceCtorEq, Nat.reduceEqDiff, Nat.reduceAdd, Nat.reduceMul, Nat.reduceBEq, Nat.reduceLT, Nat.reduceLeDiff, Int.reduceEq, Int.reduceLT, Int.reduceLE, Int.reduceNeg, Int.reduceToNat, Int.reduceAdd, Nat.reduceDiv, Nat.reduceSub, Nat.reduceMod, encL, MC0, MC1, MC2, h] | (unfold InI64; omega) | refine And.intro ?_ ?_)
      · rw [h] at hb
        simp only [deepB, ← hb]; simp
      · rw [h] at hb
        exact backTo_of (k + 1, _) ⟨by omega, hb⟩ (by simp only []; omega) (ent_of _ [] rfl rfl (by simp only [VC0, VC1, VC2, VC3, VC4, VC5, VC6, VC7, VC8, reduceIte, reduceCtorEq, Nat.reduceEqDiff, Nat.reduceAdd, Nat.reduceMul, Nat.reduceBEq, Nat.reduceLT, Nat.reduceLeDiff, Int.reduceEq, Int.reduceLT, Int.reduceLE, Int.reduceNeg, Int.reduceToNat, Int.reduceAdd, Nat.reduceDiv, Nat.reduceSub, Nat.reduceMod, encL, MC0, MC1, MC2]))
    · have hk' : k = t.elem.length := by omega
      subst hk'
      simp only [List.drop_length, List.any_nil] at hb
      simp only [VC0, VC1, VC2, VC3, VC4, VC5, VC6, VC7, VC8, reduceIte, reduceCtorEq, Nat.reduceEqDiff, Nat.reduceAdd, Nat.reduceMul, Nat.reduceBEq, Nat.reduceLT, Nat.reduceLeDiff, Int.reduceEq, Int.reduceLT, Int.reduceLE, Int.reduceNeg, Int.reduceToNat, Int.reduceAdd, Nat.reduceDiv, Nat.reduceSub, Nat.reduceMod, encL, MC0, MC1, MC2]
      simp only [deepB, ← hb]; simp; omega

theorem plainH_pos {e : List RT} (h : 0 < e.length) : plainH e = plainB e[0] := by cases e with | nil => simp at h | cons x l => rfl
theorem plainH_none {e : List RT} (h : ¬ 0 < e.length) : plainH e = true := by cases e with | nil => rfl | cons x l => simp at h
theorem plain_ret : ∀ (d : Nat) (t : RT), d ≤ 100 → deepB d t = false → PRet Tryz.prog 16 [.agg t.cells] (.bool (plainB t)) := by
  intro d
  induction d with
  | zero => intro t _ h; exact (deep_zero h).elim
  | succ d ih =>
    intro t hd h
    obtain ⟨he, hr, hc⟩ := deep_succ h
    refine pret_intro fd16 (by simp) ?_
    by_cases hp : 0 < t.elem.length
    · have hp' : (0 : Int) < t.elem.length := by omega
      have hz : ¬ ((t.elem.length : Int) = 0) := by omega
      have hf := rt_first hp
      have hH := plainH_pos hp
      have hp4 : ¬ t.elem.length = 0 := by omega
      simp only [lc16, VC0, VC1, VC2, VC3, VC4, VC5, VC6, VC7, VC8, reduceIte, reduceCtorEq, Nat.reduceEqDiff, Nat.reduceAdd, Nat.reduceMul, Nat.reduceBEq, Nat.reduceLT, Nat.reduceLeDiff, Int.reduceEq, Int.reduceLT, Int.reduceLE, Int.reduceNeg, Int.reduceToNat, Int.reduceAdd, Nat.reduceDiv, Nat.reduceSub, Nat.reduceMod, encL, MC0, MC1, MC2]
      repeat' (first | refine condDn_of (fun h => ?_) (fun h => ?_) <;> simp only [VC0, VC1, VC2, VC3, VC4, VC5, VC6, VC7, VC8, reduceIte, reduceCtorEq, Nat.reduceEqDiff, Nat.reduceAdd, Nat.reduceMul, Nat.reduceBEq, Nat.reduceLT, Nat.reduceLeDiff, Int.reduceEq, Int.reduceLT, Int.reduceLE, Int.reduceNeg, Int.reduceToNat, Int.reduceAdd, Nat.reduceDiv, Nat.reduceSub, Nat.reduceMod, encL, MC0, MC1, MC2, h, hp, hp', hf, hz] | refine condD_of (fun h => ?_) (fun h => ?_) <;> simp only [VC0, VC1, VC2, VC3, VC4, VC5, VC6, VC7, VC8, reduceIte, reduceCtorEq, Nat.reduceEqDiff, Nat.reduceAdd, Nat.reduceMul, Nat.reduceBEq, Nat.reduceLT, Nat.reduceLeDiff, Int.reduceEq, Int.reduceLT, Int.reduceLE, Int.reduceNeg, Int.reduceToNat, Int.reduceAdd, Nat.reduceDiv, Nat.reduceSub, Nat.reduceMod, encL, MC0, MC1, MC2, h, hp, hp', hf, hz] | refine condVn_of (fun h => ?_) (fun h => ?_) <;> simp only [VC0, VC1, VC2, VC3, VC4, VC5, VC6, VC7, VC8, reduceIte, reduceCtorEq, Nat.reduceEqDiff, Nat.reduceAdd, Nat.reduceMul, Nat.reduceBEq, Nat.reduceLT, Nat.reduceLeDiff, Int.reduceEq, Int.reduceLT, Int.reduceLE, Int.reduceNeg, Int.reduceToNat, Int.reduceAdd, Nat.reduceDiv, Nat.reduceSub, Nat.reduceMod, encL, MC0, MC1, MC2, h, hp, hp', hf, hz] | refine condV_of (fun h => ?_) (fun h => ?_) <;> simp only [VC0, VC1, VC2, VC3, VC4, VC5, VC6, VC7, VC8, reduceIte, reduceCtorEq, Nat.reduceEqDiff, Nat.reduceAdd, Nat.reduceMul, Nat.reduceBEq, Nat.reduceLT, Nat.reduceLeDiff, Int.reduceEq, Int.reduceLT, Int.reduceLE, Int.reduceNeg, Int.reduceToNat, Int.reduceAdd, Nat.reduceDiv, Nat.reduceSub, Nat.reduceMod, encL, MC0, MC1, MC2, h, hp, hp', hf, hz] | refine gdDn_of (fun h => ?_) (fun h => ?_) <;> simp only [VC0, VC1, VC2, VC3, VC4, VC5, VC6, VC7, VC8, reduceIte, reduceCtorEq, Nat.reduceEqDiff, Nat.reduceAdd, Nat.reduceMul, Nat.reduceBEq, Nat.reduceLT, Nat.reduceLeDiff, Int.reduceEq, Int.reduceLT, Int.reduceLE, Int.reduceNeg, Int.reduceToNat, Int.reduceAdd, Nat.reduceDiv, Nat.reduceSub, Nat.reduceMod, encL, MC0, MC1, MC2, h, hp, hp', hf, hz] | refine gdD_of (fun h => ?_) (fun h => ?_) <;> simp only [VC0, VC1, VC2, VC3, VC4, VC5, VC6, VC7, VC8, reduceIte, reduceCtorEq, Nat.reduceEqDiff, Nat.reduceAdd, Nat.reduceMul, Nat.reduceBEq, Nat.reduceLT, Nat.reduceLeDiff, Int.reduceEq, Int.reduceLT, Int.reduceLE, Int.reduceNeg, Int.reduceToNat, Int.reduceAdd, Nat.reduceDiv, Nat.reduceSub, Nat.reduceMod, encL, MC0, MC1, MC2, h, hp, hp', hf, hz] | refine gdVMn_of (fun h => ?_) (fun h => ?_) <;> simp only [VC0, VC1, VC2, VC3, VC4, VC5, VC6, VC7, VC8, reduceIte, reduceCtorEq, Nat.reduceEqDiff, Nat.reduceAdd, Nat.reduceMul, Nat.reduceBEq, Nat.reduceLT, Nat.reduceLeDiff, Int.reduceEq, Int.reduceLT, Int.reduceLE, Int.reduceNeg, Int.reduceToNat, Int.reduceAdd, Nat.reduceDiv, Nat.reduceSub, Nat.reduceMod, encL, MC0, MC1, MC2, h, hp, hp', hf, hz] | refine gdVM_of (fun h => ?_) (fun h => ?_) <;> simp only [VC0, VC1, VC2, VC3, VC4, VC5, VC6, VC7, VC8, reduceIte, reduceCtorEq, Nat.reduceEqDiff, Nat.reduceAdd, Nat.reduceMul, Nat.reduceBEq, Nat.reduceLT, Nat.reduceLeDiff, Int.reduceEq, Int.reduceLT, Int.reduceLE, Int.reduceNeg, Int.reduceToNat, Int.reduceAdd, Nat.reduceDiv, Nat.reduceSub, Nat.reduceMod, encL, MC0, MC1, MC2, h, hp, hp', hf, hz] | refine gpDn_of (fun h => ?_) (fun h => ?_) <;> simp only [VC0, VC1, VC2, VC3, VC4, VC5, VC6, VC7, VC8, reduceIte, reduceCtorEq, Nat.reduceEqDiff, Nat.reduceAdd, Nat.reduceMul, Nat.reduceBEq, Nat.reduceLT, Nat.reduceLeDiff, Int.reduceEq, Int.reduceLT, Int.reduceLE, Int.reduceNeg, Int.reduceToNat, Int.reduceAdd, Nat.reduceDiv, Nat.reduceSub, Nat.reduceMod, encL, MC0, MC1, MC2, h, hp, hp', hf, hz] | refine gpD_of (fun h => ?_) (fun h => ?_) <;> simp only [VC0, VC1, VC2, VC3, VC4, VC5, VC6, VC7, VC8, reduceIte, reduceCtorEq, Nat.reduceEqDiff, Nat.reduceAdd, Nat.reduceMul, Nat.reduceBEq, Nat.reduceLT, Nat.reduceLeDiff, Int.reduceEq, Int.reduceLT, Int.reduceLE, Int.reduceNeg, Int.reduceToNat, Int.reduceAdd, Nat.reduceDiv, Nat.reduceSub, Nat.reduceMod, encL, MC0, MC1, MC2, h, hp, hp', hf, hz] | refine gdVn_of (fun h => ?_) (fun h => ?_) <;> simp only [VC0, VC1, VC2, VC3, VC4, VC5, VC6, VC7, VC8, reduceIte, reduceCtorEq, Nat.reduceEqDiff, Nat.reduceAdd, Nat.reduceMul, Nat.reduceBEq, Nat.reduceLT, Nat.reduceLeDiff, Int.reduceEq, Int.reduceLT, Int.reduceLE, Int.reduceNeg, Int.reduceToNat, Int.reduceAdd, Nat.reduceDiv, Nat.reduceSub, Nat.reduceMod, encL, MC0, MC1, MC2, h, hp, hp', hf, hz] | refine gdV_of (fun h => ?_) (fun h => ?_) <;> simp only [VC0, VC1, VC2, VC3, VC4, VC5, VC6, VC7, VC8, reduceIte, reduceCtorEq, Nat.reduceEqDiff, Nat.reduceAdd, Nat.reduceMul, Nat.reduceBEq, Nat.reduceLT, Nat.reduceLeDiff, Int.reduceEq, Int.reduceLT, Int.reduceLE, Int.reduceNeg, Int.reduceToNat, Int.reduceAdd, Nat.reduceDiv, Nat.reduceSub, Nat.reduceMod, encL, MC0, MC1, MC2, h, hp, hp', hf, hz] | refine callX_of (ih t.elem[0] (by omega) (hc _ (List.getElem_mem hp))) (by first | exact Or.inr rfl | exact Or.inl rfl) ?_ <;> simp only [VC0, VC1, VC2, VC3, VC4, VC5, VC6, VC7, VC8, reduceIte, reduceCtorEq, Nat.reduceEqDiff, Nat.reduceAdd, Nat.reduceMul, Nat.reduceBEq, Nat.reduceLT, Nat.reduceLeDiff, Int.reduceEq, Int.reduceLT, Int.reduceLE, Int.reduceNeg, Int.reduceToNat, Int.reduceAdd, Nat.reduceDiv, Nat.reduceSub, Nat.reduceMod, encL, MC0, MC1, MC2, hp, hp', hf, hz] | (unfold InI64; omega) | refine And.intro ?_ ?_)
      all_goals clear hf hc ih
      all_goals first
        | (rw [plainB_eq t, hH]; simp [isRef, *]; done)
        | (rw [plainB_eq t, hH]; simp [isRef, *]; omega)
        | (rw [plainB_eq t, hH]; simp_all [isRef]; done)
        | (have he1 : t.elem.length ≤ 1 := by omega
           have hr1 : t.regions.length = 1 := by omega
           rw [plainB_eq t, hH]; simp [isRef, he1, hr1, *]; done)
        | trace_state
    · have hp' : ¬ (0 : Int) < t.elem.length := by omega
      have hz : ((t.elem.length : Int) = 0) := by omega
      have h1 : ¬ (1 : Int) < t.elem.length := by omega
      have hH := plainH_none hp
      have hp4 : t.elem.length = 0 := by omega
      simp only [lc16, VC0, VC1, VC2, VC3, VC4, VC5, VC6, VC7, VC8, reduceIte, reduceCtorEq, Nat.reduceEqDiff, Nat.reduceAdd, Nat.reduceMul, Nat.reduceBEq, Nat.reduceLT, Nat.reduceLeDiff, Int.reduceEq, Int.reduceLT, Int.reduceLE, Int.reduceNeg, Int.reduceToNat, Int.reduceAdd, Nat.reduceDiv, Nat.reduceSub, Nat.reduceMod, encL, MC0, MC1, MC2]
      repeat' (first | refine condDn_of (fun h => ?_) (fun h => ?_) <;> simp only [VC0, VC1, VC2, VC3, VC4, VC5, VC6, VC7, VC8, reduceIte, reduceCtorEq, Nat.reduceEqDiff, Nat.reduceAdd, Nat.reduceMul, Nat.reduceBEq, Nat.reduceLT, Nat.reduceLeDiff, Int.reduceEq, Int.reduceLT, Int.reduceLE, Int.reduceNeg, Int.reduceToNat, Int.reduceAdd, Nat.reduceDiv, Nat.reduceSub, Nat.reduceMod, encL, MC0, MC1, MC2, h, hp, hp', hz, h1] | refine condD_of (fun h => ?_) (fun h => ?_) <;> simp only [VC0, VC1, VC2, VC3, VC4, VC5, VC6, VC7, VC8, reduceIte, reduceCtorEq, Nat.reduceEqDiff, Nat.reduceAdd, Nat.reduceMul, Nat.reduceBEq, Nat.reduceLT, Nat.reduceLeDiff, Int.reduceEq, Int.reduceLT, Int.reduceLE, Int.reduceNeg, Int.reduceToNat, Int.reduceAdd, Nat.reduceDiv, Nat.reduceSub, Nat.reduceMod, encL, MC0, MC1, MC2, h, hp, hp', hz, h1] | refine condVn_of (fun h => ?_) (fun h => ?_) <;> simp only [VC0, VC1, VC2, VC3, VC4, VC5, VC6, VC7, VC8, reduceIte, reduceCtorEq, Nat.reduceEqDiff, Nat.reduceAdd, Nat.reduceMul, Nat.reduceBEq, Nat.reduceLT, Nat.reduceLeDiff, Int.reduceEq, Int.reduceLT, Int.reduceLE, Int.reduceNeg, Int.reduceToNat, Int.reduceAdd, Nat.reduceDiv, Nat.reduceSub, Nat.reduceMod, encL, MC0, MC1, MC2, h, hp, hp', hz, h1] | refine condV_of (fun h => ?_) (fun h => ?_) <;> simp only [VC0, VC1, VC2, VC3, VC4, VC5, VC6, VC7, VC8, reduceIte, reduceCtorEq, Nat.reduceEqDiff, Nat.reduceAdd, Nat.reduceMul, Nat.reduceBEq, Nat.reduceLT, Nat.reduceLeDiff, Int.reduceEq, Int.reduceLT, Int.reduceLE, Int.reduceNeg, Int.reduceToNat, Int.reduceAdd, Nat.reduceDiv, Nat.reduceSub, Nat.reduceMod, encL, MC0, MC1, MC2, h, hp, hp', hz, h1] | refine gdDn_of (fun h => ?_) (fun h => ?_) <;> simp only [VC0, VC1, VC2, VC3, VC4, VC5, VC6, VC7, VC8, reduceIte, reduceCtorEq, Nat.reduceEqDiff, Nat.reduceAdd, Nat.reduceMul, Nat.reduceBEq, Nat.reduceLT, Nat.reduceLeDiff, Int.reduceEq, Int.reduceLT, Int.reduceLE, Int.reduceNeg, Int.reduceToNat, Int.reduceAdd, Nat.reduceDiv, Nat.reduceSub, Nat.reduceMod, encL, MC0, MC1, MC2, h, hp, hp', hz, h1] | refine gdD_of (fun h => ?_) (fun h => ?_) <;> simp only [VC0, VC1, VC2, VC3, VC4, VC5, VC6, VC7, VC8, reduceIte, reduceCtorEq, Nat.reduceEqDiff, Nat.reduceAdd, Nat.reduceMul, Nat.reduceBEq, Nat.reduceLT, Nat.reduceLeDiff, Int.reduceEq, Int.reduceLT, Int.reduceLE, Int.reduceNeg, Int.reduceToNat, Int.reduceAdd, Nat.reduceDiv, Nat.reduceSub, Nat.reduceMod, encL, MC0, MC1, MC2, h, hp, hp', hz, h1] | refine gdVMn_of (fun h => ?_) (fun h => ?_) <;> simp only [VC0, VC1, VC2, VC3, VC4, VC5, VC6, VC7, VC8, reduceIte, reduceCtorEq, Nat.reduceEqDiff, Nat.reduceAdd, Nat.reduceMul, Nat.reduceBEq, Nat.reduceLT, Nat.reduceLeDiff, Int.reduceEq, Int.reduceLT, Int.reduceLE, Int.reduceNeg, Int.reduceToNat, Int.reduceAdd, Nat.reduceDiv, Nat.reduceSub, Nat.reduceMod, encL, MC0, MC1, MC2, h, hp, hp', hz, h1] | refine gdVM_of (fun h => ?_) (fun h => ?_) <;> simp only [VC0, VC1, VC2, VC3, VC4, VC5, VC6, VC7, VC8, reduceIte, reduceCtorEq, Nat.reduceEqDiff, Nat.reduceAdd, Nat.reduceMul, Nat.reduceBEq, Nat.reduceLT, Nat.reduceLeDiff, Int.reduceEq, Int.reduceLT, Int.reduceLE, Int.reduceNeg, Int.reduceToNat, Int.reduceAdd, Nat.reduceDiv, Nat.reduceSub, Nat.reduceMod, encL, MC0, MC1, MC2, h, hp, hp', hz, h1] | refine gpDn_of (fun h => ?_) (fun h => ?_) <;> simp only [VC0, VC1, VC2, VC3, VC4, VC5, VC6, VC7, VC8, reduceIte, reduceCtorEq, Nat.reduceEqDiff, Nat.reduceAdd, Nat.reduceMul, Nat.reduceBEq, Nat.reduceLT, Nat.reduceLeDiff, Int.reduceEq, Int.reduceLT, Int.reduceLE, Int.reduceNeg, Int.reduceToNat, Int.reduceAdd, Nat.reduceDiv, Nat.reduceSub, Nat.reduceMod, encL, MC0, MC1, MC2, h, hp, hp', hz, h1] | refine gpD_of (fun h => ?_) (fun h => ?_) <;> simp only [VC0, VC1, VC2, VC3, VC4, VC5, VC6, VC7, VC8, reduceIte, reduceCtorEq, Nat.reduceEqDiff, Nat.reduceAdd, Nat.reduceMul, Nat.reduceBEq, Nat.reduceLT, Nat.reduceLeDiff, Int.reduceEq, Int.reduceLT, Int.reduceLE, Int.reduceNeg, Int.reduceToNat, Int.reduceAdd, Nat.reduceDiv, Nat.reduceSub, Nat.reduceMod, encL, MC0, MC1, MC2, h, hp, hp', hz, h1] | refine gdVn_of (fun h => ?_) (fun h => ?_) <;> simp only [VC0, VC1, VC2, VC3, VC4, VC5, VC6, VC7, VC8, reduceIte, reduceCtorEq, Nat.reduceEqDiff, Nat.reduceAdd, Nat.reduceMul, Nat.reduceBEq, Nat.reduceLT, Nat.reduceLeDiff, Int.reduceEq, Int.reduceLT, Int.reduceLE, Int.reduceNeg, Int.reduceToNat, Int.reduceAdd, Nat.reduceDiv, Nat.reduceSub, Nat.reduceMod, encL, MC0, MC1, MC2, h, hp, hp', hz, h1] | refine gdV_of (fun h => ?_) (fun h => ?_) <;> simp only [VC0, VC1, VC2, VC3, VC4, VC5, VC6, VC7, VC8, reduceIte, reduceCtorEq, Nat.reduceEqDiff, Nat.reduceAdd, Nat.reduceMul, Nat.reduceBEq, Nat.reduceLT, Nat.reduceLeDiff, Int.reduceEq, Int.reduceLT, Int.reduceLE, Int.reduceNeg, Int.reduceToNat, Int.reduceAdd, Nat.reduceDiv, Nat.reduceSub, Nat.reduceMod, encL, MC0, MC1, MC2, h, hp, hp', hz, h1] | (unfold InI64; omega) | refine And.intro ?_ ?_)
      all_goals clear hc ih
      all_goals first
        | (rw [plainB_eq t, hH]; simp [isRef, *]; done)
        | (rw [plainB_eq t, hH]; simp [isRef, *]; omega)
        | (rw [plainB_eq t, hH]; simp_all [isRef]; done)
        | (rw [plainB_eq t, hH]; simp_all [isRef]; omega)
        | trace_state

end Go.Proofs.YtgpeaibhhonikaaGreatDoor

namespace Go.Proofs.YtgpeaibhhonikaaGreatDoor
open Go Go.Lg
set_option maxRecDepth 100000

def lc10 : LC := .seq (.rego 0 [⟨some 3, .box (.tmp 0), none⟩, ⟨some 6, .mov (.con (.bool false)), none⟩]) (.keep [1, 2, 3] (.seq (.seq (.rego 1 [⟨some 15, .load true 4 (.tmp 3), none⟩, ⟨some 16, .call 15 [.tmp 15, .con (.int .i64 60)], none⟩]) (.keep [1, 2, 3, 16] (.cond (.tmp 16) (.keep [] (.seq (.rego 2 [⟨some 17, .call 17 [], none⟩, ⟨some 6, .mov (.tmp 17), none⟩]) .ret)) .skip))) (.keep [1, 2, 3] (.seq (.reg 3 [⟨some 18, .mksl 1 8 [.int .i64 0] (.con (.int .i64 16)) (.con (.int .i64 16)), none⟩, ⟨some 19, .mksl 1 8 [.int .i64 0] (.con (.int .i64 16)) (.con (.int .i64 16)), none⟩, ⟨some 20, .mksl 1 8 [.int .i64 0] (.con (.int .i64 16)) (.con (.int .i64 16)), none⟩, ⟨some 7, .mov (.tmp 18), none⟩, ⟨some 8, .mov (.tmp 19), none⟩, ⟨some 9, .mov (.tmp 20), none⟩]) (.keep [1, 2, 3, 7, 8, 9] (.seq (.seq (.rego 4 [⟨some 10, .mov (.con (.int .i64 0)), none⟩]) (.keep [1, 2, 3, 7, 8, 9, 10] (.block 0 (.loop (.seq (.seq (.rego 5 [⟨some 21, .mov (.tmp 10), none⟩, ⟨some 22, .bin .lss (.tmp 21) (.con (.int .i64 16)), none⟩]) (.keep [1, 2, 3, 7, 8, 9, 10, 22] (.cond (.tmp 22) .skip (.exit 0)))) (.keep [1, 2, 3, 7, 8, 9, 10] (.seq (.block 1 (.seq (.seq (.rego 7 [⟨some 25, .mov (.tmp 10), none⟩, ⟨some 26, .mov (.tmp 1), none⟩, ⟨some 27, .len false (.tmp 26), none⟩, ⟨some 28, .bin .lss (.tmp 25) (.tmp 27), none⟩]) (.keep [1, 2, 3, 7, 8, 9, 10, 28] (.cond (.tmp 28) (.keep [1, 2, 3, 7, 8, 9, 10] (.rego 8 [⟨some 29, .mov (.tmp 7), none⟩, ⟨some 30, .mov (.tmp 10), none⟩, ⟨some 31, .mov (.tmp 1), none⟩, ⟨some 32, .mov (.tmp 10), none⟩, ⟨some 33, .iaS 1 (.tmp 31) (.tmp 32), none⟩, ⟨some 34, .load false 1 (.tmp 33), none⟩, ⟨some 35, .bin .and (.tmp 34) (.con (.int .i64 15)), none⟩, ⟨some 36, .iaS 1 (.tmp 29) (.tmp 30), none⟩, ⟨none, .store 1 (.tmp 36) (.tmp 35), none⟩])) .skip))) (.keep [1, 2, 3, 7, 8, 9, 10] (.seq (.rego 9 [⟨some 37, .mov (.tmp 10), none⟩, ⟨some 38, .mov (.tmp 2), none⟩, ⟨some 39, .len false (.tmp 38), none⟩, ⟨some 40, .bin .lss (.tmp 37) (.tmp 39), none⟩]) (.keep [1, 2, 3, 7, 8, 9, 10, 40] (.cond (.tmp 40) (.keep [1, 2, 3, 7, 8, 9, 10] (.rego 10 [⟨some 41, .mov (.tmp 8), none⟩, ⟨some 42, .mov (.tmp 10), none⟩, ⟨some 43, .mov (.tmp 2), none⟩, ⟨some 44, .mov (.tmp 10), none⟩, ⟨some 45, .iaS 1 (.tmp 43) (.tmp 44), none⟩, ⟨some 46, .load false 1 (.tmp 45), none⟩, ⟨some 47, .bin .and (.tmp 46) (.con (.int .i64 15)), none⟩, ⟨some 48, .iaS 1 (.tmp 41) (.tmp 42), none⟩, ⟨none, .store 1 (.tmp 48) (.tmp 47), none⟩])) .skip)))))) (.keep [1, 2, 3, 7, 8, 9, 10] (.rego 6 [⟨some 23, .mov (.tmp 10), none⟩, ⟨some 24, .bin .add (.tmp 23) (.con (.int .i64 1)), none⟩, ⟨some 10, .mov (.tmp 24), none⟩]))))))))) (.keep [3, 7, 8, 9] (.seq (.seq (.rego 11 [⟨some 11, .mov (.con (.int .i64 0)), none⟩]) (.keep [3, 7, 8, 9, 11] (.block 2 (.loop (.seq (.seq (.rego 12 [⟨some 49, .mov (.tmp 11), none⟩, ⟨some 50, .bin .lss (.tmp 49) (.con (.int .i64 16)), none⟩]) (.keep [3, 7, 8, 9, 11, 50] (.cond (.tmp 50) .skip (.exit 2)))) (.keep [3, 7, 8, 9, 11] (.seq (.block 3 (.rego 14 [⟨some 53, .mov (.tmp 9), none⟩, ⟨some 54, .mov (.tmp 11), none⟩, ⟨some 55, .mov (.tmp 8), none⟩, ⟨some 56, .mov (.tmp 7), none⟩, ⟨some 57, .mov (.tmp 11), none⟩, ⟨some 58, .iaS 1 (.tmp 56) (.tmp 57), none⟩, ⟨some 59, .load false 1 (.tmp 58), none⟩, ⟨some 60, .iaS 1 (.tmp 55) (.tmp 59), none⟩, ⟨some 61, .load false 1 (.tmp 60), none⟩, ⟨some 62, .iaS 1 (.tmp 53) (.tmp 54), none⟩, ⟨none, .store 1 (.tmp 62) (.tmp 61), none⟩])) (.keep [3, 7, 8, 9, 11] (.rego 13 [⟨some 51, .mov (.tmp 11), none⟩, ⟨some 52, .bin .add (.tmp 51) (.con (.int .i64 1)), none⟩, ⟨some 11, .mov (.tmp 52), none⟩]))))))))) (.keep [3, 7, 8, 9] (.seq (.rego 15 [⟨some 63, .load true 4 (.tmp 3), none⟩, ⟨some 64, .call 19 [.tmp 63], none⟩, ⟨some 12, .mov (.tmp 64), none⟩]) (.keep [3, 7, 8, 9, 12] (.seq (.seq (.rego 16 [⟨some 13, .mov (.con (.int .i64 0)), none⟩]) (.keep [3, 7, 8, 9, 12, 13] (.block 4 (.loop (.seq (.seq (.rego 17 [⟨some 65, .mov (.tmp 13), none⟩, ⟨some 66, .mov (.tmp 12), none⟩, ⟨some 67, .len false (.tmp 66), none⟩, ⟨some 68, .bin .lss (.tmp 65) (.tmp 67), none⟩]) (.keep [3, 7, 8, 9, 12, 13, 68] (.cond (.tmp 68) .skip (.exit 4)))) (.keep [3, 7, 8, 9, 12, 13] (.seq (.block 5 (.seq (.rego 19 [⟨some 71, .mov (.tmp 12), none⟩, ⟨some 72, .mov (.tmp 13), none⟩, ⟨some 73, .iaS 1 (.tmp 71) (.tmp 72), none⟩, ⟨some 74, .load false 1 (.tmp 73), none⟩, ⟨some 75, .bin .lss (.tmp 74) (.con (.int .i64 0)), none⟩, ⟨some 76, .mov (.tmp 75), none⟩, ⟨some 77, .mov (.tmp 12), some ⟨76, false⟩⟩, ⟨some 78, .mov (.tmp 13), some ⟨76, false⟩⟩, ⟨some 79, .iaS 1 (.tmp 77) (.tmp 78), some ⟨76, false⟩⟩, ⟨some 80, .load false 1 (.tmp 79), some ⟨76, false⟩⟩, ⟨some 81, .bin .gtr (.tmp 80) (.con (.int .i64 15)), some ⟨76, false⟩⟩, ⟨some 82, .pick (.tmp 76) (.con (.bool true)) (.tmp 81), none⟩]) (.keep [3, 7, 8, 9, 12, 13, 82] (.cond (.tmp 82) (.keep [] (.seq (.rego 20 [⟨some 83, .call 17 [], none⟩, ⟨some 6, .mov (.tmp 83), none⟩]) .ret)) .skip)))) (.keep [3, 7, 8, 9, 12, 13] (.rego 18 [⟨some 69, .mov (.tmp 13), none⟩, ⟨some 70, .bin .add (.tmp 69) (.con (.int .i64 1)), none⟩, ⟨some 13, .mov (.tmp 70), none⟩]))))))))) (.keep [3, 7, 8, 9, 12] (.seq (.seq (.rego 21 [⟨some 84, .load true 4 (.tmp 3), none⟩, ⟨some 85, .call 16 [.tmp 84], none⟩, ⟨some 86, .un .not (.tmp 85), none⟩]) (.keep [3, 7, 8, 9, 12, 86] (.cond (.tmp 86) (.keep [] (.seq (.rego 22 [⟨some 87, .call 17 [], none⟩, ⟨some 6, .mov (.tmp 87), none⟩]) .ret)) .skip))) (.keep [3, 7, 8, 9, 12] (.seq (.rego 23 [⟨some 88, .load true 4 (.tmp 3), none⟩, ⟨some 89, .mov (.tmp 7), none⟩, ⟨some 90, .call 28 [.tmp 88, .tmp 89], none⟩, ⟨some 91, .mov (.tmp 8), none⟩, ⟨some 92, .call 28 [.tmp 90, .tmp 91], none⟩, ⟨some 14, .new [.int .i64 0, .str { data := #[] }, .e0, .e0], none⟩, ⟨none, .store 4 (.tmp 14) (.tmp 92), none⟩]) (.keep [3, 9, 12, 14] (.seq (.regf 24 [0, 1, 3, 3, 3, 27, 63, 127, 255, 511, 511, 2047, 4095, 8191, 16383, 32767, 16383, 131071, 262143, 524287, 1048575, 2097151, 4194303, 8388607, 2097151, 18874367, 67108863, 134217727, 268435455] [⟨some 93, .call 17 [], none⟩, ⟨some 94, .mov (.tmp 93), none⟩, ⟨some 95, .load true 4 (.tmp 14), some ⟨94, true⟩⟩, ⟨some 96, .load true 4 (.tmp 3), some ⟨94, true⟩⟩, ⟨some 97, .mov (.tmp 9), some ⟨94, true⟩⟩, ⟨some 98, .call 28 [.tmp 96, .tmp 97], some ⟨94, true⟩⟩, ⟨some 99, .call 24 [.tmp 95, .tmp 98], some ⟨94, true⟩⟩, ⟨some 100, .pick (.tmp 94) (.tmp 99) (.con (.bool false)), none⟩, ⟨some 101, .mov (.tmp 100), none⟩, ⟨some 102, .load true 4 (.tmp 14), some ⟨101, true⟩⟩, ⟨some 103, .load true 4 (.tmp 3), some ⟨101, true⟩⟩, ⟨some 104, .call 32 [.tmp 102, .tmp 103], some ⟨101, true⟩⟩, ⟨some 105, .pick (.tmp 101) (.tmp 104) (.con (.bool false)), none⟩, ⟨some 106, .mov (.tmp 105), none⟩, ⟨some 107, .load true 4 (.tmp 14), some ⟨106, true⟩⟩, ⟨some 108, .call 34 [.tmp 107], some ⟨106, true⟩⟩, ⟨some 109, .load true 4 (.tmp 3), some ⟨106, true⟩⟩, ⟨some 110, .call 34 [.tmp 109], some ⟨106, true⟩⟩, ⟨some 111, .eqb false (.tmp 108) (.tmp 110), some ⟨106, true⟩⟩, ⟨some 112, .pick (.tmp 106) (.tmp 111) (.con (.bool false)), none⟩, ⟨some 113, .mov (.tmp 112), none⟩, ⟨some 114, .load true 4 (.tmp 14), some ⟨113, true⟩⟩, ⟨some 115, .call 31 [.tmp 114], some ⟨113, true⟩⟩, ⟨some 116, .len false (.tmp 115), some ⟨113, true⟩⟩, ⟨some 117, .mov (.tmp 12), some ⟨113, true⟩⟩, ⟨some 118, .len false (.tmp 117), some ⟨113, true⟩⟩, ⟨some 119, .bin .eql (.tmp 116) (.tmp 118), some ⟨113, true⟩⟩, ⟨some 120, .pick (.tmp 113) (.tmp 119) (.con (.bool false)), none⟩, ⟨some 6, .mov (.tmp 120), none⟩]) .ret))))))))))))))))))
theorem fd10 : fnData Tryz.prog 10 = some (121, lc10.erase, [LRV.tmp 6]) := by kernel_rfl

end Go.Proofs.YtgpeaibhhonikaaGreatDoor

set_option linter.unusedSimpArgs false
set_option linter.unusedVariables false
namespace Go.Proofs.YtgpeaibhhonikaaGreatDoor
open Go Go.Lg Go.RowKit
set_option linter.unusedVariables false
set_option linter.unusedSimpArgs false
set_option maxRecDepth 20000

theorem b15 (x : Int) : 0 ≤ IntKind.i64.wrap ((BitVec.ofInt IntKind.i64.bits x &&& BitVec.ofInt IntKind.i64.bits 15).toNat : Int) ∧ IntKind.i64.wrap ((BitVec.ofInt IntKind.i64.bits x &&& BitVec.ofInt IntKind.i64.bits 15).toNat : Int) < 16 := by
  have h1 : (BitVec.ofInt IntKind.i64.bits x &&& BitVec.ofInt IntKind.i64.bits 15).toNat ≤ 15 := by
    rw [BitVec.toNat_and]
    exact Nat.le_trans Nat.and_le_right (by decide)
  generalize (BitVec.ofInt IntKind.i64.bits x &&& BitVec.ofInt IntKind.i64.bits 15).toNat = n at h1
  have : IntKind.i64.wrap (n : Int) = n := by
    have h2 : ∀ n : Fin 16, IntKind.i64.wrap ((n.1 : Nat) : Int) = n.1 := by decide
    exact h2 ⟨n, by omega⟩
  rw [this]
  omega
def inB (l : List Int) : Prop := ∀ x ∈ l, 0 ≤ x ∧ x < 16
theorem inB_set {l : List Int} {k : Nat} {v : Int} (h : inB l) (hv : 0 ≤ v ∧ v < 16) : inB (l.set k v) := by
  intro x hx
  rcases List.mem_or_eq_of_mem_set hx with h1 | rfl
  · exact h x h1
  · exact hv
theorem inB_rep (n : Nat) : inB (List.replicate n 0) := by
  intro x hx
  rw [(List.mem_replicate.1 hx).2]; decide
theorem mapR_at {l : List Int} {x : Int} (h0 : 0 ≤ x) (h1 : x < l.length) : mapR l x = l.getD x.toNat 0 := by rw [mapR, if_pos ⟨h0, h1⟩]
theorem getD_in {l : List Int} {k : Nat} (h : k < l.length) : l.getD k 0 = l[k] := by rw [List.getD_eq_getElem?_getD, List.getElem?_eq_getElem h]; rfl
theorem set_snap' {x y : RT} : setCells x.cells 0 y.cells = y.cells := setCells_all (by rw [RT.len, RT.len])

set_option maxHeartbeats 2000000 in
theorem typesNumbers_ret (t : RT) (ht : t.ok) (m n : List Int) (hm : m.length ≤ maxLen) (hn : n.length ≤ maxLen) : PRet Tryz.prog 10 [.agg t.cells, encL cI m, encL cI n] (.bool true) := by
  refine pret_intro fd10 (by simp) ?_
  simp only [lc10, VC0, VC1, VC2, VC3, VC4, VC5, VC6, VC7, VC8, reduceIte, reduceCtorEq, Nat.reduceEqDiff, Nat.reduceAdd, Nat.reduceMul, Nat.reduceBEq, Nat.reduceLT, Nat.reduceLeDiff, Int.reduceEq, Int.reduceLT, Int.reduceLE, Int.reduceNeg, Int.reduceToNat, Int.reduceAdd, Nat.reduceDiv, Nat.reduceSub, Nat.reduceMod, encL, MC0, MC1, MC2]
  refine callX_of (deep_ret 60 t ht (by decide)) (.inr rfl) ?_
  simp only [VC0, VC1, VC2, VC3, VC4, VC5, VC6, VC7, VC8, reduceIte, reduceCtorEq, Nat.reduceEqDiff, Nat.reduceAdd, Nat.reduceMul, Nat.reduceBEq, Nat.reduceLT, Nat.reduceLeDiff, Int.reduceEq, Int.reduceLT, Int.reduceLE, Int.reduceNeg, Int.reduceToNat, Int.reduceAdd, Nat.reduceDiv, Nat.reduceSub, Nat.reduceMod, encL, MC0, MC1, MC2]
  cases hd : deepB 60 t <;> simp only [VC0, VC1, VC2, VC3, VC4, VC5, VC6, VC7, VC8, reduceIte, reduceCtorEq, Nat.reduceEqDiff, Nat.reduceAdd, Nat.reduceMul, Nat.reduceBEq, Nat.reduceLT, Nat.reduceLeDiff, Int.reduceEq, Int.reduceLT, Int.reduceLE, Int.reduceNeg, Int.reduceToNat, Int.reduceAdd, Nat.reduceDiv, Nat.reduceSub, Nat.reduceMod, encL, MC0, MC1, MC2, hd]
  case true =>
    refine callX_of told14_ret (.inl rfl) ?_
    simp only [VC0, VC1, VC2, VC3, VC4, VC5, VC6, VC7, VC8, reduceIte, reduceCtorEq, Nat.reduceEqDiff, Nat.reduceAdd, Nat.reduceMul, Nat.reduceBEq, Nat.reduceLT, Nat.reduceLeDiff, Int.reduceEq, Int.reduceLT, Int.reduceLE, Int.reduceNeg, Int.reduceToNat, Int.reduceAdd, Nat.reduceDiv, Nat.reduceSub, Nat.reduceMod, encL, MC0, MC1, MC2]
  refine ⟨by decide, by decide, by decide, ?_⟩
  refine loop_vcg (ι := (Nat × List Int × List Int) × (Nat → Nat)) (fun y => stO [(1, .val (encL cI m)), (2, .val (encL cI n)), (3, .box t.cells), (7, .own 1 16 (y.1.2.1.flatMap cI)), (8, .own 1 16 (y.1.2.2.flatMap cI)), (9, .own 1 16 ((List.replicate 16 (0 : Int)).flatMap cI)), (10, .val (.int .i64 y.1.1))] y.2)
    (fun y => y.1.1 ≤ 16 ∧ y.1.2.1.length = 16 ∧ y.1.2.2.length = 16 ∧ inB y.1.2.1 ∧ inB y.1.2.2) (fun y => 16 - y.1.1) ((0, List.replicate 16 0, List.replicate 16 0), _) ⟨Nat.zero_le _, rfl, rfl, inB_rep _, inB_rep _⟩ (ent_of _ [] rfl rfl (by simp only [VC0, VC1, VC2, VC3, VC4, VC5, VC6, VC7, VC8, reduceIte, reduceCtorEq, Nat.reduceEqDiff, Nat.reduceAdd, Nat.reduceMul, Nat.reduceBEq, Nat.reduceLT, Nat.reduceLeDiff, Int.reduceEq, Int.reduceLT, Int.reduceLE, Int.reduceNeg, Int.reduceToNat, Int.reduceAdd, Nat.reduceDiv, Nat.reduceSub, Nat.reduceMod, encL, MC0, MC1, MC2])) ?_
  rintro ⟨⟨k, A, B⟩, c⟩ hy
  obtain ⟨hk, hA, hB, bA, bB⟩ : k ≤ 16 ∧ A.length = 16 ∧ B.length = 16 ∧ inB A ∧ inB B := hy
  simp only [VC0, VC1, VC2, VC3, VC4, VC5, VC6, VC7, VC8, reduceIte, reduceCtorEq, Nat.reduceEqDiff, Nat.reduceAdd, Nat.reduceMul, Nat.reduceBEq, Nat.reduceLT, Nat.reduceLeDiff, Int.reduceEq, Int.reduceLT, Int.reduceLE, Int.reduceNeg, Int.reduceToNat, Int.reduceAdd, Nat.reduceDiv, Nat.reduceSub, Nat.reduceMod, encL, MC0, MC1, MC2]
  refine condD_of (fun h => ?_) (fun h => ?_)
  · have k1 : 0 ≤ (k : Int) ∧ (k : Int) < 16 := by omega
    have kA : k < A.length := by omega
    have kB : k < B.length := by omega
    have i3 : InI64 ((k : Int) + 1) := by unfold InI64; omega
    cases b1 : decide ((k : Int) < m.length) <;> cases b2 : decide ((k : Int) < n.length) <;> simp only [VC0, VC1, VC2, VC3, VC4, VC5, VC6, VC7, VC8, reduceIte, reduceCtorEq, Nat.reduceEqDiff, Nat.reduceAdd, Nat.reduceMul, Nat.reduceBEq, Nat.reduceLT, Nat.reduceLeDiff, Int.reduceEq, Int.reduceLT, Int.reduceLE, Int.reduceNeg, Int.reduceToNat, Int.reduceAdd, Nat.reduceDiv, Nat.reduceSub, Nat.reduceMod, encL, MC0, MC1, MC2, b1, b2]
    · simp only [VC0, VC1, VC2, VC3, VC4, VC5, VC6, VC7, VC8, reduceIte, reduceCtorEq, Nat.reduceEqDiff, Nat.reduceAdd, Nat.reduceMul, Nat.reduceBEq, Nat.reduceLT, Nat.reduceLeDiff, Int.reduceEq, Int.reduceLT, Int.reduceLE, Int.reduceNeg, Int.reduceToNat, Int.reduceAdd, Nat.reduceDiv, Nat.reduceSub, Nat.reduceMod, encL, MC0, MC1, MC2, i3]
      exact backTo_of ((k + 1, A, B), _) ⟨by show k + 1 ≤ 16; omega, hA, hB, bA, bB⟩ (by simp only []; omega) (ent_of _ [] rfl rfl (by simp only [VC0, VC1, VC2, VC3, VC4, VC5, VC6, VC7, VC8, reduceIte, reduceCtorEq, Nat.reduceEqDiff, Nat.reduceAdd, Nat.reduceMul, Nat.reduceBEq, Nat.reduceLT, Nat.reduceLeDiff, Int.reduceEq, Int.reduceLT, Int.reduceLE, Int.reduceNeg, Int.reduceToNat, Int.reduceAdd, Nat.reduceDiv, Nat.reduceSub, Nat.reduceMod, encL, MC0, MC1, MC2]))
    · have l2 : k < n.length := by have := of_decide_eq_true b2; omega
      have m2 : 0 ≤ (k : Int) ∧ (k : Int) < n.length := by omega
      have v2 := b15 n[k]
      simp only [VC0, VC1, VC2, VC3, VC4, VC5, VC6, VC7, VC8, reduceIte, reduceCtorEq, Nat.reduceEqDiff, Nat.reduceAdd, Nat.reduceMul, Nat.reduceBEq, Nat.reduceLT, Nat.reduceLeDiff, Int.reduceEq, Int.reduceLT, Int.reduceLE, Int.reduceNeg, Int.reduceToNat, Int.reduceAdd, Nat.reduceDiv, Nat.reduceSub, Nat.reduceMod, encL, MC0, MC1, MC2, i3, k1, m2, l2, li_set kB]
      generalize IntKind.i64.wrap ((BitVec.ofInt IntKind.i64.bits n[k] &&& BitVec.ofInt IntKind.i64.bits 15).toNat : Int) = v at *
      exact ⟨by omega, backTo_of ((k + 1, A, B.set k v), _) ⟨by show k + 1 ≤ 16; omega, hA, by simp [hB], bA, inB_set bB v2⟩ (by simp only []; omega) (ent_of _ [] rfl rfl (by simp only [VC0, VC1, VC2, VC3, VC4, VC5, VC6, VC7, VC8, reduceIte, reduceCtorEq, Nat.reduceEqDiff, Nat.reduceAdd, Nat.reduceMul, Nat.reduceBEq, Nat.reduceLT, Nat.reduceLeDiff, Int.reduceEq, Int.reduceLT, Int.reduceLE, Int.reduceNeg, Int.reduceToNat, Int.reduceAdd, Nat.reduceDiv, Nat.reduceSub, Nat.reduceMod, encL, MC0, MC1, MC2]))⟩
    · have l1 : k < m.length := by have := of_decide_eq_true b1; omega
      have m1 : 0 ≤ (k : Int) ∧ (k : Int) < m.length := by omega
      have v1 := b15 m[k]
      simp only [VC0, VC1, VC2, VC3, VC4, VC5, VC6, VC7, VC8, reduceIte, reduceCtorEq, Nat.reduceEqDiff, Nat.reduceAdd, Nat.reduceMul, Nat.reduceBEq, Nat.reduceLT, Nat.reduceLeDiff, Int.reduceEq, Int.reduceLT, Int.reduceLE, Int.reduceNeg, Int.reduceToNat, Int.reduceAdd, Nat.reduceDiv, Nat.reduceSub, Nat.reduceMod, encL, MC0, MC1, MC2, k1, m1, l1, li_set kA]
      refine And.intro (by omega) ?_
      generalize IntKind.i64.wrap ((BitVec.ofInt IntKind.i64.bits m[k] &&& BitVec.ofInt IntKind.i64.bits 15).toNat : Int) = v at *
      simp only [VC0, VC1, VC2, VC3, VC4, VC5, VC6, VC7, VC8, reduceIte, reduceCtorEq, Nat.reduceEqDiff, Nat.reduceAdd, Nat.reduceMul, Nat.reduceBEq, Nat.reduceLT, Nat.reduceLeDiff, Int.reduceEq, Int.reduceLT, Int.reduceLE, Int.reduceNeg, Int.reduceToNat, Int.reduceAdd, Nat.reduceDiv, Nat.reduceSub, Nat.reduceMod, encL, MC0, MC1, MC2, b2, i3]
      exact backTo_of ((k + 1, A.set k v, B), _) ⟨by show k + 1 ≤ 16; omega, by simp [hA], hB, inB_set bA v1, bB⟩ (by simp only []; omega) (ent_of _ [] rfl rfl (by simp only [VC0, VC1, VC2, VC3, VC4, VC5, VC6, VC7, VC8, reduceIte, reduceCtorEq, Nat.reduceEqDiff, Nat.reduceAdd, Nat.reduceMul, Nat.reduceBEq, Nat.reduceLT, Nat.reduceLeDiff, Int.reduceEq, Int.reduceLT, Int.reduceLE, Int.reduceNeg, Int.reduceToNat, Int.reduceAdd, Nat.reduceDiv, Nat.reduceSub, Nat.reduceMod, encL, MC0, MC1, MC2]))
    · have l1 : k < m.length := by have := of_decide_eq_true b1; omega
      have m1 : 0 ≤ (k : Int) ∧ (k : Int) < m.length := by omega
      have l2 : k < n.length := by have := of_decide_eq_true b2; omega
      have m2 : 0 ≤ (k : Int) ∧ (k : Int) < n.length := by omega
      have v1 := b15 m[k]
      have v2 := b15 n[k]
      simp only [VC0, VC1, VC2, VC3, VC4, VC5, VC6, VC7, VC8, reduceIte, reduceCtorEq, Nat.reduceEqDiff, Nat.reduceAdd, Nat.reduceMul, Nat.reduceBEq, Nat.reduceLT, Nat.reduceLeDiff, Int.reduceEq, Int.reduceLT, Int.reduceLE, Int.reduceNeg, Int.reduceToNat, Int.reduceAdd, Nat.reduceDiv, Nat.reduceSub, Nat.reduceMod, encL, MC0, MC1, MC2, k1, m1, l1, li_set kA]
      refine And.intro (by omega) ?_
      generalize IntKind.i64.wrap ((BitVec.ofInt IntKind.i64.bits m[k] &&& BitVec.ofInt IntKind.i64.bits 15).toNat : Int) = v at *
      simp only [VC0, VC1, VC2, VC3, VC4, VC5, VC6, VC7, VC8, reduceIte, reduceCtorEq, Nat.reduceEqDiff, Nat.reduceAdd, Nat.reduceMul, Nat.reduceBEq, Nat.reduceLT, Nat.reduceLeDiff, Int.reduceEq, Int.reduceLT, Int.reduceLE, Int.reduceNeg, Int.reduceToNat, Int.reduceAdd, Nat.reduceDiv, Nat.reduceSub, Nat.reduceMod, encL, MC0, MC1, MC2, b2, i3, k1, m2, l2, li_set kB]
      generalize IntKind.i64.wrap ((BitVec.ofInt IntKind.i64.bits n[k] &&& BitVec.ofInt IntKind.i64.bits 15).toNat : Int) = v' at *
      exact ⟨by omega, backTo_of ((k + 1, A.set k v, B.set k v'), _) ⟨by show k + 1 ≤ 16; omega, by simp [hA], by simp [hB], inB_set bA v1, inB_set bB v2⟩ (by simp only []; omega) (ent_of _ [] rfl rfl (by simp only [VC0, VC1, VC2, VC3, VC4, VC5, VC6, VC7, VC8, reduceIte, reduceCtorEq, Nat.reduceEqDiff, Nat.reduceAdd, Nat.reduceMul, Nat.reduceBEq, Nat.reduceLT, Nat.reduceLeDiff, Int.reduceEq, Int.reduceLT, Int.reduceLE, Int.reduceNeg, Int.reduceToNat, Int.reduceAdd, Nat.reduceDiv, Nat.reduceSub, Nat.reduceMod, encL, MC0, MC1, MC2]))⟩
  clear h hk
  simp only [VC0, VC1, VC2, VC3, VC4, VC5, VC6, VC7, VC8, reduceIte, reduceCtorEq, Nat.reduceEqDiff, Nat.reduceAdd, Nat.reduceMul, Nat.reduceBEq, Nat.reduceLT, Nat.reduceLeDiff, Int.reduceEq, Int.reduceLT, Int.reduceLE, Int.reduceNeg, Int.reduceToNat, Int.reduceAdd, Nat.reduceDiv, Nat.reduceSub, Nat.reduceMod, encL, MC0, MC1, MC2]
  refine loop_vcg (ι := (Nat × List Int) × (Nat → Nat)) (fun y => stO [(3, .box t.cells), (7, .own 1 16 (A.flatMap cI)), (8, .own 1 16 (B.flatMap cI)), (9, .own 1 16 (y.1.2.flatMap cI)), (11, .val (.int .i64 y.1.1))] y.2)
    (fun y => y.1.1 ≤ 16 ∧ y.1.2.length = 16 ∧ ∀ j, j < y.1.1 → y.1.2.getD j 0 = B.getD (A.getD j 0).toNat 0) (fun y => 16 - y.1.1) ((0, List.replicate 16 0), _) ⟨Nat.zero_le _, rfl, fun j h => absurd h (Nat.not_lt_zero _)⟩ (ent_of _ [] rfl rfl (by simp only [VC0, VC1, VC2, VC3, VC4, VC5, VC6, VC7, VC8, reduceIte, reduceCtorEq, Nat.reduceEqDiff, Nat.reduceAdd, Nat.reduceMul, Nat.reduceBEq, Nat.reduceLT, Nat.reduceLeDiff, Int.reduceEq, Int.reduceLT, Int.reduceLE, Int.reduceNeg, Int.reduceToNat, Int.reduceAdd, Nat.reduceDiv, Nat.reduceSub, Nat.reduceMod, encL, MC0, MC1, MC2])) ?_
  rintro ⟨⟨k, C⟩, c⟩ hy
  obtain ⟨hk, hC, eC⟩ : k ≤ 16 ∧ C.length = 16 ∧ ∀ j, j < k → C.getD j 0 = B.getD (A.getD j 0).toNat 0 := hy
  simp only [VC0, VC1, VC2, VC3, VC4, VC5, VC6, VC7, VC8, reduceIte, reduceCtorEq, Nat.reduceEqDiff, Nat.reduceAdd, Nat.reduceMul, Nat.reduceBEq, Nat.reduceLT, Nat.reduceLeDiff, Int.reduceEq, Int.reduceLT, Int.reduceLE, Int.reduceNeg, Int.reduceToNat, Int.reduceAdd, Nat.reduceDiv, Nat.reduceSub, Nat.reduceMod, encL, MC0, MC1, MC2]
  refine condD_of (fun h => ?_) (fun h => ?_)
  · have k1 : 0 ≤ (k : Int) ∧ (k : Int) < 16 := by omega
    have kA : k < A.length := by omega
    have kC : k < C.length := by omega
    have i3 : InI64 ((k : Int) + 1) := by unfold InI64; omega
    have hAk := bA _ (List.getElem_mem kA)
    obtain ⟨u, hu⟩ : ∃ u : Nat, A[k] = (u : Int) := ⟨A[k].toNat, by omega⟩
    have uB : u < B.length := by omega
    have u1 : 0 ≤ (u : Int) ∧ (u : Int) < 16 := by omega
    simp only [VC0, VC1, VC2, VC3, VC4, VC5, VC6, VC7, VC8, reduceIte, reduceCtorEq, Nat.reduceEqDiff, Nat.reduceAdd, Nat.reduceMul, Nat.reduceBEq, Nat.reduceLT, Nat.reduceLeDiff, Int.reduceEq, Int.reduceLT, Int.reduceLE, Int.reduceNeg, Int.reduceToNat, Int.reduceAdd, Nat.reduceDiv, Nat.reduceSub, Nat.reduceMod, encL, MC0, MC1, MC2, i3, k1, kA, hu, u1, uB, li_set kC]
    exact ⟨by omega, backTo_of ((k + 1, C.set k B[u]), _) ⟨by show k + 1 ≤ 16; omega, by simp [hC], fun j hj => by
      have hj : j < k + 1 := hj
      simp only [List.getD_eq_getElem?_getD, List.getElem?_set]
      by_cases e : k = j
      · subst e
        rw [if_pos rfl, if_pos kC, List.getElem?_eq_getElem kA, hu]
        simp [uB]
      · rw [if_neg e]
        have := eC j (by omega)
        simpa only [List.getD_eq_getElem?_getD] using this⟩ (by simp only []; omega) (ent_of _ [] rfl rfl (by simp only [VC0, VC1, VC2, VC3, VC4, VC5, VC6, VC7, VC8, reduceIte, reduceCtorEq, Nat.reduceEqDiff, Nat.reduceAdd, Nat.reduceMul, Nat.reduceBEq, Nat.reduceLT, Nat.reduceLeDiff, Int.reduceEq, Int.reduceLT, Int.reduceLE, Int.reduceNeg, Int.reduceToNat, Int.reduceAdd, Nat.reduceDiv, Nat.reduceSub, Nat.reduceMod, encL, MC0, MC1, MC2]))⟩
  have hk16 : k = 16 := by omega
  subst hk16
  clear h hk
  have hAl : A.length ≤ 16 := by omega
  have hBl : B.length ≤ 16 := by omega
  have hCl : C.length ≤ 16 := by omega
  have hrr := rregs_ret 60 t (by decide) hd
  have hrl := reg_len 60 t hd
  simp only [VC0, VC1, VC2, VC3, VC4, VC5, VC6, VC7, VC8, reduceIte, reduceCtorEq, Nat.reduceEqDiff, Nat.reduceAdd, Nat.reduceMul, Nat.reduceBEq, Nat.reduceLT, Nat.reduceLeDiff, Int.reduceEq, Int.reduceLT, Int.reduceLE, Int.reduceNeg, Int.reduceToNat, Int.reduceAdd, Nat.reduceDiv, Nat.reduceSub, Nat.reduceMod, encL, MC0, MC1, MC2]
  refine callX_of hrr (.inl rfl) ?_
  generalize hL : regS t = L at *
  simp only [VC0, VC1, VC2, VC3, VC4, VC5, VC6, VC7, VC8, reduceIte, reduceCtorEq, Nat.reduceEqDiff, Nat.reduceAdd, Nat.reduceMul, Nat.reduceBEq, Nat.reduceLT, Nat.reduceLeDiff, Int.reduceEq, Int.reduceLT, Int.reduceLE, Int.reduceNeg, Int.reduceToNat, Int.reduceAdd, Nat.reduceDiv, Nat.reduceSub, Nat.reduceMod, encL, MC0, MC1, MC2]
  refine loop_vcg (ι := Nat × (Nat → Nat)) (fun y => stO [(3, .box t.cells), (7, .frz (encL cI A)), (8, .frz (encL cI B)), (9, .frz (encL cI C)), (12, .val (encL cI L)), (13, .val (.int .i64 y.1))] y.2)
    (fun y => y.1 ≤ L.length ∧ ∀ x ∈ L.take y.1, 0 ≤ x ∧ x < 16) (fun y => L.length - y.1) (0, _) ⟨Nat.zero_le _, fun x h => by simp at h⟩ (ent_of _ [(2199023255559, 0), (2199023255560, 0), (2199023255561, 0)] rfl rfl (by simp only [VC0, VC1, VC2, VC3, VC4, VC5, VC6, VC7, VC8, reduceIte, reduceCtorEq, Nat.reduceEqDiff, Nat.reduceAdd, Nat.reduceMul, Nat.reduceBEq, Nat.reduceLT, Nat.reduceLeDiff, Int.reduceEq, Int.reduceLT, Int.reduceLE, Int.reduceNeg, Int.reduceToNat, Int.reduceAdd, Nat.reduceDiv, Nat.reduceSub, Nat.reduceMod, encL, MC0, MC1, MC2, hA, hB, hC, li_take hAl, li_take hBl, li_take hCl, Nat.le_refl, decide_true, if_true, List.mem_cons, List.not_mem_nil, or_false, or_true, true_or, false_or])) ?_
  rintro ⟨k, c⟩ hy
  obtain ⟨hk, hin⟩ : k ≤ L.length ∧ ∀ x ∈ L.take k, 0 ≤ x ∧ x < 16 := hy
  simp only [VC0, VC1, VC2, VC3, VC4, VC5, VC6, VC7, VC8, reduceIte, reduceCtorEq, Nat.reduceEqDiff, Nat.reduceAdd, Nat.reduceMul, Nat.reduceBEq, Nat.reduceLT, Nat.reduceLeDiff, Int.reduceEq, Int.reduceLT, Int.reduceLE, Int.reduceNeg, Int.reduceToNat, Int.reduceAdd, Nat.reduceDiv, Nat.reduceSub, Nat.reduceMod, encL, MC0, MC1, MC2]
  refine condD_of (fun h => ?_) (fun h => ?_)
  · have ha' : k < L.length := by omega
    have k1 : 0 ≤ (k : Int) ∧ (k : Int) < L.length := by omega
    have i3 : InI64 ((k : Int) + 1) := by unfold InI64; omega
    simp only [VC0, VC1, VC2, VC3, VC4, VC5, VC6, VC7, VC8, reduceIte, reduceCtorEq, Nat.reduceEqDiff, Nat.reduceAdd, Nat.reduceMul, Nat.reduceBEq, Nat.reduceLT, Nat.reduceLeDiff, Int.reduceEq, Int.reduceLT, Int.reduceLE, Int.reduceNeg, Int.reduceToNat, Int.reduceAdd, Nat.reduceDiv, Nat.reduceSub, Nat.reduceMod, encL, MC0, MC1, MC2, i3, k1, ha']
    cases b1 : decide (L[k] < 0) <;> simp only [VC0, VC1, VC2, VC3, VC4, VC5, VC6, VC7, VC8, reduceIte, reduceCtorEq, Nat.reduceEqDiff, Nat.reduceAdd, Nat.reduceMul, Nat.reduceBEq, Nat.reduceLT, Nat.reduceLeDiff, Int.reduceEq, Int.reduceLT, Int.reduceLE, Int.reduceNeg, Int.reduceToNat, Int.reduceAdd, Nat.reduceDiv, Nat.reduceSub, Nat.reduceMod, encL, MC0, MC1, MC2, b1, k1, ha']
    · cases b2 : decide (15 < L[k]) <;> simp only [VC0, VC1, VC2, VC3, VC4, VC5, VC6, VC7, VC8, reduceIte, reduceCtorEq, Nat.reduceEqDiff, Nat.reduceAdd, Nat.reduceMul, Nat.reduceBEq, Nat.reduceLT, Nat.reduceLeDiff, Int.reduceEq, Int.reduceLT, Int.reduceLE, Int.reduceNeg, Int.reduceToNat, Int.reduceAdd, Nat.reduceDiv, Nat.reduceSub, Nat.reduceMod, encL, MC0, MC1, MC2, b2, i3]
      · refine backTo_of (k + 1, _) ⟨ha', fun x hx => ?_⟩ (by simp only []; omega) (ent_of _ [] rfl rfl (by simp only [VC0, VC1, VC2, VC3, VC4, VC5, VC6, VC7, VC8, reduceIte, reduceCtorEq, Nat.reduceEqDiff, Nat.reduceAdd, Nat.reduceMul, Nat.reduceBEq, Nat.reduceLT, Nat.reduceLeDiff, Int.reduceEq, Int.reduceLT, Int.reduceLE, Int.reduceNeg, Int.reduceToNat, Int.reduceAdd, Nat.reduceDiv, Nat.reduceSub, Nat.reduceMod, encL, MC0, MC1, MC2]))
        have hx : x ∈ L.take (k + 1) := hx
        rw [List.take_succ_eq_append_getElem ha'] at hx
        rcases List.mem_append.1 hx with hx | hx
        · exact hin x hx
        · obtain rfl := List.mem_singleton.1 hx
          have := of_decide_eq_false b1
          have := of_decide_eq_false b2
          omega
      · refine callX_of told14_ret (.inl rfl) ?_
        simp only [VC0, VC1, VC2, VC3, VC4, VC5, VC6, VC7, VC8, reduceIte, reduceCtorEq, Nat.reduceEqDiff, Nat.reduceAdd, Nat.reduceMul, Nat.reduceBEq, Nat.reduceLT, Nat.reduceLeDiff, Int.reduceEq, Int.reduceLT, Int.reduceLE, Int.reduceNeg, Int.reduceToNat, Int.reduceAdd, Nat.reduceDiv, Nat.reduceSub, Nat.reduceMod, encL, MC0, MC1, MC2]
    · refine callX_of told14_ret (.inl rfl) ?_
      simp only [VC0, VC1, VC2, VC3, VC4, VC5, VC6, VC7, VC8, reduceIte, reduceCtorEq, Nat.reduceEqDiff, Nat.reduceAdd, Nat.reduceMul, Nat.reduceBEq, Nat.reduceLT, Nat.reduceLeDiff, Int.reduceEq, Int.reduceLT, Int.reduceLE, Int.reduceNeg, Int.reduceToNat, Int.reduceAdd, Nat.reduceDiv, Nat.reduceSub, Nat.reduceMod, encL, MC0, MC1, MC2]
  have hkL : k = L.length := by omega
  subst hkL
  rw [List.take_length] at hin
  clear h hk
  simp only [VC0, VC1, VC2, VC3, VC4, VC5, VC6, VC7, VC8, reduceIte, reduceCtorEq, Nat.reduceEqDiff, Nat.reduceAdd, Nat.reduceMul, Nat.reduceBEq, Nat.reduceLT, Nat.reduceLeDiff, Int.reduceEq, Int.reduceLT, Int.reduceLE, Int.reduceNeg, Int.reduceToNat, Int.reduceAdd, Nat.reduceDiv, Nat.reduceSub, Nat.reduceMod, encL, MC0, MC1, MC2]
  refine callX_of (plain_ret 60 t (by decide) hd) (.inr rfl) ?_
  simp only [VC0, VC1, VC2, VC3, VC4, VC5, VC6, VC7, VC8, reduceIte, reduceCtorEq, Nat.reduceEqDiff, Nat.reduceAdd, Nat.reduceMul, Nat.reduceBEq, Nat.reduceLT, Nat.reduceLeDiff, Int.reduceEq, Int.reduceLT, Int.reduceLE, Int.reduceNeg, Int.reduceToNat, Int.reduceAdd, Nat.reduceDiv, Nat.reduceSub, Nat.reduceMod, encL, MC0, MC1, MC2]
  cases hpl : plainB t <;> simp only [VC0, VC1, VC2, VC3, VC4, VC5, VC6, VC7, VC8, reduceIte, reduceCtorEq, Nat.reduceEqDiff, Nat.reduceAdd, Nat.reduceMul, Nat.reduceBEq, Nat.reduceLT, Nat.reduceLeDiff, Int.reduceEq, Int.reduceLT, Int.reduceLE, Int.reduceNeg, Int.reduceToNat, Int.reduceAdd, Nat.reduceDiv, Nat.reduceSub, Nat.reduceMod, encL, MC0, MC1, MC2, hpl]
  · refine callX_of told14_ret (.inl rfl) ?_
    simp only [VC0, VC1, VC2, VC3, VC4, VC5, VC6, VC7, VC8, reduceIte, reduceCtorEq, Nat.reduceEqDiff, Nat.reduceAdd, Nat.reduceMul, Nat.reduceBEq, Nat.reduceLT, Nat.reduceLeDiff, Int.reduceEq, Int.reduceLT, Int.reduceLE, Int.reduceNeg, Int.reduceToNat, Int.reduceAdd, Nat.reduceDiv, Nat.reduceSub, Nat.reduceMod, encL, MC0, MC1, MC2]
  have d1 := deep_subst A 60 t hd
  have hs1 := subst_ret A (by omega) 60 t (by decide) hd
  have hs2 := subst_ret B (by omega) 60 (substS A t) (by decide) d1
  have hs3 := subst_ret C (by omega) 60 t (by decide) hd
  have d2 := deep_subst B 60 _ d1
  have hX : substS B (substS A t) = substS C t := by
    refine subst_subst A B C (fun x h0 h1 => ?_) t hpl (by rw [hL]; exact hin)
    have hx : x.toNat < A.length := by omega
    have hy := bA _ (List.getElem_mem hx)
    rw [mapR_at h0 (by omega), getD_in hx, mapR_at hy.1 (by omega), mapR_at h0 (by omega), eC x.toNat (by omega), getD_in hx]
  have hk1 : (substS B (substS A t)).kind = t.kind := by rw [hX, subst_kind]
  have hsm : sameB (substS B (substS A t)) t = true := by rw [hX]; exact same_subst_l C t
  have hrl2 : (regS (substS B (substS A t))).length = L.length := by rw [hX, regS_subst, List.length_map, hL]
  first | refine callX_of (hs1) (by first | exact .inr rfl | exact .inl rfl) ?_ | refine callV_of (hs1) (by first | exact .inr rfl | exact .inl rfl) ?_
  simp only [VC0, VC1, VC2, VC3, VC4, VC5, VC6, VC7, VC8, reduceIte, reduceCtorEq, Nat.reduceEqDiff, Nat.reduceAdd, Nat.reduceMul, Nat.reduceBEq, Nat.reduceLT, Nat.reduceLeDiff, Int.reduceEq, Int.reduceLT, Int.reduceLE, Int.reduceNeg, Int.reduceToNat, Int.reduceAdd, Nat.reduceDiv, Nat.reduceSub, Nat.reduceMod, encL, MC0, MC1, MC2, set_snap', hrl2, hk1]
  first | refine callX_of (hs2) (by first | exact .inr rfl | exact .inl rfl) ?_ | refine callV_of (hs2) (by first | exact .inr rfl | exact .inl rfl) ?_
  simp only [VC0, VC1, VC2, VC3, VC4, VC5, VC6, VC7, VC8, reduceIte, reduceCtorEq, Nat.reduceEqDiff, Nat.reduceAdd, Nat.reduceMul, Nat.reduceBEq, Nat.reduceLT, Nat.reduceLeDiff, Int.reduceEq, Int.reduceLT, Int.reduceLE, Int.reduceNeg, Int.reduceToNat, Int.reduceAdd, Nat.reduceDiv, Nat.reduceSub, Nat.reduceMod, encL, MC0, MC1, MC2, set_snap', hrl2, hk1]
  first | refine callX_of (told14_ret) (by first | exact .inr rfl | exact .inl rfl) ?_ | refine callV_of (told14_ret) (by first | exact .inr rfl | exact .inl rfl) ?_
  simp only [VC0, VC1, VC2, VC3, VC4, VC5, VC6, VC7, VC8, reduceIte, reduceCtorEq, Nat.reduceEqDiff, Nat.reduceAdd, Nat.reduceMul, Nat.reduceBEq, Nat.reduceLT, Nat.reduceLeDiff, Int.reduceEq, Int.reduceLT, Int.reduceLE, Int.reduceNeg, Int.reduceToNat, Int.reduceAdd, Nat.reduceDiv, Nat.reduceSub, Nat.reduceMod, encL, MC0, MC1, MC2, set_snap', hrl2, hk1]
  first | refine callX_of (hs3) (by first | exact .inr rfl | exact .inl rfl) ?_ | refine callV_of (hs3) (by first | exact .inr rfl | exact .inl rfl) ?_
  simp only [VC0, VC1, VC2, VC3, VC4, VC5, VC6, VC7, VC8, reduceIte, reduceCtorEq, Nat.reduceEqDiff, Nat.reduceAdd, Nat.reduceMul, Nat.reduceBEq, Nat.reduceLT, Nat.reduceLeDiff, Int.reduceEq, Int.reduceLT, Int.reduceLE, Int.reduceNeg, Int.reduceToNat, Int.reduceAdd, Nat.reduceDiv, Nat.reduceSub, Nat.reduceMod, encL, MC0, MC1, MC2, set_snap', hrl2, hk1]
  have hex := exact_ret 60 _ (substS C t) (by decide) d2
  rw [(exB_iff _ _).2 hX] at hex
  first | refine callX_of (hex) (by first | exact .inr rfl | exact .inl rfl) ?_ | refine callV_of (hex) (by first | exact .inr rfl | exact .inl rfl) ?_
  simp only [VC0, VC1, VC2, VC3, VC4, VC5, VC6, VC7, VC8, reduceIte, reduceCtorEq, Nat.reduceEqDiff, Nat.reduceAdd, Nat.reduceMul, Nat.reduceBEq, Nat.reduceLT, Nat.reduceLeDiff, Int.reduceEq, Int.reduceLT, Int.reduceLE, Int.reduceNeg, Int.reduceToNat, Int.reduceAdd, Nat.reduceDiv, Nat.reduceSub, Nat.reduceMod, encL, MC0, MC1, MC2, set_snap', hrl2, hk1]
  have hss := same_ret 60 _ t (by decide) d2
  rw [hsm] at hss
  first | refine callX_of (hss) (by first | exact .inr rfl | exact .inl rfl) ?_ | refine callV_of (hss) (by first | exact .inr rfl | exact .inl rfl) ?_
  simp only [VC0, VC1, VC2, VC3, VC4, VC5, VC6, VC7, VC8, reduceIte, reduceCtorEq, Nat.reduceEqDiff, Nat.reduceAdd, Nat.reduceMul, Nat.reduceBEq, Nat.reduceLT, Nat.reduceLeDiff, Int.reduceEq, Int.reduceLT, Int.reduceLE, Int.reduceNeg, Int.reduceToNat, Int.reduceAdd, Nat.reduceDiv, Nat.reduceSub, Nat.reduceMod, encL, MC0, MC1, MC2, set_snap', hrl2, hk1]
  first | refine callX_of (copy_ret _) (by first | exact .inr rfl | exact .inl rfl) ?_ | refine callV_of (copy_ret _) (by first | exact .inr rfl | exact .inl rfl) ?_
  simp only [VC0, VC1, VC2, VC3, VC4, VC5, VC6, VC7, VC8, reduceIte, reduceCtorEq, Nat.reduceEqDiff, Nat.reduceAdd, Nat.reduceMul, Nat.reduceBEq, Nat.reduceLT, Nat.reduceLeDiff, Int.reduceEq, Int.reduceLT, Int.reduceLE, Int.reduceNeg, Int.reduceToNat, Int.reduceAdd, Nat.reduceDiv, Nat.reduceSub, Nat.reduceMod, encL, MC0, MC1, MC2, set_snap', hrl2, hk1]
  first | refine callX_of (copy_ret t) (by first | exact .inr rfl | exact .inl rfl) ?_ | refine callV_of (copy_ret t) (by first | exact .inr rfl | exact .inl rfl) ?_
  simp only [VC0, VC1, VC2, VC3, VC4, VC5, VC6, VC7, VC8, reduceIte, reduceCtorEq, Nat.reduceEqDiff, Nat.reduceAdd, Nat.reduceMul, Nat.reduceBEq, Nat.reduceLT, Nat.reduceLeDiff, Int.reduceEq, Int.reduceLT, Int.reduceLE, Int.reduceNeg, Int.reduceToNat, Int.reduceAdd, Nat.reduceDiv, Nat.reduceSub, Nat.reduceMod, encL, MC0, MC1, MC2, set_snap', hrl2, hk1]
  first | refine callX_of (regs_ret 60 _ (by decide) d2) (by first | exact .inr rfl | exact .inl rfl) ?_ | refine callV_of (regs_ret 60 _ (by decide) d2) (by first | exact .inr rfl | exact .inl rfl) ?_
  simp only [VC0, VC1, VC2, VC3, VC4, VC5, VC6, VC7, VC8, reduceIte, reduceCtorEq, Nat.reduceEqDiff, Nat.reduceAdd, Nat.reduceMul, Nat.reduceBEq, Nat.reduceLT, Nat.reduceLeDiff, Int.reduceEq, Int.reduceLT, Int.reduceLE, Int.reduceNeg, Int.reduceToNat, Int.reduceAdd, Nat.reduceDiv, Nat.reduceSub, Nat.reduceMod, encL, MC0, MC1, MC2, set_snap', hrl2, hk1]
  trace_state
end Go.Proofs.YtgpeaibhhonikaaGreatDoor

set_option linter.unusedSimpArgs false
set_option linter.unusedVariables false
namespace Go.Proofs.YtgpeaibhhonikaaGreatDoor
open Go Go.Lg Go.RowKit

theorem tyInt : IsT Tryz.prog 3 (fun n : Int => cI n) InI64 := isInt (by kernel_rfl)
theorem tyStr : IsT Tryz.prog 9 (fun n : ByteArray => cS n) (fun s => s.size ≤ maxLen) := isStr (by kernel_rfl)
theorem tyInts : IsT Tryz.prog 36 (fun l : List Int => [encL cI l]) (fun l => l.length ≤ maxLen ∧ ∀ x ∈ l, InI64 x) := isSl (e := 3) (s := 1) (by kernel_rfl) (by decide) cI_len tyInt
theorem tyRT0 : ∀ (t : TypeId) (xs : List V), Ty Tryz.prog t xs → (t = 39 → ∃ x : RT, xs = x.cells ∧ x.ok) ∧ (t = 37 → ∃ l : List RT, xs = [encL RT.cells l] ∧ l.length ≤ maxLen ∧ ∀ x ∈ l, x.ok) := by
  intro t xs h
  induction h with
  | struct t fs cs hu hl hf ih =>
    refine ⟨fun e => ?_, fun e => ?_⟩
    · subst e
      have hs : stF Tryz.prog 39 = some [3, 9, 36, 37] := by kernel_rfl
      unfold stF at hs
      simp only [hu] at hs
      split at hs
      case isFalse => cases hs
      rename_i ht
      simp only [Option.some.injEq] at hs
      simp only [tileOk, hu, beq_iff_eq] at ht
      have hp := pcs_of (Q := fun t xs => Ty Tryz.prog t xs ∧ ((t = 39 → ∃ x : RT, xs = x.cells ∧ x.ok) ∧ (t = 37 → ∃ l : List RT, xs = [encL RT.cells l] ∧ l.length ≤ maxLen ∧ ∀ x ∈ l, x.ok))) (xs := cs) fs.toList 0 _ ht hl (fun f hm => ⟨hf f hm, ih f hm⟩)
      rw [hs, List.drop_zero] at hp
      obtain ⟨_, _, rfl, h0, _, _, rfl, h1, _, _, rfl, h2, _, _, rfl, h3, rfl⟩ := hp
      obtain ⟨x0, rfl, o0⟩ := tyInt _ h0.1
      obtain ⟨x1, rfl, o1⟩ := tyStr _ h1.1
      obtain ⟨x2, rfl, o2⟩ := tyInts _ h2.1
      obtain ⟨x3, rfl, o3⟩ := h3.2.2 rfl
      exact ⟨.mk x0 x1 x2 x3, by rw [RT.cells_eq]; rfl, (RT.ok_iff _).2 ⟨o0, o1, o2, o3⟩⟩
    · subst e
      have hs : slF Tryz.prog 37 = some (39, 4) := by kernel_rfl
      simp [slF, hu] at hs
  | slice t e n cs hu hl hn hi ih =>
    refine ⟨fun e => ?_, fun e => ?_⟩
    · subst e
      have hs : stF Tryz.prog 39 = some [3, 9, 36, 37] := by kernel_rfl
      simp [stF, hu] at hs
    · subst e
      have hs : slF Tryz.prog 37 = some (39, 4) := by kernel_rfl
      simp only [slF, hu, Option.some.injEq, Prod.mk.injEq] at hs
      obtain ⟨rfl, hs⟩ := hs
      rw [hs] at hl ih
      obtain ⟨l, h1, h2, h3⟩ := list_of_pcs (f := RT.cells) (ok := RT.ok) RT.len n cs hl fun i h => (ih i h).1 rfl
      exact ⟨l, by simp only [encL]; rw [← h2, h1], by omega, h3⟩
  | bool t b hu => exact ⟨fun e => by subst e; have hs : stF Tryz.prog 39 = some [3, 9, 36, 37] := by kernel_rfl
                                      simp [stF, hu] at hs, fun e => by subst e; have hs : slF Tryz.prog 37 = some (39, 4) := by kernel_rfl
                                                                        simp [slF, hu] at hs⟩
  | int t k n hu => exact ⟨fun e => by subst e; have hs : stF Tryz.prog 39 = some [3, 9, 36, 37] := by kernel_rfl
                                       simp [stF, hu] at hs, fun e => by subst e; have hs : slF Tryz.prog 37 = some (39, 4) := by kernel_rfl
                                                                         simp [slF, hu] at hs⟩
  | str t s hu => exact ⟨fun e => by subst e; have hs : stF Tryz.prog 39 = some [3, 9, 36, 37] := by kernel_rfl
                                     simp [stF, hu] at hs, fun e => by subst e; have hs : slF Tryz.prog 37 = some (39, 4) := by kernel_rfl
                                                                       simp [slF, hu] at hs⟩
  | array t n e cs hu => exact ⟨fun e => by subst e; have hs : stF Tryz.prog 39 = some [3, 9, 36, 37] := by kernel_rfl
                                            simp [stF, hu] at hs, fun e => by subst e; have hs : slF Tryz.prog 37 = some (39, 4) := by kernel_rfl
                                                                              simp [slF, hu] at hs⟩
  | other t d hu ho => exact ⟨fun e => by subst e; have hs : stF Tryz.prog 39 = some [3, 9, 36, 37] := by kernel_rfl
                                          simp only [stF, hu] at hs; cases d <;> simp_all [otherOk], fun e => by subst e; have hs : slF Tryz.prog 37 = some (39, 4) := by kernel_rfl
                                                                                                                 simp only [slF, hu] at hs; cases d <;> simp_all [otherOk]⟩
theorem tyRT : IsT Tryz.prog 39 RT.cells RT.ok := fun xs h => (tyRT0 _ xs h).1 rfl

end Go.Proofs.YtgpeaibhhonikaaGreatDoor

set_option linter.unusedSimpArgs false
set_option linter.unusedVariables false
namespace Go.Proofs.YtgpeaibhhonikaaGreatDoor
open Go Go.Lg Go.RowKit Go.ChangeShapes Go.WideShapes Go.ChangeAt
set_option linter.unusedVariables false
theorem tiles : tilesOk Tryz.prog = true := by kernel_rfl
theorem arg_agg {P : Program} (htile : tilesOk P = true) {H : Type} {enc : TypeId × Value → H} {w : World} {t : TypeId} {fs : Array Field} {α : Type} {f : α → List V} {ok : α → Prop} {r : Reach} {b0 : Nat} {v : Value} {d : DataW H} {p : List MemPlace}
    (ht : P.underlying t = some (.struct fs)) (hin : t < P.types.size) (hT : IsT P t f ok) (hv : Value.okWide P w r b0 t v) (h : DataW.Trod enc P w 0 (fun _ => true) true t v d p) :
    ∃ x : α, ok x ∧ RepI (· < w.heap.size) w v (.agg (f x)) := by
  obtain ⟨cs, rfl, hsz⟩ := okWide_struct ht hv
  obtain ⟨fuel, hf⟩ := h
  obtain ⟨xs, hty, hl, hr⟩ := trod_rep htile fuel t _ d p hin hf
  obtain ⟨x, rfl, hok⟩ := hT xs hty
  simp only [Value.cells] at hl hr
  exact ⟨x, hok, .agg cs _ (by simpa using hl.symm) fun j v c hv hc => hr j v c (by simpa using hv) hc⟩
end Go.Proofs.YtgpeaibhhonikaaGreatDoor

set_option linter.unusedSimpArgs false
set_option linter.unusedVariables false
namespace Go.Proofs.YtgpeaibhhonikaaGreatDoor
open Go Go.Lg Go.RowKit Go.ChangeShapes Go.WideShapes Go.ChangeAt
set_option linter.unusedVariables false
theorem arg_one {P : Program} (htile : tilesOk P = true) {H : Type} {enc : TypeId × Value → H} {w : World} {t : TypeId} {d0 : TypeDesc} {α : Type} {f : α → V} {ok : α → Prop} {r : Reach} {b0 : Nat} {v : Value} {d : DataW H} {p : List MemPlace}
    (ht : P.underlying t = some d0) (hd : (∃ q, d0 = .int q) ∨ ∃ e, d0 = .slice e) (hin : t < P.types.size) (hT : IsT P t (fun x => [f x]) ok) (hv : Value.okWide P w r b0 t v) (h : DataW.Trod enc P w 0 (fun _ => true) true t v d p) :
    ∃ x : α, ok x ∧ RepI (· < w.heap.size) w v (f x) := by
  have hna : v.cells = #[v] := by
    cases v with
    | agg cs =>
      exfalso
      rcases hd with ⟨q, rfl⟩ | ⟨e, rfl⟩ <;> simp [Value.okWide, Cell.okWide, Cell.ok, ht] at hv
    | _ => rfl
  obtain ⟨fuel, hf⟩ := h
  obtain ⟨xs, hty, hl, hr⟩ := trod_rep htile fuel t _ d p hin hf
  obtain ⟨x, rfl, hok⟩ := hT xs hty
  rw [hna] at hr
  exact ⟨x, hok, hr 0 v (f x) rfl rfl⟩
end Go.Proofs.YtgpeaibhhonikaaGreatDoor
