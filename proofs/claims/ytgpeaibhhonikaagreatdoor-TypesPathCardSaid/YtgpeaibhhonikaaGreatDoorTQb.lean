/-
  Fj Fk Tya Tyb Tyc Tyd Tye Tyf: put together.
-/
import Derived.Test.YtgpeaibhhonikaaGreatDoorShr
import Derived.Test.YtgpeaibhhonikaaGreatDoorProg
import Derived.Test.YtgpeaibhhonikaaGreatDoorLgP
import Derived.Test.YtgpeaibhhonikaaGreatDoorFxw
import Derived.Test.YtgpeaibhhonikaaGreatDoorTQa
import Derived.Test.YtgpeaibhhonikaaGreatDoorTQs
namespace Go.Proofs.YtgpeaibhhonikaaGreatDoor
open Go Go.Lg Go.Lg.Sh
set_option maxRecDepth 100000

def lcj18 : LC := .seq (.rego 0 [o 1 0, ⟨some 2, .mov (.con .e0), none⟩]) (.keep [1] (.seq (.rego 1 [⟨some 3, .mov (.con .e0), none⟩]) (.keep [1, 3] (.seq (.seq (.rego 2 [f 8 0 1, l 9 1 8]) (.keep [1, 3, 9] (.block 0 (.join (.block 2 (.block 1 (.seq (.seq (.seq (.rego 3 [e 11 9 5, m 10 11]) (.keep [1, 3, 9, 10] (.cond (.tmp 10) (.exit 1) .skip))) (.keep [1, 3, 9] (.seq (.rego 4 [e 13 9 4, m 12 13]) (.keep [1, 3, 12] (.cond (.tmp 12) (.exit 2) .skip))))) (.exit 0)))) (.keep [1, 3] (.seq (.seq (.seq (.rego 5 [f 14 3 1, l 15 1 14, n 16 15, e 17 16 0]) (.keep [1, 3, 17] (.cond (.tmp 17) (.keep [] (.seq (.rego 6 [⟨some 2, .mov (.con .e0), none⟩]) .ret)) .skip))) (.keep [1, 3] (.seq (.seq (.rego 7 [f 18 3 1, l 19 1 18, ⟨some 20, .iaS 4 (.tmp 19) (.con (.int .i64 0)), none⟩, L 21 4 20, c 22 31 21, n 23 22, i 24 0]) (.keep [1, 3, 22, 23, 24] (.block 3 (.loop (.seq (.rego 8 [s 25 24 23]) (.keep [1, 3, 22, 23, 24, 25] (.seq (.cond (.tmp 25) .skip (.exit 3)) (.keep [1, 3, 22, 23, 24] (.seq (.block 4 (.seq (.rego 9 [x 26 1 22 24, l 27 1 26, m 5 27]) (.keep [1, 3, 5, 22, 23, 24] (.seq (.rego 10 [L 28 4 1, c 29 50 28, n 30 29, i 31 0]) (.keep [1, 3, 5, 22, 23, 24, 29, 30, 31] (.block 5 (.loop (.seq (.rego 11 [s 32 31 30]) (.keep [1, 3, 5, 22, 23, 24, 29, 30, 31, 32] (.seq (.cond (.tmp 32) .skip (.exit 5)) (.keep [1, 3, 5, 22, 23, 24, 29, 30, 31] (.seq (.block 6 (.seq (.rego 12 [x 33 1 29 31, l 34 1 33, m 7 34]) (.keep [1, 3, 5, 7, 22, 23, 24, 29, 30, 31] (.rego 13 [m 35 3, m 36 5, m 37 7, ⟨some 38, .build [.int .i64 0, .int .i64 0] [⟨0, 1, .tmp 36⟩, ⟨1, 1, .tmp 37⟩], none⟩, ⟨some 39, .bsl 1 [.int .i64 0, .int .i64 0] [⟨0, 2, .tmp 38⟩], none⟩, ⟨some 40, .app 2 16 (.tmp 35) (.tmp 39), none⟩, m 3 40])))) (.keep [1, 3, 5, 22, 23, 24, 29, 30, 31] (.rego 14 [a 41 31 1, m 31 41])))))))))))))) (.keep [1, 3, 22, 23, 24] (.rego 15 [a 42 24 1, m 24 42]))))))))))) (.keep [1, 3] (.rego 16 [m 43 3, f 44 3 1, l 45 1 44, ⟨some 46, .iaS 4 (.tmp 45) (.con (.int .i64 0)), none⟩, L 47 4 46, c 48 18 47, ⟨some 49, .app 2 16 (.tmp 43) (.tmp 48), none⟩, m 3 49]))))) (.exit 0))))))) (.keep [3] (.seq (.rego 17 [m 50 3, m 2 50]) .ret))))))
theorem fdj18 : fnData Tryz.prog 18 = some (51, lcj18.erase, [LRV.tmp 2]) := by kernel_rfl

def lcj39 : LC := .seq (.rego 0 [o 1 0, ⟨some 2, .mov (.con .e0), none⟩]) (.keep [1] (.seq (.rego 1 [⟨some 3, .mov (.con .e0), none⟩]) (.keep [1, 3] (.join (.seq (.rego 2 [f 6 0 1, l 7 1 6, N 8 7 4, m 9 8, h 9 (f 10 0 1), h 9 (l 11 1 10), h 9 (N 12 11 5), p 13 9 12, m 14 13, g 14 (f 15 3 1), g 14 (l 16 1 15), g 14 (n 17 16), g 14 (e 18 17 0), q 19 14 18]) (.keep [1, 3, 19] (.cond (.tmp 19) (.keep [] (.seq (.rego 3 [⟨some 2, .mov (.con .e0), none⟩]) .ret)) .skip))) (.keep [1, 3] (.seq (.rego 4 [f 20 3 1, l 21 1 20, ⟨some 22, .iaS 4 (.tmp 21) (.con (.int .i64 0)), none⟩, L 23 4 22, c 24 19 23, m 4 24]) (.keep [1, 3, 4] (.seq (.seq (.rego 5 [i 5 0]) (.keep [1, 3, 4, 5] (.block 0 (.loop (.seq (.seq (.rego 6 [m 25 5, m 26 4, n 27 26, s 28 25 27, m 29 28, h 29 (f 30 2 1), h 29 (l 31 1 30), h 29 (n 32 31), ⟨some 33, .bin .gtr (.tmp 32) (.con (.int .i64 0)), some ⟨29, true⟩⟩, p 34 29 33]) (.keep [1, 3, 4, 5, 34] (.cond (.tmp 34) .skip (.exit 0)))) (.keep [1, 3, 4, 5] (.seq (.block 1 (.regf 8 [0, 0, 0, 6, 14, 0, 32, 96, 224, 510, 1022, 2047, 4095] [m 37 3, m 38 4, m 39 5, x 40 1 38 39, l 41 1 40, f 42 2 1, l 43 1 42, ⟨some 44, .iaS 1 (.tmp 43) (.con (.int .i64 0)), none⟩, l 45 1 44, ⟨some 46, .build [.int .i64 0, .int .i64 0] [⟨0, 1, .tmp 41⟩, ⟨1, 1, .tmp 45⟩], none⟩, ⟨some 47, .bsl 1 [.int .i64 0, .int .i64 0] [⟨0, 2, .tmp 46⟩], none⟩, ⟨some 48, .app 2 16 (.tmp 37) (.tmp 47), none⟩, m 3 48])) (.keep [1, 3, 4, 5] (.rego 7 [m 35 5, a 36 35 1, m 5 36]))))))))) (.keep [1, 3] (.seq (.rego 9 [m 49 3, f 50 3 1, l 51 1 50, ⟨some 52, .iaS 4 (.tmp 51) (.con (.int .i64 0)), none⟩, L 53 4 52, c 54 39 53, ⟨some 55, .app 2 16 (.tmp 49) (.tmp 54), none⟩, m 2 55]) .ret))))))))))
theorem fdj39 : fnData Tryz.prog 39 = some (56, lcj39.erase, [LRV.tmp 2]) := by kernel_rfl

end Go.Proofs.YtgpeaibhhonikaaGreatDoor

namespace Go.Proofs.YtgpeaibhhonikaaGreatDoor
open Go Go.Lg Go.Lg.Sh
set_option maxRecDepth 100000

end Go.Proofs.YtgpeaibhhonikaaGreatDoor

set_option linter.unusedSimpArgs false
set_option linter.unusedVariables false
namespace Go.Proofs.YtgpeaibhhonikaaGreatDoor
open Go Go.Lg Go.RowKit
set_option linter.unusedVariables false
set_option linter.unusedSimpArgs false
set_option maxRecDepth 20000

theorem maxLen_eq : maxLen = 9223372036854775807 := rfl
theorem rt_first {l : List RT} (h : 0 < l.length) : ldV true 4 (l.flatMap RT.cells) 0 = some (.agg (l[0]).cells) := by
  have := RT.ld0 (l := l) (i := 0) (n := 4) (agg := true) h (by decide) (by decide)
  rw [Nat.zero_mul] at this
  rw [this, RT.call]
theorem min_if (n : Nat) : (if (n : Int) < 1 then (n : Int) else 1) = ((min 1 n : Nat) : Int) := by split <;> omega
theorem take_min (r : List Int) : (r.flatMap cI).take (min 1 r.length) = (r.take 1).flatMap cI := by
  cases r with
  | nil => rfl
  | cons x l => simp [cI]
theorem own_goal (r : List Int) : ((0 ≤ ((min 1 r.length : Nat) : Int)) ∧ ((min 1 r.length : Nat) : Int) ≤ r.length ∧ min 1 r.length ≤ r.length) ∧ min 1 r.length = (r.take 1).length ∧ (r.flatMap cI).take (min 1 r.length) = (r.take 1).flatMap cI :=
  ⟨⟨by omega, by omega, by omega⟩, by rw [List.length_take], take_min r⟩

theorem li_cat (a b : List Int) : a.flatMap cI ++ b.flatMap cI = (a ++ b).flatMap cI := by rw [List.flatMap_append]
theorem own_ret (t : RT) : PRet Tryz.prog 50 [.agg t.cells] (encL cI (t.regions.take 1)) := by
  refine pret_intro fd50 (by simp) ?_
  simp only [lc50, VCA, simprocAttr, encL, MCA, min_if]
  exact own_goal t.regions
theorem rown_ret (t : RT) : PRet Tryz.prog 51 [.agg t.cells] (encL cI (ownS t.kind t.regions)) := by
  refine pret_intro_l fd51 (by simp) ?_
  simp only [lc51, VCA, simprocAttr, encL, MCA, min_if]
  obtain ⟨⟨g1, g2, g3⟩, g4, g5⟩ := own_goal t.regions
  have o3 : ownS 3 t.regions = t.regions := rfl
  have o4 : ownS 4 t.regions = t.regions.take 1 := rfl
  have o5 : ownS 5 t.regions = t.regions.take 1 := rfl
  repeat' (first | refine condDn_of (fun h => ?_) (fun h => ?_) <;> simp only [VCA, simprocAttr, encL, MCA, h, min_if] | refine condD_of (fun h => ?_) (fun h => ?_) <;> simp only [VCA, simprocAttr, encL, MCA, h, min_if] | refine condVn_of (fun h => ?_) (fun h => ?_) <;> simp only [VCA, simprocAttr, encL, MCA, h, min_if] | refine condV_of (fun h => ?_) (fun h => ?_) <;> simp only [VCA, simprocAttr, encL, MCA, h, min_if] | refine gdDn_of (fun h => ?_) (fun h => ?_) <;> simp only [VCA, simprocAttr, encL, MCA, h, min_if] | refine gdD_of (fun h => ?_) (fun h => ?_) <;> simp only [VCA, simprocAttr, encL, MCA, h, min_if] | refine gdVMn_of (fun h => ?_) (fun h => ?_) <;> simp only [VCA, simprocAttr, encL, MCA, h, min_if] | refine gdVM_of (fun h => ?_) (fun h => ?_) <;> simp only [VCA, simprocAttr, encL, MCA, h, min_if] | refine gpDn_of (fun h => ?_) (fun h => ?_) <;> simp only [VCA, simprocAttr, encL, MCA, h, min_if] | refine gpD_of (fun h => ?_) (fun h => ?_) <;> simp only [VCA, simprocAttr, encL, MCA, h, min_if] | refine gdVn_of (fun h => ?_) (fun h => ?_) <;> simp only [VCA, simprocAttr, encL, MCA, h, min_if] | refine gdV_of (fun h => ?_) (fun h => ?_) <;> simp only [VCA, simprocAttr, encL, MCA, h, min_if] | (unfold InI64; omega) | refine And.intro ?_ ?_)
  all_goals try simp only [o3, o4, o5]
  all_goals first
    | exact g1
    | exact g2
    | exact g3
    | exact g4
    | exact g5
    | rfl
    | simp [ownS, isRef, *]
theorem refers_ret (k : Int) : PRet Tryz.prog 55 [.int .i64 k] (.bool (isRef k)) := by
  refine pret_intro fd55 (by simp) ?_
  simp only [lc55, VCA, simprocAttr, encL, MCA]
  repeat' (first | refine condDn_of (fun h => ?_) (fun h => ?_) <;> simp only [VCA, simprocAttr, encL, MCA, h] | refine condD_of (fun h => ?_) (fun h => ?_) <;> simp only [VCA, simprocAttr, encL, MCA, h] | refine condVn_of (fun h => ?_) (fun h => ?_) <;> simp only [VCA, simprocAttr, encL, MCA, h] | refine condV_of (fun h => ?_) (fun h => ?_) <;> simp only [VCA, simprocAttr, encL, MCA, h] | refine gdDn_of (fun h => ?_) (fun h => ?_) <;> simp only [VCA, simprocAttr, encL, MCA, h] | refine gdD_of (fun h => ?_) (fun h => ?_) <;> simp only [VCA, simprocAttr, encL, MCA, h] | refine gdVMn_of (fun h => ?_) (fun h => ?_) <;> simp only [VCA, simprocAttr, encL, MCA, h] | refine gdVM_of (fun h => ?_) (fun h => ?_) <;> simp only [VCA, simprocAttr, encL, MCA, h] | refine gpDn_of (fun h => ?_) (fun h => ?_) <;> simp only [VCA, simprocAttr, encL, MCA, h] | refine gpD_of (fun h => ?_) (fun h => ?_) <;> simp only [VCA, simprocAttr, encL, MCA, h] | refine gdVn_of (fun h => ?_) (fun h => ?_) <;> simp only [VCA, simprocAttr, encL, MCA, h] | refine gdV_of (fun h => ?_) (fun h => ?_) <;> simp only [VCA, simprocAttr, encL, MCA, h] | (unfold InI64; omega) | refine And.intro ?_ ?_)
  all_goals simp [isRef, *]
theorem copy_ret (t : RT) : PRet Tryz.prog 34 [.agg t.cells] (.bool (copyB t.kind)) := by
  refine pret_intro fd34 (by simp) ?_
  simp only [lc34, VCA, simprocAttr, encL, MCA]
  repeat' (first | refine condDn_of (fun h => ?_) (fun h => ?_) <;> simp only [VCA, simprocAttr, encL, MCA, h] | refine condD_of (fun h => ?_) (fun h => ?_) <;> simp only [VCA, simprocAttr, encL, MCA, h] | refine condVn_of (fun h => ?_) (fun h => ?_) <;> simp only [VCA, simprocAttr, encL, MCA, h] | refine condV_of (fun h => ?_) (fun h => ?_) <;> simp only [VCA, simprocAttr, encL, MCA, h] | refine gdDn_of (fun h => ?_) (fun h => ?_) <;> simp only [VCA, simprocAttr, encL, MCA, h] | refine gdD_of (fun h => ?_) (fun h => ?_) <;> simp only [VCA, simprocAttr, encL, MCA, h] | refine gdVMn_of (fun h => ?_) (fun h => ?_) <;> simp only [VCA, simprocAttr, encL, MCA, h] | refine gdVM_of (fun h => ?_) (fun h => ?_) <;> simp only [VCA, simprocAttr, encL, MCA, h] | refine gpDn_of (fun h => ?_) (fun h => ?_) <;> simp only [VCA, simprocAttr, encL, MCA, h] | refine gpD_of (fun h => ?_) (fun h => ?_) <;> simp only [VCA, simprocAttr, encL, MCA, h] | refine gdVn_of (fun h => ?_) (fun h => ?_) <;> simp only [VCA, simprocAttr, encL, MCA, h] | refine gdV_of (fun h => ?_) (fun h => ?_) <;> simp only [VCA, simprocAttr, encL, MCA, h] | (unfold InI64; omega) | refine And.intro ?_ ?_)
  all_goals simp [copyB, *]
theorem rcopy_ret (t : RT) : PRet Tryz.prog 35 [.agg t.cells] (.bool (copyB t.kind)) := by
  refine pret_intro fd35 (by simp) ?_
  simp only [lc35, VCA, simprocAttr, encL, MCA]
  repeat' (first | refine condDn_of (fun h => ?_) (fun h => ?_) <;> simp only [VCA, simprocAttr, encL, MCA, h] | refine condD_of (fun h => ?_) (fun h => ?_) <;> simp only [VCA, simprocAttr, encL, MCA, h] | refine condVn_of (fun h => ?_) (fun h => ?_) <;> simp only [VCA, simprocAttr, encL, MCA, h] | refine condV_of (fun h => ?_) (fun h => ?_) <;> simp only [VCA, simprocAttr, encL, MCA, h] | refine gdDn_of (fun h => ?_) (fun h => ?_) <;> simp only [VCA, simprocAttr, encL, MCA, h] | refine gdD_of (fun h => ?_) (fun h => ?_) <;> simp only [VCA, simprocAttr, encL, MCA, h] | refine gdVMn_of (fun h => ?_) (fun h => ?_) <;> simp only [VCA, simprocAttr, encL, MCA, h] | refine gdVM_of (fun h => ?_) (fun h => ?_) <;> simp only [VCA, simprocAttr, encL, MCA, h] | refine gpDn_of (fun h => ?_) (fun h => ?_) <;> simp only [VCA, simprocAttr, encL, MCA, h] | refine gpD_of (fun h => ?_) (fun h => ?_) <;> simp only [VCA, simprocAttr, encL, MCA, h] | refine gdVn_of (fun h => ?_) (fun h => ?_) <;> simp only [VCA, simprocAttr, encL, MCA, h] | refine gdV_of (fun h => ?_) (fun h => ?_) <;> simp only [VCA, simprocAttr, encL, MCA, h] | (unfold InI64; omega) | refine And.intro ?_ ?_)
  all_goals simp [copyB, *]
theorem regs_ret : ∀ (d : Nat) (t : RT), d ≤ 100 → deepB d t = false → PRet Tryz.prog 31 [.agg t.cells] (encL cI (regS t)) := by
  intro d
  induction d with
  | zero => intro t _ h; exact (deep_zero h).elim
  | succ d ih =>
    intro t hd h
    obtain ⟨he, hr, hc⟩ := deep_succ h
    refine pret_intro_l fd31 (by simp) ?_
    by_cases hp : 0 < t.elem.length
    · have hp' : (0 : Int) < t.elem.length := by omega
      have hrl := reg_len d _ (hc _ (List.getElem_mem hp))
      have hf := rt_first hp
      have key : regS t = ownS t.kind t.regions ++ if isRef t.kind = true then regS t.elem[0] else [] := by rw [regS_eq, regH_pos hp]
      simp only [lc31, VCA, simprocAttr, encL, MCA]
      repeat' (first | refine condDn_of (fun h => ?_) (fun h => ?_) <;> simp only [VCA, simprocAttr, encL, MCA, h, hp, hp', hf, isRef3, isRef4, isRef5, li_cat] | refine condD_of (fun h => ?_) (fun h => ?_) <;> simp only [VCA, simprocAttr, encL, MCA, h, hp, hp', hf, isRef3, isRef4, isRef5, li_cat] | refine condVn_of (fun h => ?_) (fun h => ?_) <;> simp only [VCA, simprocAttr, encL, MCA, h, hp, hp', hf, isRef3, isRef4, isRef5, li_cat] | refine condV_of (fun h => ?_) (fun h => ?_) <;> simp only [VCA, simprocAttr, encL, MCA, h, hp, hp', hf, isRef3, isRef4, isRef5, li_cat] | refine gdDn_of (fun h => ?_) (fun h => ?_) <;> simp only [VCA, simprocAttr, encL, MCA, h, hp, hp', hf, isRef3, isRef4, isRef5, li_cat] | refine gdD_of (fun h => ?_) (fun h => ?_) <;> simp only [VCA, simprocAttr, encL, MCA, h, hp, hp', hf, isRef3, isRef4, isRef5, li_cat] | refine gdVMn_of (fun h => ?_) (fun h => ?_) <;> simp only [VCA, simprocAttr, encL, MCA, h, hp, hp', hf, isRef3, isRef4, isRef5, li_cat] | refine gdVM_of (fun h => ?_) (fun h => ?_) <;> simp only [VCA, simprocAttr, encL, MCA, h, hp, hp', hf, isRef3, isRef4, isRef5, li_cat] | refine gpDn_of (fun h => ?_) (fun h => ?_) <;> simp only [VCA, simprocAttr, encL, MCA, h, hp, hp', hf, isRef3, isRef4, isRef5, li_cat] | refine gpD_of (fun h => ?_) (fun h => ?_) <;> simp only [VCA, simprocAttr, encL, MCA, h, hp, hp', hf, isRef3, isRef4, isRef5, li_cat] | refine gdVn_of (fun h => ?_) (fun h => ?_) <;> simp only [VCA, simprocAttr, encL, MCA, h, hp, hp', hf, isRef3, isRef4, isRef5, li_cat] | refine gdV_of (fun h => ?_) (fun h => ?_) <;> simp only [VCA, simprocAttr, encL, MCA, h, hp, hp', hf, isRef3, isRef4, isRef5, li_cat] | refine callX_of (own_ret t) (by first | exact Or.inr rfl | exact Or.inl rfl) ?_ <;> simp only [VCA, simprocAttr, encL, MCA, hp, hp', hf, isRef3, isRef4, isRef5, li_cat] | refine callX_of (refers_ret _) (by first | exact Or.inr rfl | exact Or.inl rfl) ?_ <;> simp only [VCA, simprocAttr, encL, MCA, hp, hp', hf, isRef3, isRef4, isRef5, li_cat] | refine callX_of (ih t.elem[0] (by omega) (hc _ (List.getElem_mem hp))) (by first | exact Or.inr rfl | exact Or.inl rfl) ?_ <;> simp only [VCA, simprocAttr, encL, MCA, hp, hp', hf, isRef3, isRef4, isRef5, li_cat] | (unfold InI64; omega) | refine And.intro ?_ ?_)
      all_goals clear hf hc ih
      all_goals first
        | omega
        | (simp only [List.length_take]; omega)
        | (simp [key, ownS, isRef, *]; done)
        | (simp_all [ownS, isRef]; done)
        | trace_state
    · have hp' : ¬ (0 : Int) < t.elem.length := by omega
      have key : regS t = ownS t.kind t.regions := by
        rw [regS_eq]
        cases he : t.elem with
        | nil => simp [regH]
        | cons x l => rw [he] at hp; simp at hp
      simp only [lc31, VCA, simprocAttr, encL, MCA]
      repeat' (first | refine condDn_of (fun h => ?_) (fun h => ?_) <;> simp only [VCA, simprocAttr, encL, MCA, h, hp', isRef3, isRef4, isRef5, li_cat] | refine condD_of (fun h => ?_) (fun h => ?_) <;> simp only [VCA, simprocAttr, encL, MCA, h, hp', isRef3, isRef4, isRef5, li_cat] | refine condVn_of (fun h => ?_) (fun h => ?_) <;> simp only [VCA, simprocAttr, encL, MCA, h, hp', isRef3, isRef4, isRef5, li_cat] | refine condV_of (fun h => ?_) (fun h => ?_) <;> simp only [VCA, simprocAttr, encL, MCA, h, hp', isRef3, isRef4, isRef5, li_cat] | refine gdDn_of (fun h => ?_) (fun h => ?_) <;> simp only [VCA, simprocAttr, encL, MCA, h, hp', isRef3, isRef4, isRef5, li_cat] | refine gdD_of (fun h => ?_) (fun h => ?_) <;> simp only [VCA, simprocAttr, encL, MCA, h, hp', isRef3, isRef4, isRef5, li_cat] | refine gdVMn_of (fun h => ?_) (fun h => ?_) <;> simp only [VCA, simprocAttr, encL, MCA, h, hp', isRef3, isRef4, isRef5, li_cat] | refine gdVM_of (fun h => ?_) (fun h => ?_) <;> simp only [VCA, simprocAttr, encL, MCA, h, hp', isRef3, isRef4, isRef5, li_cat] | refine gpDn_of (fun h => ?_) (fun h => ?_) <;> simp only [VCA, simprocAttr, encL, MCA, h, hp', isRef3, isRef4, isRef5, li_cat] | refine gpD_of (fun h => ?_) (fun h => ?_) <;> simp only [VCA, simprocAttr, encL, MCA, h, hp', isRef3, isRef4, isRef5, li_cat] | refine gdVn_of (fun h => ?_) (fun h => ?_) <;> simp only [VCA, simprocAttr, encL, MCA, h, hp', isRef3, isRef4, isRef5, li_cat] | refine gdV_of (fun h => ?_) (fun h => ?_) <;> simp only [VCA, simprocAttr, encL, MCA, h, hp', isRef3, isRef4, isRef5, li_cat] | refine callX_of (own_ret t) (by first | exact Or.inr rfl | exact Or.inl rfl) ?_ <;> simp only [VCA, simprocAttr, encL, MCA, hp', isRef3, isRef4, isRef5, li_cat] | refine callX_of (refers_ret _) (by first | exact Or.inr rfl | exact Or.inl rfl) ?_ <;> simp only [VCA, simprocAttr, encL, MCA, hp', isRef3, isRef4, isRef5, li_cat] | (unfold InI64; omega) | refine And.intro ?_ ?_)
      all_goals clear hc ih
      all_goals first
        | omega
        | (simp only [List.length_take]; omega)
        | (simp [key, ownS, isRef, *]; done)
        | (simp_all [ownS, isRef]; done)
        | trace_state
end Go.Proofs.YtgpeaibhhonikaaGreatDoor

set_option linter.unusedSimpArgs false
set_option linter.unusedVariables false
namespace Go.Proofs.YtgpeaibhhonikaaGreatDoor
open Go Go.Lg Go.RowKit
set_option linter.unusedVariables false
set_option linter.unusedSimpArgs false
set_option maxRecDepth 20000

theorem rregs_ret : ∀ (d : Nat) (t : RT), d ≤ 100 → deepB d t = false → PRet Tryz.prog 19 [.agg t.cells] (encL cI (regS t)) := by
  intro d
  induction d with
  | zero => intro t _ h; exact (deep_zero h).elim
  | succ d ih =>
    intro t hd h
    obtain ⟨he, hr, hc⟩ := deep_succ h
    have ol0 := own_len t.kind t.regions
    have ol4 := own_len 4 t.regions
    have ol5 := own_len 5 t.regions
    refine pret_intro_l fd19 (by simp) ?_
    by_cases hp : 0 < t.elem.length
    · have hp' : (0 : Int) < t.elem.length := by omega
      have hrl := reg_len d _ (hc _ (List.getElem_mem hp))
      have hf := rt_first hp
      have key : regS t = ownS t.kind t.regions ++ if isRef t.kind = true then regS t.elem[0] else [] := by rw [regS_eq, regH_pos hp]
      simp only [lc19, VCA, simprocAttr, encL, MCA]
      repeat' (first | refine condDn_of (fun h => ?_) (fun h => ?_) <;> simp only [VCA, simprocAttr, encL, MCA, h, hp, hp', hf, li_cat] | refine condD_of (fun h => ?_) (fun h => ?_) <;> simp only [VCA, simprocAttr, encL, MCA, h, hp, hp', hf, li_cat] | refine condVn_of (fun h => ?_) (fun h => ?_) <;> simp only [VCA, simprocAttr, encL, MCA, h, hp, hp', hf, li_cat] | refine condV_of (fun h => ?_) (fun h => ?_) <;> simp only [VCA, simprocAttr, encL, MCA, h, hp, hp', hf, li_cat] | refine gdDn_of (fun h => ?_) (fun h => ?_) <;> simp only [VCA, simprocAttr, encL, MCA, h, hp, hp', hf, li_cat] | refine gdD_of (fun h => ?_) (fun h => ?_) <;> simp only [VCA, simprocAttr, encL, MCA, h, hp, hp', hf, li_cat] | refine gdVMn_of (fun h => ?_) (fun h => ?_) <;> simp only [VCA, simprocAttr, encL, MCA, h, hp, hp', hf, li_cat] | refine gdVM_of (fun h => ?_) (fun h => ?_) <;> simp only [VCA, simprocAttr, encL, MCA, h, hp, hp', hf, li_cat] | refine gpDn_of (fun h => ?_) (fun h => ?_) <;> simp only [VCA, simprocAttr, encL, MCA, h, hp, hp', hf, li_cat] | refine gpD_of (fun h => ?_) (fun h => ?_) <;> simp only [VCA, simprocAttr, encL, MCA, h, hp, hp', hf, li_cat] | refine gdVn_of (fun h => ?_) (fun h => ?_) <;> simp only [VCA, simprocAttr, encL, MCA, h, hp, hp', hf, li_cat] | refine gdV_of (fun h => ?_) (fun h => ?_) <;> simp only [VCA, simprocAttr, encL, MCA, h, hp, hp', hf, li_cat] | refine callX_of (rown_ret t) (by first | exact Or.inr rfl | exact Or.inl rfl) ?_ <;> simp only [VCA, simprocAttr, encL, MCA, hp, hp', hf, li_cat] | refine callX_of (ih t.elem[0] (by omega) (hc _ (List.getElem_mem hp))) (by first | exact Or.inr rfl | exact Or.inl rfl) ?_ <;> simp only [VCA, simprocAttr, encL, MCA, hp, hp', hf, li_cat] | (unfold InI64; omega) | refine And.intro ?_ ?_)
      all_goals clear hf hc ih
      all_goals first
        | omega
        | (simp [key, isRef, *]; done)
        | (simp_all [ownS, isRef]; done)
        | trace_state
    · have hp' : ¬ (0 : Int) < t.elem.length := by omega
      have key : regS t = ownS t.kind t.regions := by
        rw [regS_eq]
        cases he : t.elem with
        | nil => simp [regH]
        | cons x l => rw [he] at hp; simp at hp
      simp only [lc19, VCA, simprocAttr, encL, MCA]
      repeat' (first | refine condDn_of (fun h => ?_) (fun h => ?_) <;> simp only [VCA, simprocAttr, encL, MCA, h, hp', li_cat] | refine condD_of (fun h => ?_) (fun h => ?_) <;> simp only [VCA, simprocAttr, encL, MCA, h, hp', li_cat] | refine condVn_of (fun h => ?_) (fun h => ?_) <;> simp only [VCA, simprocAttr, encL, MCA, h, hp', li_cat] | refine condV_of (fun h => ?_) (fun h => ?_) <;> simp only [VCA, simprocAttr, encL, MCA, h, hp', li_cat] | refine gdDn_of (fun h => ?_) (fun h => ?_) <;> simp only [VCA, simprocAttr, encL, MCA, h, hp', li_cat] | refine gdD_of (fun h => ?_) (fun h => ?_) <;> simp only [VCA, simprocAttr, encL, MCA, h, hp', li_cat] | refine gdVMn_of (fun h => ?_) (fun h => ?_) <;> simp only [VCA, simprocAttr, encL, MCA, h, hp', li_cat] | refine gdVM_of (fun h => ?_) (fun h => ?_) <;> simp only [VCA, simprocAttr, encL, MCA, h, hp', li_cat] | refine gpDn_of (fun h => ?_) (fun h => ?_) <;> simp only [VCA, simprocAttr, encL, MCA, h, hp', li_cat] | refine gpD_of (fun h => ?_) (fun h => ?_) <;> simp only [VCA, simprocAttr, encL, MCA, h, hp', li_cat] | refine gdVn_of (fun h => ?_) (fun h => ?_) <;> simp only [VCA, simprocAttr, encL, MCA, h, hp', li_cat] | refine gdV_of (fun h => ?_) (fun h => ?_) <;> simp only [VCA, simprocAttr, encL, MCA, h, hp', li_cat] | refine callX_of (rown_ret t) (by first | exact Or.inr rfl | exact Or.inl rfl) ?_ <;> simp only [VCA, simprocAttr, encL, MCA, hp', li_cat] | (unfold InI64; omega) | refine And.intro ?_ ?_)
      all_goals clear hc ih
      all_goals first
        | omega
        | (simp [key, isRef, *]; done)
        | (simp_all [ownS, isRef]; done)
        | trace_state

def allZ (p : RT → RT → Bool) : List RT → List RT → Bool
  | x :: l, y :: m => p x y && allZ p l m
  | _, _ => true
theorem sameL_z : ∀ (l m : List RT), sameL l m = (decide (l.length = m.length) && allZ sameB l m)
  | [], [] => rfl
  | [], y :: m => by simp [sameL, allZ]
  | x :: l, [] => by simp [sameL, allZ]
  | x :: l, y :: m => by
    rw [sameL, sameL_z l m, allZ]
    simp only [List.length_cons, Nat.add_right_cancel_iff]
    cases sameB x y <;> simp
theorem exL_z : ∀ (l m : List RT), exL l m = (decide (l.length = m.length) && allZ exB l m)
  | [], [] => rfl
  | [], y :: m => by simp [exL, allZ]
  | x :: l, [] => by simp [exL, allZ]
  | x :: l, y :: m => by
    rw [exL, exL_z l m, allZ]
    simp only [List.length_cons, Nat.add_right_cancel_iff]
    cases exB x y <;> simp
theorem allZ_drop (p : RT → RT → Bool) {l m : List RT} {k : Nat} (hl : k < l.length) (hm : k < m.length) : allZ p (l.drop k) (m.drop k) = (p l[k] m[k] && allZ p (l.drop (k + 1)) (m.drop (k + 1))) := by
  rw [List.drop_eq_getElem_cons hl, List.drop_eq_getElem_cons hm, allZ]

theorem eqf_ret (l m : List RT) (g : FuncId) (p : RT → RT → Bool) (hl : l.length ≤ 1000000) (hf : ∀ x ∈ l, ∀ y ∈ m, PRet Tryz.prog g [.agg x.cells, .agg y.cells] (.bool (p x y))) :
    PRet Tryz.prog 61 [encL RT.cells l, encL RT.cells m, .fn g []] (.bool (decide (l.length = m.length) && allZ p l m)) := by
  refine pret_intro fd61 (by simp) ?_
  simp only [lc61, VCA, simprocAttr, encL, MCA]
  cases b0 : decide ((l.length : Int) = m.length) <;> simp only [VCA, simprocAttr, encL, MCA, b0]
  · have : decide (l.length = m.length) = false := decide_eq_false (by have := of_decide_eq_false b0; omega)
    rw [this, Bool.false_and]
  have hlm : l.length = m.length := by have := of_decide_eq_true b0; omega
  refine loop_vcg (ι := Nat × (Nat → Nat)) (fun (k, c) => stO [(1, .val (encL RT.cells m)), (2, .val (.fn g [])), (15, .val (encL RT.cells l)), (16, .val (.int .i64 l.length)), (17, .val (.int .i64 k))] c)
    (fun (k, _) => k ≤ l.length ∧ allZ p (l.drop k) (m.drop k) = allZ p l m) (fun (k, _) => l.length - k) (0, _) ⟨Nat.zero_le _, rfl⟩ (ent_of _ [] rfl rfl (by simp only [VCA, simprocAttr, encL, MCA])) ?_
  rintro ⟨k, c⟩ hk
  obtain ⟨hk, hb⟩ : k ≤ l.length ∧ allZ p (l.drop k) (m.drop k) = allZ p l m := hk
  simp only [VCA, simprocAttr, encL, MCA]
  refine condD_of (fun h => ?_) (fun h => ?_)
  · have ha' : k < l.length := by omega
    have hb' : k < m.length := by omega
    have i1 : 0 ≤ (k : Int) ∧ (k : Int) < l.length := by omega
    have i2 : 0 ≤ (k : Int) ∧ (k : Int) < m.length := by omega
    have i3 : InI64 ((k : Int) + 1) := by unfold InI64; omega
    rw [allZ_drop p ha' hb'] at hb
    simp only [VCA, simprocAttr, encL, MCA, ha', hb', i1, i2]
    refine callX_of (hf _ (List.getElem_mem ha') _ (List.getElem_mem hb')) (.inr rfl) ?_
    simp only [VCA, simprocAttr, encL, MCA]
    cases b1 : p l[k] m[k] <;> simp only [VCA, simprocAttr, encL, MCA, b1, i3]
    · rw [b1, Bool.false_and] at hb
      rw [← hb, Bool.and_false]
    · rw [b1, Bool.true_and] at hb
      exact backTo_of (k + 1, _) ⟨ha', hb⟩ (by simp only []; omega) (ent_of _ [] rfl rfl (by simp only [VCA, simprocAttr, encL, MCA]))
  · have hk' : k = l.length := by omega
    subst hk'
    rw [List.drop_length] at hb
    simp only [VCA, simprocAttr, encL, MCA]
    rw [← hb, decide_eq_true hlm]; rfl

theorem str_eq (a b : ByteArray) : (a.toList == b.toList) = decide (a = b) := by
  rw [ByteArray.toList_eq, ByteArray.toList_eq, Bool.eq_iff_iff]
  simp only [beq_iff_eq, decide_eq_true_eq]
  constructor
  · intro h
    cases a; cases b
    simp only at h
    congr 1
    exact Array.toList_inj.1 h
  · rintro rfl; rfl
theorem str_ne (a b : ByteArray) : (a.toList != b.toList) = !decide (a = b) := by rw [bne, str_eq]
theorem len_dec (a b : Nat) : decide ((a : Int) = b) = decide (a = b) := by rw [Bool.eq_iff_iff, decide_eq_true_eq, decide_eq_true_eq]; omega

theorem same_ret : ∀ (d : Nat) (a b : RT), d ≤ 100 → deepB d a = false → PRet Tryz.prog 32 [.agg a.cells, .agg b.cells] (.bool (sameB a b)) := by
  intro d
  induction d with
  | zero => intro t _ _ h; exact (deep_zero h).elim
  | succ d ih =>
    intro a b hd h
    obtain ⟨he, hr, hc⟩ := deep_succ h
    refine pret_intro fd32 (by simp) ?_
    have h5 := eqf_ret a.elem b.elem 32 sameB (by omega) (fun x hx y hy => ih x y (by omega) (hc x hx))
    simp only [lc32, VCA, simprocAttr, encL, MCA, str_eq, len_dec]
    cases b1 : decide (a.kind = b.kind) <;> simp only [VCA, simprocAttr, encL, MCA, b1, str_eq, len_dec]
    · rw [sameB_eq, b1, Bool.false_and]
    cases b2 : decide (a.name = b.name) <;> simp only [VCA, simprocAttr, encL, MCA, b2, str_eq, len_dec]
    · rw [sameB_eq, b1, b2]; rfl
    cases b3 : decide (a.regions.length = b.regions.length) <;> simp only [VCA, simprocAttr, encL, MCA, b3, str_eq, len_dec]
    · rw [sameB_eq, b1, b2, b3]; rfl
    refine callX_of h5 (.inr rfl) ?_
    simp only [VCA, simprocAttr, encL, MCA]
    rw [sameB_eq, b1, b2, b3, sameL_z]; rfl

theorem rsame_ret : ∀ (d : Nat) (a b : RT), d ≤ 100 → deepB d a = false → PRet Tryz.prog 33 [.agg a.cells, .agg b.cells] (.bool (sameB a b)) := by
  intro d
  induction d with
  | zero => intro t _ _ h; exact (deep_zero h).elim
  | succ d ih =>
    intro a b hd h
    obtain ⟨he, hr, hc⟩ := deep_succ h
    refine pret_intro fd33 (by simp) ?_
    simp only [lc33, VCA, simprocAttr, encL, MCA, str_eq, str_ne, len_dec]
    cases b1 : decide (a.kind = b.kind) <;> simp only [VCA, simprocAttr, encL, MCA, b1, str_eq, str_ne, len_dec]
    · rw [sameB_eq, b1, Bool.false_and]
    cases b2 : decide (a.name = b.name) <;> simp only [VCA, simprocAttr, encL, MCA, b2, str_eq, str_ne, len_dec]
    · rw [sameB_eq, b1, b2]; rfl
    cases b3 : decide (a.regions.length = b.regions.length) <;> simp only [VCA, simprocAttr, encL, MCA, b3, str_eq, str_ne, len_dec]
    · rw [sameB_eq, b1, b2, b3]; rfl
    cases b4 : decide (a.elem.length = b.elem.length) <;> simp only [VCA, simprocAttr, encL, MCA, b4, str_eq, str_ne, len_dec]
    · rw [sameB_eq, b1, b2, b3, sameL_z, b4]; rfl
    have hlm : a.elem.length = b.elem.length := of_decide_eq_true b4
    refine loop_vcg (ι := Nat × (Nat → Nat)) (fun (k, c) => stO [(2, .box a.cells), (3, .box b.cells), (5, .val (.int .i64 k))] c)
      (fun (k, _) => k ≤ a.elem.length ∧ allZ sameB (a.elem.drop k) (b.elem.drop k) = allZ sameB a.elem b.elem) (fun (k, _) => a.elem.length - k) (0, _) ⟨Nat.zero_le _, rfl⟩ (ent_of _ [] rfl rfl (by simp only [VCA, simprocAttr, encL, MCA])) ?_
    rintro ⟨k, c⟩ hk
    obtain ⟨hk, hb⟩ : k ≤ a.elem.length ∧ allZ sameB (a.elem.drop k) (b.elem.drop k) = allZ sameB a.elem b.elem := hk
    simp only [VCA, simprocAttr, encL, MCA]
    refine condD_of (fun h => ?_) (fun h => ?_)
    · have ha' : k < a.elem.length := by omega
      have hb' : k < b.elem.length := by omega
      have i1 : 0 ≤ (k : Int) ∧ (k : Int) < a.elem.length := by omega
      have i2 : 0 ≤ (k : Int) ∧ (k : Int) < b.elem.length := by omega
      have i3 : InI64 ((k : Int) + 1) := by unfold InI64; omega
      rw [allZ_drop sameB ha' hb'] at hb
      simp only [VCA, simprocAttr, encL, MCA, ha', hb', i1, i2]
      refine callV_of (ih _ (b.elem[k]) (by omega) (hc _ (List.getElem_mem ha'))) (.inr rfl) ?_
      simp only [VCA, simprocAttr, encL, MCA]
      cases c1 : sameB a.elem[k] b.elem[k] <;> simp only [VCA, simprocAttr, encL, MCA, c1, i3]
      · rw [c1, Bool.false_and] at hb
        rw [sameB_eq, b1, b2, b3, sameL_z, ← hb, Bool.and_false]; rfl
      · rw [c1, Bool.true_and] at hb
        exact backTo_of (k + 1, _) ⟨ha', hb⟩ (by simp only []; omega) (ent_of _ [] rfl rfl (by simp only [VCA, simprocAttr, encL, MCA]))
    · have hk' : k = a.elem.length := by omega
      subst hk'
      rw [List.drop_length] at hb
      simp only [VCA, simprocAttr, encL, MCA]
      rw [sameB_eq, b1, b2, b3, sameL_z, b4, ← hb]; rfl
end Go.Proofs.YtgpeaibhhonikaaGreatDoor

set_option linter.unusedSimpArgs false
set_option linter.unusedVariables false
namespace Go.Proofs.YtgpeaibhhonikaaGreatDoor
open Go Go.Lg Go.RowKit
set_option linter.unusedVariables false
set_option linter.unusedSimpArgs false
set_option maxRecDepth 20000

theorem take_map_succ {α β : Type} (f : α → β) {l : List α} {k : Nat} (h : k < l.length) : (l.take k).map f ++ [f l[k]] = (l.take (k + 1)).map f := by
  rw [List.take_succ_eq_append_getElem h, List.map_append]; rfl
theorem mapR_in {m : List Int} {x : Int} (h0 : 0 ≤ x) (h1 : x < m.length) : mapR m x = m[x.toNat]'(by omega) := by
  unfold mapR
  rw [if_pos ⟨h0, h1⟩, List.getD_eq_getElem?_getD, List.getElem?_eq_getElem (by omega)]; rfl
theorem mapR_out {m : List Int} {x : Int} (h : ¬ (0 ≤ x ∧ x < m.length)) : mapR m x = x := by
  unfold mapR
  rw [if_neg h]

theorem ld4_0 (a b c d : V) : ldV false 1 [a, b, c, d] 0 = some a := rfl
theorem ld4_1 (a b c d : V) : ldV false 1 [a, b, c, d] 1 = some b := rfl
theorem ld4_2 (a b c d : V) : ldV false 1 [a, b, c, d] 2 = some c := rfl
theorem ld4_3 (a b c d : V) : ldV false 1 [a, b, c, d] 3 = some d := rfl
theorem ld4_a (a b c d : V) : ldV true 4 [a, b, c, d] 0 = some (.agg [a, b, c, d]) := rfl
theorem sc4_2 (a b c d x : V) : setCells [a, b, c, d] 2 [x] = [a, b, x, d] := rfl
theorem sc4_3 (a b c d x : V) : setCells [a, b, c, d] 3 [x] = [a, b, c, x] := rfl
theorem sc4_a (a b c d w x y z : V) : setCells [a, b, c, d] 0 [w, x, y, z] = [w, x, y, z] := rfl
theorem rt_take {l : List RT} {n : Nat} (h : l.length * 4 ≤ n) : (l.flatMap RT.cells).take n = l.flatMap RT.cells := List.take_of_length_le (by rw [rt_len]; exact h)
theorem subst_ret (m : List Int) (hm : m.length ≤ 1000) : ∀ (d : Nat) (t : RT), d ≤ 100 → deepB d t = false → PRet Tryz.prog 28 [.agg t.cells, encL cI m] (.agg (substS m t).cells) := by
  intro d
  induction d with
  | zero => intro t _ h; exact (deep_zero h).elim
  | succ d ih =>
    intro t hd h
    obtain ⟨he, hr, hc⟩ := deep_succ h
    refine pret_intro fd28 (by simp) ?_
    simp only [lc28, VCA, simprocAttr, encL, MCA]
    have e0 : setCells (setCells [V.int IntKind.i64 0, V.str { data := #[] }, V.e0, V.e0] 0 [V.int IntKind.i64 t.kind]) 1 [V.str t.name] = [.int .i64 t.kind, .str t.name, .e0, .e0] := rfl
    simp only [e0, VCA, simprocAttr, encL, MCA]
    refine loop_vcg (ι := (Nat × List Int) × (Nat → Nat)) (fun y => stO [(1, .val (encL cI m)), (2, .box t.cells), (4, .box [.int .i64 0, .str ⟨#[]⟩, .e0, .e0]), (5, .boxG [.int .i64 t.kind, .str t.name] 1 y.1.2.length (y.1.2.flatMap cI) [.e0]), (16, .val (encL cI t.regions)), (17, .val (.int .i64 t.regions.length)), (18, .val (.int .i64 y.1.1))] y.2)
      (fun y => y.1.1 ≤ t.regions.length ∧ y.1.2 = (t.regions.take y.1.1).map (mapR m)) (fun y => t.regions.length - y.1.1) ((0, []), _) ⟨Nat.zero_le _, rfl⟩ (ent_of _ [] rfl rfl (by simp only [VCA, simprocAttr, encL, MCA, List.flatMap_nil])) ?_
    rintro ⟨⟨k, R⟩, c⟩ hk
    obtain ⟨hk, hR⟩ : k ≤ t.regions.length ∧ R = (t.regions.take k).map (mapR m) := hk
    have hRl : R.length = k := by rw [hR, List.length_map, List.length_take]; omega
    simp only [VCA, simprocAttr, encL, MCA]
    refine condD_of (fun h => ?_) (fun h => ?_)
    · have ha' : k < t.regions.length := by omega
      have i1 : 0 ≤ (k : Int) ∧ (k : Int) < t.regions.length := by omega
      have i3 : InI64 ((k : Int) + 1) := by unfold InI64; omega
      simp only [VCA, simprocAttr, encL, MCA, ha', i1]
      have hRs : R ++ [mapR m t.regions[k]] = (t.regions.take (k + 1)).map (mapR m) := by rw [hR, take_map_succ _ ha']
      cases b1 : decide (0 ≤ t.regions[k]) <;> simp only [VCA, simprocAttr, encL, MCA, b1, ld4_0, ld4_1, ld4_2, ld4_3, ld4_a, sc4_2, sc4_3, sc4_a, i3]
      · have hx : mapR m t.regions[k] = t.regions[k] := mapR_out (by have := of_decide_eq_false b1; omega)
        rw [hx] at hRs
        refine ⟨⟨by omega, by omega⟩, backTo_of ((k + 1, R ++ [t.regions[k]]), _) ⟨ha', hRs⟩ (by simp only []; omega) (ent_of _ [] rfl rfl (by simp only [VCA, simprocAttr, encL, MCA, ld4_0, ld4_1, ld4_2, ld4_3, ld4_a, sc4_2, sc4_3, sc4_a]; decide))⟩
      · cases b2 : decide (t.regions[k] < m.length) <;> simp only [VCA, simprocAttr, encL, MCA, b2, ld4_0, ld4_1, ld4_2, ld4_3, ld4_a, sc4_2, sc4_3, sc4_a, i3]
        · have hx : mapR m t.regions[k] = t.regions[k] := mapR_out (by have := of_decide_eq_false b2; omega)
          rw [hx] at hRs
          refine ⟨⟨by omega, by omega⟩, backTo_of ((k + 1, R ++ [t.regions[k]]), _) ⟨ha', hRs⟩ (by simp only []; omega) (ent_of _ [] rfl rfl (by simp only [VCA, simprocAttr, encL, MCA, ld4_0, ld4_1, ld4_2, ld4_3, ld4_a, sc4_2, sc4_3, sc4_a]; decide))⟩
        · obtain ⟨n, hn⟩ : ∃ n : Nat, t.regions[k] = n := ⟨t.regions[k].toNat, by have := of_decide_eq_true b1; omega⟩
          have hnm : n < m.length := by have := of_decide_eq_true b2; omega
          have i4 : 0 ≤ (n : Int) ∧ (n : Int) < m.length := by omega
          have hx : mapR m t.regions[k] = m[n] := by
            have e1 := mapR_in (m := m) (x := t.regions[k]) (by omega) (by omega)
            rw [e1]
            congr 1
            omega
          rw [hx] at hRs
          simp only [VCA, simprocAttr, encL, MCA, hn, i4, hnm, ld4_0, ld4_1, ld4_2, ld4_3, ld4_a, sc4_2, sc4_3, sc4_a, i3]
          refine ⟨⟨by omega, by omega⟩, backTo_of ((k + 1, R ++ [m[n]]), _) ⟨ha', hRs⟩ (by simp only []; omega) (ent_of _ [] rfl rfl (by simp only [VCA, simprocAttr, encL, MCA, ld4_0, ld4_1, ld4_2, ld4_3, ld4_a, sc4_2, sc4_3, sc4_a]; decide))⟩
    · have hk' : k = t.regions.length := by omega
      subst hk'
      rw [List.take_length] at hR
      simp only [VCA, simprocAttr, encL, MCA, ld4_0, ld4_1, ld4_2, ld4_3, ld4_a, sc4_2, sc4_3, sc4_a]
      refine loop_vcg (ι := (Nat × List RT) × (Nat → Nat)) (fun y => stO [(1, .val (encL cI m)), (4, .box [.int .i64 0, .str ⟨#[]⟩, .e0, .e0]), (5, .boxG [.int .i64 t.kind, .str t.name, .sl R.length (R.flatMap cI)] 4 y.1.2.length (y.1.2.flatMap RT.cells) []), (42, .val (encL RT.cells t.elem)), (43, .val (.int .i64 t.elem.length)), (44, .val (.int .i64 y.1.1))] y.2)
        (fun y => y.1.1 ≤ t.elem.length ∧ y.1.2 = (t.elem.take y.1.1).map (substS m)) (fun y => t.elem.length - y.1.1) ((0, []), _) ⟨Nat.zero_le _, rfl⟩ (ent_of _ [(4398046511109, 0)] rfl rfl (by simp only [VCA, simprocAttr, encL, MCA, ld4_0, ld4_1, ld4_2, ld4_3, ld4_a, sc4_2, sc4_3, sc4_a, List.flatMap_nil, List.mem_cons, List.not_mem_nil, or_false, or_true, true_or, false_or])) ?_
      rintro ⟨⟨j, E⟩, c⟩ hj
      obtain ⟨hj, hE⟩ : j ≤ t.elem.length ∧ E = (t.elem.take j).map (substS m) := hj
      have hEl : E.length = j := by rw [hE, List.length_map, List.length_take]; omega
      simp only [VCA, simprocAttr, encL, MCA, ld4_0, ld4_1, ld4_2, ld4_3, ld4_a, sc4_2, sc4_3, sc4_a]
      refine condD_of (fun h => ?_) (fun h => ?_)
      · have ha' : j < t.elem.length := by omega
        have i1 : 0 ≤ (j : Int) ∧ (j : Int) < t.elem.length := by omega
        have i3 : InI64 ((j : Int) + 1) := by unfold InI64; omega
        have hEs : E ++ [substS m t.elem[j]] = (t.elem.take (j + 1)).map (substS m) := by rw [hE, take_map_succ _ ha']
        simp only [VCA, simprocAttr, encL, MCA, ha', i1, ld4_0, ld4_1, ld4_2, ld4_3, ld4_a, sc4_2, sc4_3, sc4_a]
        refine callV_of (ih t.elem[j] (by omega) (hc _ (List.getElem_mem ha'))) (.inl rfl) ?_
        simp only [VCA, simprocAttr, encL, MCA, ha', i1, ld4_0, ld4_1, ld4_2, ld4_3, ld4_a, sc4_2, sc4_3, sc4_a, rt_app, i3]
        exact ⟨⟨rt_len E, by omega, by omega⟩, backTo_of ((j + 1, E ++ [substS m t.elem[j]]), _) ⟨ha', hEs⟩ (by simp only []; omega) (ent_of _ [] rfl rfl (by simp only [VCA, simprocAttr, encL, MCA, ld4_0, ld4_1, ld4_2, ld4_3, ld4_a, sc4_2, sc4_3, sc4_a, rt_snap, rt_app]; decide))⟩
      · have hj' : j = t.elem.length := by omega
        subst hj'
        rw [List.take_length] at hE
        simp only [VCA, simprocAttr, encL, MCA, ld4_0, ld4_1, ld4_2, ld4_3, ld4_a, sc4_2, sc4_3, sc4_a, rt_len, rt_snap, rt_take]
        rw [hR, hE, RT.cells_eq, substS_eq]
        simp only [RT.mkK, RT.mkN, RT.mkR, RT.mkE, substL_eq, encL]

theorem rsubst_ret (m : List Int) (hm : m.length ≤ 1000) : ∀ (d : Nat) (t : RT), d ≤ 100 → deepB d t = false → PRet Tryz.prog 25 [.agg t.cells, encL cI m] (.agg (substS m t).cells) := by
  intro d
  induction d with
  | zero => intro t _ h; exact (deep_zero h).elim
  | succ d ih =>
    intro t hd h
    obtain ⟨he, hr, hc⟩ := deep_succ h
    refine pret_intro fd25 (by simp) ?_
    simp only [lc25, VCA, simprocAttr, encL, MCA]
    have e0 : setCells (setCells [V.int IntKind.i64 0, V.str { data := #[] }, V.e0, V.e0] 0 [V.int IntKind.i64 t.kind]) 1 [V.str t.name] = [.int .i64 t.kind, .str t.name, .e0, .e0] := rfl
    simp only [e0, VCA, simprocAttr, encL, MCA]
    refine loop_vcg (ι := (Nat × List Int) × (Nat → Nat)) (fun y => stO [(1, .val (encL cI m)), (2, .box t.cells), (4, .box [.int .i64 0, .str ⟨#[]⟩, .e0, .e0]), (5, .boxG [.int .i64 t.kind, .str t.name] 1 y.1.2.length (y.1.2.flatMap cI) [.e0]), (6, .val (.int .i64 y.1.1))] y.2)
      (fun y => y.1.1 ≤ t.regions.length ∧ y.1.2 = (t.regions.take y.1.1).map (mapR m)) (fun y => t.regions.length - y.1.1) ((0, []), _) ⟨Nat.zero_le _, rfl⟩ (ent_of _ [] rfl rfl (by simp only [VCA, simprocAttr, encL, MCA, List.flatMap_nil])) ?_
    rintro ⟨⟨k, R⟩, c⟩ hk
    obtain ⟨hk, hR⟩ : k ≤ t.regions.length ∧ R = (t.regions.take k).map (mapR m) := hk
    have hRl : R.length = k := by rw [hR, List.length_map, List.length_take]; omega
    simp only [VCA, simprocAttr, encL, MCA]
    refine condD_of (fun h => ?_) (fun h => ?_)
    · have ha' : k < t.regions.length := by omega
      have i1 : 0 ≤ (k : Int) ∧ (k : Int) < t.regions.length := by omega
      have i3 : InI64 ((k : Int) + 1) := by unfold InI64; omega
      simp only [VCA, simprocAttr, encL, MCA, ha', i1]
      have hRs : R ++ [mapR m t.regions[k]] = (t.regions.take (k + 1)).map (mapR m) := by rw [hR, take_map_succ _ ha']
      cases b1 : decide (0 ≤ t.regions[k]) <;> simp only [VCA, simprocAttr, encL, MCA, b1, ld4_0, ld4_1, ld4_2, ld4_3, ld4_a, sc4_2, sc4_3, sc4_a, i3]
      · have hx : mapR m t.regions[k] = t.regions[k] := mapR_out (by have := of_decide_eq_false b1; omega)
        rw [hx] at hRs
        refine ⟨⟨by omega, by omega⟩, backTo_of ((k + 1, R ++ [t.regions[k]]), _) ⟨ha', hRs⟩ (by simp only []; omega) (ent_of _ [] rfl rfl (by simp only [VCA, simprocAttr, encL, MCA, ld4_0, ld4_1, ld4_2, ld4_3, ld4_a, sc4_2, sc4_3, sc4_a]; decide))⟩
      · cases b2 : decide (t.regions[k] < m.length) <;> simp only [VCA, simprocAttr, encL, MCA, b2, ld4_0, ld4_1, ld4_2, ld4_3, ld4_a, sc4_2, sc4_3, sc4_a, i3]
        · have hx : mapR m t.regions[k] = t.regions[k] := mapR_out (by have := of_decide_eq_false b2; omega)
          rw [hx] at hRs
          refine ⟨⟨by omega, by omega⟩, backTo_of ((k + 1, R ++ [t.regions[k]]), _) ⟨ha', hRs⟩ (by simp only []; omega) (ent_of _ [] rfl rfl (by simp only [VCA, simprocAttr, encL, MCA, ld4_0, ld4_1, ld4_2, ld4_3, ld4_a, sc4_2, sc4_3, sc4_a]; decide))⟩
        · obtain ⟨n, hn⟩ : ∃ n : Nat, t.regions[k] = n := ⟨t.regions[k].toNat, by have := of_decide_eq_true b1; omega⟩
          have hnm : n < m.length := by have := of_decide_eq_true b2; omega
          have i4 : 0 ≤ (n : Int) ∧ (n : Int) < m.length := by omega
          have hx : mapR m t.regions[k] = m[n] := by
            have e1 := mapR_in (m := m) (x := t.regions[k]) (by omega) (by omega)
            rw [e1]
            congr 1
            omega
          rw [hx] at hRs
          simp only [VCA, simprocAttr, encL, MCA, hn, i4, hnm, ld4_0, ld4_1, ld4_2, ld4_3, ld4_a, sc4_2, sc4_3, sc4_a, i3]
          refine ⟨⟨by omega, by omega⟩, backTo_of ((k + 1, R ++ [m[n]]), _) ⟨ha', hRs⟩ (by simp only []; omega) (ent_of _ [] rfl rfl (by simp only [VCA, simprocAttr, encL, MCA, ld4_0, ld4_1, ld4_2, ld4_3, ld4_a, sc4_2, sc4_3, sc4_a]; decide))⟩
    · have hk' : k = t.regions.length := by omega
      subst hk'
      rw [List.take_length] at hR
      simp only [VCA, simprocAttr, encL, MCA, ld4_0, ld4_1, ld4_2, ld4_3, ld4_a, sc4_2, sc4_3, sc4_a]
      refine loop_vcg (ι := (Nat × List RT) × (Nat → Nat)) (fun y => stO [(1, .val (encL cI m)), (2, .box t.cells), (4, .box [.int .i64 0, .str ⟨#[]⟩, .e0, .e0]), (5, .boxG [.int .i64 t.kind, .str t.name, .sl R.length (R.flatMap cI)] 4 y.1.2.length (y.1.2.flatMap RT.cells) []), (8, .val (.int .i64 y.1.1))] y.2)
        (fun y => y.1.1 ≤ t.elem.length ∧ y.1.2 = (t.elem.take y.1.1).map (substS m)) (fun y => t.elem.length - y.1.1) ((0, []), _) ⟨Nat.zero_le _, rfl⟩ (ent_of _ [(4398046511109, 0)] rfl rfl (by simp only [VCA, simprocAttr, encL, MCA, ld4_0, ld4_1, ld4_2, ld4_3, ld4_a, sc4_2, sc4_3, sc4_a, List.flatMap_nil, List.mem_cons, List.not_mem_nil, or_false, or_true, true_or, false_or])) ?_
      rintro ⟨⟨j, E⟩, c⟩ hj
      obtain ⟨hj, hE⟩ : j ≤ t.elem.length ∧ E = (t.elem.take j).map (substS m) := hj
      have hEl : E.length = j := by rw [hE, List.length_map, List.length_take]; omega
      simp only [VCA, simprocAttr, encL, MCA, ld4_0, ld4_1, ld4_2, ld4_3, ld4_a, sc4_2, sc4_3, sc4_a]
      refine condD_of (fun h => ?_) (fun h => ?_)
      · have ha' : j < t.elem.length := by omega
        have i1 : 0 ≤ (j : Int) ∧ (j : Int) < t.elem.length := by omega
        have i3 : InI64 ((j : Int) + 1) := by unfold InI64; omega
        have hEs : E ++ [substS m t.elem[j]] = (t.elem.take (j + 1)).map (substS m) := by rw [hE, take_map_succ _ ha']
        simp only [VCA, simprocAttr, encL, MCA, ha', i1, ld4_0, ld4_1, ld4_2, ld4_3, ld4_a, sc4_2, sc4_3, sc4_a]
        refine callV_of (ih t.elem[j] (by omega) (hc _ (List.getElem_mem ha'))) (.inl rfl) ?_
        simp only [VCA, simprocAttr, encL, MCA, ha', i1, ld4_0, ld4_1, ld4_2, ld4_3, ld4_a, sc4_2, sc4_3, sc4_a, rt_app, i3]
        exact ⟨⟨rt_len E, by omega, by omega⟩, backTo_of ((j + 1, E ++ [substS m t.elem[j]]), _) ⟨ha', hEs⟩ (by simp only []; omega) (ent_of _ [] rfl rfl (by simp only [VCA, simprocAttr, encL, MCA, ld4_0, ld4_1, ld4_2, ld4_3, ld4_a, sc4_2, sc4_3, sc4_a, rt_snap, rt_app]; decide))⟩
      · have hj' : j = t.elem.length := by omega
        subst hj'
        rw [List.take_length] at hE
        simp only [VCA, simprocAttr, encL, MCA, ld4_0, ld4_1, ld4_2, ld4_3, ld4_a, sc4_2, sc4_3, sc4_a, rt_len, rt_snap, rt_take]
        rw [hR, hE, RT.cells_eq, substS_eq]
        simp only [RT.mkK, RT.mkN, RT.mkR, RT.mkE, substL_eq, encL]
end Go.Proofs.YtgpeaibhhonikaaGreatDoor

set_option linter.unusedSimpArgs false
set_option linter.unusedVariables false
namespace Go.Proofs.YtgpeaibhhonikaaGreatDoor
open Go Go.Lg Go.RowKit
set_option linter.unusedVariables false
set_option linter.unusedSimpArgs false
set_option maxRecDepth 20000

theorem ex_not {a b : RT} (h : sameB a b = false) : exB a b = false := by
  cases he : exB a b with
  | false => rfl
  | true =>
    obtain rfl := (exB_iff a b).1 he
    rw [same_self] at h; cases h
theorem same_parts {a b : RT} (h : sameB a b = true) : a.kind = b.kind ∧ a.name = b.name ∧ a.regions.length = b.regions.length ∧ sameL a.elem b.elem = true := by
  rw [sameB_eq] at h
  simp only [Bool.and_eq_true, decide_eq_true_eq] at h
  exact h
theorem exact_ret : ∀ (d : Nat) (a b : RT), d ≤ 100 → deepB d a = false → PRet Tryz.prog 24 [.agg a.cells, .agg b.cells] (.bool (exB a b)) := by
  intro d
  induction d with
  | zero => intro t _ _ h; exact (deep_zero h).elim
  | succ d ih =>
    intro a b hd h
    obtain ⟨he, hr, hc⟩ := deep_succ h
    refine pret_intro fd24 (by simp) ?_
    simp only [lc24, VCA, simprocAttr, encL, MCA]
    refine callX_of (rsame_ret (d + 1) a b hd h) (.inr rfl) ?_
    simp only [VCA, simprocAttr, encL, MCA]
    cases hs : sameB a b <;> simp only [VCA, simprocAttr, encL, MCA, hs]
    · rw [ex_not hs]
    obtain ⟨s1, s2, s3, s4⟩ := same_parts hs
    have hel := sameL_len _ _ s4
    refine loop_vcg (ι := Nat × (Nat → Nat)) (fun (k, c) => stO [(2, .box a.cells), (3, .box b.cells), (5, .val (.int .i64 k))] c)
      (fun (k, _) => k ≤ a.regions.length ∧ decide (a.regions.drop k = b.regions.drop k) = decide (a.regions = b.regions)) (fun (k, _) => a.regions.length - k) (0, _) ⟨Nat.zero_le _, rfl⟩ (ent_of _ [] rfl rfl (by simp only [VCA, simprocAttr, encL, MCA])) ?_
    rintro ⟨k, c⟩ hk
    obtain ⟨hk, hb⟩ : k ≤ a.regions.length ∧ decide (a.regions.drop k = b.regions.drop k) = decide (a.regions = b.regions) := hk
    simp only [VCA, simprocAttr, encL, MCA]
    refine condD_of (fun h => ?_) (fun h => ?_)
    · have ha' : k < a.regions.length := by omega
      have hb' : k < b.regions.length := by omega
      have i1 : 0 ≤ (k : Int) ∧ (k : Int) < a.regions.length := by omega
      have i2 : 0 ≤ (k : Int) ∧ (k : Int) < b.regions.length := by omega
      have i3 : InI64 ((k : Int) + 1) := by unfold InI64; omega
      rw [List.drop_eq_getElem_cons ha', List.drop_eq_getElem_cons hb'] at hb
      simp only [VCA, simprocAttr, encL, MCA, ha', hb', i1, i2]
      cases c1 : decide (a.regions[k] = b.regions[k]) <;> simp only [VCA, simprocAttr, encL, MCA, c1, i3]
      · have : decide (a.regions = b.regions) = false := by
          rw [← hb]
          exact decide_eq_false (by intro e; injection e with e1; exact of_decide_eq_false c1 e1)
        rw [exB_eq, this]; simp
      · refine backTo_of (k + 1, _) ⟨ha', ?_⟩ (by simp only []; omega) (ent_of _ [] rfl rfl (by simp only [VCA, simprocAttr, encL, MCA]))
        have e := of_decide_eq_true c1
        rw [← hb, e, Bool.eq_iff_iff, decide_eq_true_eq, decide_eq_true_eq]
        exact ⟨fun q => congrArg _ q, fun q => by injection q⟩
    have hk' : k = a.regions.length := by omega
    subst hk'
    have hreg : a.regions = b.regions := by
      rw [List.drop_length, s3, List.drop_length] at hb
      exact of_decide_eq_true (by rw [← hb]; rfl)
    simp only [VCA, simprocAttr, encL, MCA]
    refine loop_vcg (ι := Nat × (Nat → Nat)) (fun (k, c) => stO [(2, .box a.cells), (3, .box b.cells), (6, .val (.int .i64 k))] c)
      (fun (k, _) => k ≤ a.elem.length ∧ allZ exB (a.elem.drop k) (b.elem.drop k) = allZ exB a.elem b.elem) (fun (k, _) => a.elem.length - k) (0, _) ⟨Nat.zero_le _, rfl⟩ (ent_of _ [] rfl rfl (by simp only [VCA, simprocAttr, encL, MCA])) ?_
    rintro ⟨k, c⟩ hk
    obtain ⟨hk, hb⟩ : k ≤ a.elem.length ∧ allZ exB (a.elem.drop k) (b.elem.drop k) = allZ exB a.elem b.elem := hk
    simp only [VCA, simprocAttr, encL, MCA]
    refine condD_of (fun h => ?_) (fun h => ?_)
    · have ha' : k < a.elem.length := by omega
      have hb' : k < b.elem.length := by omega
      have i1 : 0 ≤ (k : Int) ∧ (k : Int) < a.elem.length := by omega
      have i2 : 0 ≤ (k : Int) ∧ (k : Int) < b.elem.length := by omega
      have i3 : InI64 ((k : Int) + 1) := by unfold InI64; omega
      rw [allZ_drop exB ha' hb'] at hb
      simp only [VCA, simprocAttr, encL, MCA, ha', hb', i1, i2]
      refine callV_of (ih _ (b.elem[k]) (by omega) (hc _ (List.getElem_mem ha'))) (.inr rfl) ?_
      simp only [VCA, simprocAttr, encL, MCA]
      cases c1 : exB a.elem[k] b.elem[k] <;> simp only [VCA, simprocAttr, encL, MCA, c1, i3]
      · rw [c1, Bool.false_and] at hb
        rw [exB_eq, exL_z, ← hb]; simp
      · rw [c1, Bool.true_and] at hb
        exact backTo_of (k + 1, _) ⟨ha', hb⟩ (by simp only []; omega) (ent_of _ [] rfl rfl (by simp only [VCA, simprocAttr, encL, MCA]))
    · have hk' : k = a.elem.length := by omega
      subst hk'
      rw [List.drop_length] at hb
      simp only [VCA, simprocAttr, encL, MCA]
      rw [exB_eq, exL_z, decide_eq_true s1, decide_eq_true s2, decide_eq_true hreg, decide_eq_true hel, ← hb]; rfl

theorem lp_ld {l : List (Int × Int)} {k : Nat} (h : k < l.length) : ldV true 2 (l.flatMap cP) (k * 2) = some (.agg (cP l[k])) := by
  have := ld_flat0 (f := cP) cP_len (agg := true) h (n := 2) (by decide) (by decide)
  rw [this]; rfl
theorem cP_dec (p q : Int × Int) : decide (p = q) = (decide (p.1 = q.1) && decide (p.2 = q.2)) := by
  obtain ⟨a, b⟩ := p; obtain ⟨c, d⟩ := q
  rw [Bool.eq_iff_iff]; simp
theorem pairs_ret (l m : List (Int × Int)) (hl : l.length ≤ 10000000) : PRet Tryz.prog 36 [encL cP l, encL cP m] (.bool (decide (l = m))) := by
  refine pret_intro fd36 (by simp) ?_
  simp only [lc36, VCA, simprocAttr, encL, MCA, len_dec]
  cases b0 : decide (l.length = m.length) <;> simp only [VCA, simprocAttr, encL, MCA, b0, len_dec, lp_imv]
  · have : decide (l = m) = false := decide_eq_false (by rintro rfl; simp at b0)
    rw [this]
  have hab : l.length = m.length := of_decide_eq_true b0
  refine loop_vcg (ι := Nat × (Nat → Nat)) (fun (k, c) => stO [(0, .val (encL cP l)), (1, .val (encL cP m)), (5, .val (.int .i64 k))] c)
    (fun (k, _) => k ≤ l.length ∧ decide (l.drop k = m.drop k) = decide (l = m)) (fun (k, _) => l.length - k) (0, _) ⟨Nat.zero_le _, rfl⟩ (ent_of _ [] rfl rfl (by simp only [VCA, simprocAttr, encL, MCA, lp_imv])) ?_
  rintro ⟨k, c⟩ hk
  obtain ⟨hk, hb⟩ : k ≤ l.length ∧ decide (l.drop k = m.drop k) = decide (l = m) := hk
  simp only [VCA, simprocAttr, encL, MCA]
  refine condD_of (fun h => ?_) (fun h => ?_)
  · have ha' : k < l.length := by omega
    have hb' : k < m.length := by omega
    have i1 : 0 ≤ (k : Int) ∧ (k : Int) < l.length := by omega
    have i2 : 0 ≤ (k : Int) ∧ (k : Int) < m.length := by omega
    have i3 : InI64 ((k : Int) + 1) := by unfold InI64; omega
    rw [List.drop_eq_getElem_cons ha', List.drop_eq_getElem_cons hb'] at hb
    simp only [VCA, simprocAttr, encL, MCA, ha', hb', i1, i2, lp_ld, lp_imv]
    refine ⟨⟨rfl, rfl⟩, ?_⟩
    have e0 : eqInts (cP l[k]) (cP m[k]) = decide (l[k] = m[k]) := by
      rw [cP_dec]
      simp only [cP, eqInts, Bool.and_true]
      rfl
    rw [e0]
    cases c1 : decide (l[k] = m[k]) <;> simp only [VCA, simprocAttr, encL, MCA, c1, i3, lp_imv]
    · have : decide (l = m) = false := by
        rw [← hb]
        exact decide_eq_false (by intro e; injection e with e1; exact of_decide_eq_false c1 e1)
      rw [this]
    · refine backTo_of (k + 1, _) ⟨ha', ?_⟩ (by simp only []; omega) (ent_of _ [] rfl rfl (by simp only [VCA, simprocAttr, encL, MCA, lp_imv]))
      have e := of_decide_eq_true c1
      rw [← hb, e, Bool.eq_iff_iff, decide_eq_true_eq, decide_eq_true_eq]
      exact ⟨fun q => congrArg _ q, fun q => by injection q⟩
  · have hk' : k = l.length := by omega
    subst hk'
    rw [List.drop_length, hab, List.drop_length] at hb
    simp only [VCA, simprocAttr, encL, MCA, ← hb]
end Go.Proofs.YtgpeaibhhonikaaGreatDoor

set_option linter.unusedSimpArgs false
set_option linter.unusedVariables false
namespace Go.Proofs.YtgpeaibhhonikaaGreatDoor
open Go Go.Lg Go.RowKit
set_option linter.unusedVariables false
set_option linter.unusedSimpArgs false
set_option maxRecDepth 20000

theorem wellH_pos {q : List Int} {e : List RT} (h : 0 < e.length) : wellH q e = ((regS e[0]).flatMap fun a => q.map fun b => (a, b)) ++ wellS e[0] := by cases e with | nil => simp at h | cons x l => rfl
theorem wellH_none {q : List Int} {e : List RT} (h : e.length = 0) : wellH q e = [] := by rw [List.eq_nil_of_length_eq_zero h]; rfl
theorem flatMap_succ {α β : Type} (f : α → List β) {l : List α} {k : Nat} (h : k < l.length) : (l.take k).flatMap f ++ f l[k] = (l.take (k + 1)).flatMap f := by
  rw [List.take_succ_eq_append_getElem h, List.flatMap_append]; simp
theorem fl_len (Q O : List Int) (h : O.length ≤ 1) : ∀ k, ((Q.take k).flatMap fun q => O.map fun r => (q, r)).length ≤ k := by
  intro k
  have : ∀ l : List Int, (l.flatMap fun q => O.map fun r => (q, r)).length ≤ l.length := by
    intro l
    induction l with
    | nil => simp
    | cons x l ih => rw [List.flatMap_cons, List.length_append, List.length_map, List.length_cons]; omega
  have h1 := this (Q.take k)
  rw [List.length_take] at h1
  omega

theorem sc_20 (x y a b : V) : setCells [x, y] 0 [a, b] = [a, b] := rfl
theorem sc_0 (x a : V) (r : List V) : setCells (x :: r) 0 [a] = a :: r := rfl
theorem sc_1 (x y a : V) (r : List V) : setCells (x :: y :: r) 1 [a] = x :: a :: r := rfl
theorem lp_cat (l m : List (Int × Int)) : l.flatMap cP ++ m.flatMap cP = (l ++ m).flatMap cP := by rw [List.flatMap_append]
theorem lp_take {l : List (Int × Int)} {n : Nat} (h : l.length * 2 ≤ n) : (l.flatMap cP).take n = l.flatMap cP := List.take_of_length_le (by rw [lp_len]; exact h)
theorem well_ret : ∀ (d : Nat) (t : RT), d ≤ 100 → deepB d t = false → PRet Tryz.prog 18 [.agg t.cells] (encL cP (wellS t)) := by
  intro d
  induction d with
  | zero => intro t _ h; exact (deep_zero h).elim
  | succ d ih =>
    intro t hd h
    obtain ⟨he, hr, hc⟩ := deep_succ h
    refine pret_intro_l fdj18 (by simp) ?_
    simp only [lcj18, VCA, simprocAttr, encL, MCA]
    refine join_vcg (ι := Nat → Nat) (fun c => stO [(1, .box t.cells), (3, .own 2 0 [])] c) (fun _ => isRef t.kind = true) ?_ ?_
    · cases b1 : decide (t.kind = 5) <;> simp only [VCA, simprocAttr, encL, MCA, b1]
      · cases b2 : decide (t.kind = 4) <;> simp only [VCA, simprocAttr, encL, MCA, b2]
        · rw [wellS_eq, if_neg (by rw [isRef, b1, b2]; decide)]
          exact ⟨rfl, rfl⟩
        · exact joinTo_of _ (by rw [isRef, b2]; rfl) (ent_of _ [] rfl rfl (by simp only [VCA, simprocAttr, encL, MCA]))
      · exact joinTo_of _ (by rw [isRef, b1, Bool.or_true]) (ent_of _ [] rfl rfl (by simp only [VCA, simprocAttr, encL, MCA]))
    rintro c hk
    rw [wellS_eq, if_pos hk]
    simp only [VCA, simprocAttr, encL, MCA]
    refine condD_of (fun h0 => ?_) (fun h0 => ?_)
    · simp only [VCA, simprocAttr, encL, MCA]
      rw [wellH_none (by omega)]
      exact ⟨rfl, rfl⟩
    have hp : 0 < t.elem.length := by omega
    have hp' : (0 : Int) < t.elem.length := by omega
    have hf := rt_first hp
    have hx := hc _ (List.getElem_mem hp)
    have hrl := reg_len d _ hx
    have hwl := well_len d _ hx
    rw [wellH_pos hp]
    simp only [VCA, simprocAttr, encL, MCA, hp, hp', hf]
    refine callX_of (regs_ret d t.elem[0] (by omega) hx) (.inl rfl) ?_
    simp only [VCA, simprocAttr, encL, MCA]
    have hO : (t.regions.take 1).length ≤ 1 := by rw [List.length_take]; omega
    have hown := own_ret t
    generalize hQ : regS t.elem[0] = Q at *
    generalize hOO : t.regions.take 1 = O at *
    refine loop_vcg (ι := (Nat × List (Int × Int)) × (Nat → Nat)) (fun y => stO [(1, .box t.cells), (3, .own 2 y.1.2.length (y.1.2.flatMap cP)), (22, .val (encL cI Q)), (23, .val (.int .i64 Q.length)), (24, .val (.int .i64 y.1.1))] y.2)
      (fun y => y.1.1 ≤ Q.length ∧ y.1.2 = (Q.take y.1.1).flatMap fun a => O.map fun b => (a, b)) (fun y => Q.length - y.1.1) ((0, []), _) ⟨Nat.zero_le _, rfl⟩ (ent_of _ [] rfl rfl (by simp only [VCA, simprocAttr, encL, MCA, List.flatMap_nil])) ?_
    rintro ⟨⟨k, R⟩, c⟩ hk1
    obtain ⟨hk1, hR⟩ : k ≤ Q.length ∧ R = (Q.take k).flatMap fun a => O.map fun b => (a, b) := hk1
    have hRl : R.length ≤ k := by rw [hR]; exact fl_len Q O hO k
    simp only [VCA, simprocAttr, encL, MCA]
    refine condD_of (fun h => ?_) (fun h => ?_)
    · have ha' : k < Q.length := by omega
      have i1 : 0 ≤ (k : Int) ∧ (k : Int) < Q.length := by omega
      have i3 : InI64 ((k : Int) + 1) := by unfold InI64; omega
      have hRs : R ++ (O.map fun b => (Q[k], b)) = (Q.take (k + 1)).flatMap fun a => O.map fun b => (a, b) := by rw [hR]; exact flatMap_succ (fun a => O.map fun b => (a, b)) ha'
      simp only [VCA, simprocAttr, encL, MCA, ha', i1]
      refine callX_of hown (.inl rfl) ?_
      simp only [VCA, simprocAttr, encL, MCA]
      refine loop_vcg (ι := (Nat × List (Int × Int)) × (Nat → Nat)) (fun y => stO [(1, .box t.cells), (3, .own 2 y.1.2.length (y.1.2.flatMap cP)), (5, .val (.int .i64 Q[k])), (22, .val (encL cI Q)), (23, .val (.int .i64 Q.length)), (24, .val (.int .i64 k)), (29, .val (encL cI O)), (30, .val (.int .i64 O.length)), (31, .val (.int .i64 y.1.1))] y.2)
        (fun y => y.1.1 ≤ O.length ∧ y.1.2 = R ++ (O.take y.1.1).map fun b => (Q[k], b)) (fun y => O.length - y.1.1) ((0, R), _) ⟨Nat.zero_le _, by simp⟩ (ent_of _ [] rfl rfl (by simp only [VCA, simprocAttr, encL, MCA, lp_imv])) ?_
      rintro ⟨⟨j, W⟩, c⟩ hj
      obtain ⟨hj, hW⟩ : j ≤ O.length ∧ W = R ++ (O.take j).map fun b => (Q[k], b) := hj
      have hWl : W.length ≤ k + j := by rw [hW, List.length_append, List.length_map, List.length_take]; omega
      simp only [VCA, simprocAttr, encL, MCA]
      refine condD_of (fun h => ?_) (fun h => ?_)
      · have hj' : j < O.length := by omega
        have j1 : 0 ≤ (j : Int) ∧ (j : Int) < O.length := by omega
        have j3 : InI64 ((j : Int) + 1) := by unfold InI64; omega
        have hWs : W ++ [(Q[k], O[j])] = R ++ (O.take (j + 1)).map fun b => (Q[k], b) := by rw [hW, ← take_map_succ _ hj', List.append_assoc]
        simp only [VCA, simprocAttr, encL, MCA, hj', j1, j3, sc_20, sc_0, sc_1, lp_len, lp_app, lp_imv, lp_one, lp_sok]
        exact ⟨⟨by omega, by omega⟩, backTo_of ((j + 1, W ++ [(Q[k], O[j])]), _) ⟨hj', hWs⟩ (by simp only []; omega) (ent_of _ [] rfl rfl (by simp only [VCA, simprocAttr, encL, MCA, lp_imv, lp_len, lp_app]))⟩
      · have hj' : j = O.length := by omega
        subst hj'
        rw [List.take_length] at hW
        simp only [VCA, simprocAttr, encL, MCA, i3, lp_imv]
        exact backTo_of ((k + 1, W), _) ⟨ha', by rw [hW, hRs]⟩ (by simp only []; omega) (ent_of _ [] rfl rfl (by simp only [VCA, simprocAttr, encL, MCA, lp_imv]))
    · have hk' : k = Q.length := by omega
      subst hk'
      rw [List.take_length] at hR
      simp only [VCA, simprocAttr, encL, MCA, hp, hp', hf]
      refine callX_of (ih t.elem[0] (by omega) hx) (.inl rfl) ?_
      simp only [VCA, simprocAttr, encL, MCA, lp_len, lp_cat, lp_imv, lp_one, lp_snap, lp_take]
      have hwl' : (wellS t.elem[0]).length ≤ 700000 := Nat.le_trans hwl (Nat.mul_le_mul (Nat.mul_le_mul (Nat.le_refl 70) (show d ≤ 100 by omega)) (show d ≤ 100 by omega))
      rw [hR]
      rw [hR] at hRl
      exact ⟨⟨by omega, by omega⟩, rfl, rfl⟩

theorem ld_cI0' {l : List Int} (h : 0 < l.length) : ldV false 1 (l.flatMap cI) 0 = some (.int .i64 l[0]) := by
  cases l with
  | nil => simp at h
  | cons x l => rfl
theorem rwell_ret : ∀ (d : Nat) (t : RT), d ≤ 100 → deepB d t = false → PRet Tryz.prog 39 [.agg t.cells] (encL cP (wellS t)) := by
  intro d
  induction d with
  | zero => intro t _ h; exact (deep_zero h).elim
  | succ d ih =>
    intro t hd h
    obtain ⟨he, hr, hc⟩ := deep_succ h
    refine pret_intro_l fdj39 (by simp) ?_
    simp only [lcj39, VCA, simprocAttr, encL, MCA]
    refine join_vcg (ι := Nat → Nat) (fun c => stO [(1, .box t.cells), (3, .own 2 0 [])] c) (fun _ => isRef t.kind = true ∧ 0 < t.elem.length) ?_ ?_
    · cases b1 : decide (t.kind = 4) <;> simp only [VCA, simprocAttr, encL, MCA, b1]
      · cases b2 : decide (t.kind = 5) <;> simp only [VCA, simprocAttr, encL, MCA, b2]
        · rw [wellS_eq, if_neg (by rw [isRef, b1, b2]; decide)]
          exact ⟨rfl, rfl⟩
        · have hk : isRef t.kind = true := by rw [isRef, b2, Bool.or_true]
          cases b3 : decide ((t.elem.length : Int) = 0) <;> simp only [VCA, simprocAttr, encL, MCA, b3]
          · exact joinTo_of _ ⟨hk, by have := of_decide_eq_false b3; omega⟩ (ent_of _ [] rfl rfl (by simp only [VCA, simprocAttr, encL, MCA]))
          · rw [wellS_eq, if_pos hk, wellH_none (by have := of_decide_eq_true b3; omega)]
            exact ⟨rfl, rfl⟩
      · have hk : isRef t.kind = true := by rw [isRef, b1]; rfl
        cases b3 : decide ((t.elem.length : Int) = 0) <;> simp only [VCA, simprocAttr, encL, MCA, b3]
        · exact joinTo_of _ ⟨hk, by have := of_decide_eq_false b3; omega⟩ (ent_of _ [] rfl rfl (by simp only [VCA, simprocAttr, encL, MCA]))
        · rw [wellS_eq, if_pos hk, wellH_none (by have := of_decide_eq_true b3; omega)]
          exact ⟨rfl, rfl⟩
    rintro c ⟨hk, hp⟩
    rw [wellS_eq, if_pos hk]
    have hp' : (0 : Int) < t.elem.length := by omega
    have hf := rt_first hp
    have hx := hc _ (List.getElem_mem hp)
    have hrl := reg_len d _ hx
    have hwl := well_len d _ hx
    rw [wellH_pos hp]
    simp only [VCA, simprocAttr, encL, MCA, hp, hp', hf]
    refine callX_of (rregs_ret d t.elem[0] (by omega) hx) (.inl rfl) ?_
    simp only [VCA, simprocAttr, encL, MCA]
    have hO : (t.regions.take 1).length ≤ 1 := by rw [List.length_take]; omega
    generalize hQ : regS t.elem[0] = Q at *
    refine loop_vcg (ι := (Nat × List (Int × Int)) × (Nat → Nat)) (fun y => stO [(1, .box t.cells), (3, .own 2 y.1.2.length (y.1.2.flatMap cP)), (4, .val (encL cI Q)), (5, .val (.int .i64 y.1.1))] y.2)
      (fun y => y.1.1 ≤ Q.length ∧ y.1.2 = (Q.take y.1.1).flatMap fun a => (t.regions.take 1).map fun b => (a, b)) (fun y => Q.length - y.1.1) ((0, []), _) ⟨Nat.zero_le _, rfl⟩ (ent_of _ [] rfl rfl (by simp only [VCA, simprocAttr, encL, MCA, List.flatMap_nil])) ?_
    rintro ⟨⟨k, R⟩, c⟩ hk1
    obtain ⟨hk1, hR⟩ : k ≤ Q.length ∧ R = (Q.take k).flatMap fun a => (t.regions.take 1).map fun b => (a, b) := hk1
    have hRl : R.length ≤ k := by rw [hR]; exact fl_len Q _ hO k
    simp only [VCA, simprocAttr, encL, MCA]
    have hwl' : (wellS t.elem[0]).length ≤ 700000 := Nat.le_trans hwl (Nat.mul_le_mul (Nat.mul_le_mul (Nat.le_refl 70) (show d ≤ 100 by omega)) (show d ≤ 100 by omega))
    cases b4 : decide ((k : Int) < Q.length) <;> simp only [VCA, simprocAttr, encL, MCA, b4]
    · have hk' : k = Q.length := by have := of_decide_eq_false b4; omega
      subst hk'
      rw [List.take_length] at hR
      simp only [VCA, simprocAttr, encL, MCA, hp, hp', hf]
      refine callX_of (ih t.elem[0] (by omega) hx) (.inl rfl) ?_
      simp only [VCA, simprocAttr, encL, MCA, lp_len, lp_cat, lp_imv, lp_one, lp_snap, lp_take]
      rw [hR]
      rw [hR] at hRl
      exact ⟨⟨by omega, by omega⟩, rfl, rfl⟩
    · have ha' : k < Q.length := by have := of_decide_eq_true b4; omega
      cases b5 : decide ((0 : Int) < t.regions.length) <;> simp only [VCA, simprocAttr, encL, MCA, b5]
      · have hn : t.regions.take 1 = [] := by
          have := of_decide_eq_false b5
          rw [List.eq_nil_of_length_eq_zero (l := t.regions) (by omega)]; rfl
        have hz : ∀ l : List Int, (l.flatMap fun a => ([] : List Int).map fun b => (a, b)) = [] := by intro l; induction l with | nil => rfl | cons x l ih => rw [List.flatMap_cons, ih]; rfl
        rw [hn, hz] at hR
        subst hR
        rw [hn, hz]
        simp only [VCA, simprocAttr, encL, MCA, hp, hp', hf]
        refine callX_of (ih t.elem[0] (by omega) hx) (.inl rfl) ?_
        simp only [VCA, simprocAttr, encL, MCA, lp_len, lp_cat, lp_imv, lp_one, lp_snap, lp_take, List.nil_append]
        exact ⟨by omega, by omega⟩
      · have hb' : 0 < t.regions.length := by have := of_decide_eq_true b5; omega
        have i0 : (0 : Int) < t.regions.length := by omega
        have i1 : 0 ≤ (k : Int) ∧ (k : Int) < Q.length := by omega
        have i3 : InI64 ((k : Int) + 1) := by unfold InI64; omega
        have h1 : t.regions.take 1 = [t.regions[0]] := by
          rw [List.take_succ_eq_append_getElem hb']; rfl
        have hRs : R ++ [(Q[k], t.regions[0])] = (Q.take (k + 1)).flatMap fun a => (t.regions.take 1).map fun b => (a, b) := by
          rw [hR, ← flatMap_succ (fun a => (t.regions.take 1).map fun b => (a, b)) ha', h1]; rfl
        simp only [VCA, simprocAttr, encL, MCA, ha', hb', i0, i1, i3, ld_cI0', sc_20, sc_0, sc_1, lp_len, lp_app, lp_imv, lp_one, lp_sok]
        exact ⟨⟨by omega, by omega⟩, backTo_of ((k + 1, R ++ [(Q[k], t.regions[0])]), _) ⟨ha', hRs⟩ (by simp only []; omega) (ent_of _ [] rfl rfl (by simp only [VCA, simprocAttr, encL, MCA, lp_imv, lp_len, lp_app]))⟩
end Go.Proofs.YtgpeaibhhonikaaGreatDoor

set_option linter.unusedSimpArgs false
set_option linter.unusedVariables false
namespace Go.Proofs.YtgpeaibhhonikaaGreatDoor
open Go Go.Lg Go.RowKit
set_option linter.unusedVariables false
set_option linter.unusedSimpArgs false
set_option maxRecDepth 20000

theorem any_drop {α : Type} (p : α → Bool) (l : List α) (k : Nat) (h : k < l.length) : (l.drop k).any p = (p l[k] || (l.drop (k + 1)).any p) := by
  rw [List.drop_eq_getElem_cons h, List.any_cons]
theorem deep_ret : ∀ (d : Nat) (t : RT), t.ok → d ≤ 100 → PRet Tryz.prog 15 [.agg t.cells, .int .i64 d] (.bool (deepB d t)) := by
  intro d
  induction d with
  | zero =>
    intro t ht hd
    refine pret_intro fd15 (by simp) ?_
    simp only [lc15, VCA, simprocAttr, encL, MCA, Int.le_refl]
    simp [deepB]
  | succ d ih =>
    intro t ht hd
    rw [RT.ok_iff] at ht
    obtain ⟨_, _, ⟨hr, _⟩, he, hok⟩ := ht
    rw [maxLen_eq] at he
    refine pret_intro fd15 (by simp) ?_
    have h0 : ¬ (((d + 1 : Nat) : Int) ≤ 0) := by omega
    simp only [lc15, VCA, simprocAttr, encL, MCA, h0]
    repeat' (first | refine condDn_of (fun h => ?_) (fun h => ?_) <;> simp only [VCA, simprocAttr, encL, MCA, h] | refine condD_of (fun h => ?_) (fun h => ?_) <;> simp only [VCA, simprocAttr, encL, MCA, h] | refine condVn_of (fun h => ?_) (fun h => ?_) <;> simp only [VCA, simprocAttr, encL, MCA, h] | refine condV_of (fun h => ?_) (fun h => ?_) <;> simp only [VCA, simprocAttr, encL, MCA, h] | refine gdDn_of (fun h => ?_) (fun h => ?_) <;> simp only [VCA, simprocAttr, encL, MCA, h] | refine gdD_of (fun h => ?_) (fun h => ?_) <;> simp only [VCA, simprocAttr, encL, MCA, h] | refine gdVMn_of (fun h => ?_) (fun h => ?_) <;> simp only [VCA, simprocAttr, encL, MCA, h] | refine gdVM_of (fun h => ?_) (fun h => ?_) <;> simp only [VCA, simprocAttr, encL, MCA, h] | refine gpDn_of (fun h => ?_) (fun h => ?_) <;> simp only [VCA, simprocAttr, encL, MCA, h] | refine gpD_of (fun h => ?_) (fun h => ?_) <;> simp only [VCA, simprocAttr, encL, MCA, h] | refine gdVn_of (fun h => ?_) (fun h => ?_) <;> simp only [VCA, simprocAttr, encL, MCA, h] | refine gdV_of (fun h => ?_) (fun h => ?_) <;> simp only [VCA, simprocAttr, encL, MCA, h] | (unfold InI64; omega) | refine And.intro ?_ ?_)
    all_goals try (simp only [deepB, V.bool.injEq] ; simp ; omega)
    refine loop_vcg (ι := Nat × (Nat → Nat)) (fun (k, c) => stO [(2, .box t.cells), (1, .val (.int .i64 ((d + 1 : Nat) : Int))), (5, .val (.int .i64 k))] c)
      (fun (k, _) => k ≤ t.elem.length ∧ (t.elem.drop k).any (deepB d) = t.elem.any (deepB d)) (fun (k, _) => t.elem.length - k) (0, _) ⟨by omega, rfl⟩ (ent_of _ [] rfl rfl (by simp only [VCA, simprocAttr, encL, MCA])) ?_
    rintro ⟨k, c⟩ ⟨hk, hb⟩
    simp only [VCA, simprocAttr, encL, MCA]
    refine condD_of (fun h => ?_) (fun h => ?_)
    · have hk' : k < t.elem.length := by omega
      rw [any_drop _ _ _ hk'] at hb
      simp only [VCA, simprocAttr, encL, MCA, hk']
      refine ⟨by omega, by unfold InI64; omega, callX_of (ih _ (hok _ (List.getElem_mem hk')) (by omega)) (.inr rfl) ?_⟩
      simp only [VCA, simprocAttr, encL, MCA]
      repeat' (first | refine condDn_of (fun h => ?_) (fun h => ?_) <;> simp only [VCA, simprocAttr, encL, MCA, h] | refine condD_of (fun h => ?_) (fun h => ?_) <;> simp only [VCA, simprocAttr, encL, MCA, h] | refine condVn_of (fun h => ?_) (fun h => ?_) <;> simp only [VCA, simprocAttr, encL, MCA, h] | refine condV_of (fun h => ?_) (fun h => ?_) <;> simp only [VCA, simprocAttr, encL, MCA, h] | refine gdDn_of (fun h => ?_) (fun h => ?_) <;> simp only [VCA, simprocAttr, encL, MCA, h] | refine gdD_of (fun h => ?_) (fun h => ?_) <;> simp only [VCA, simprocAttr, encL, MCA, h] | refine gdVMn_of (fun h => ?_) (fun h => ?_) <;> simp only [VCA, simprocAttr, encL, MCA, h] | refine gdVM_of (fun h => ?_) (fun h => ?_) <;> simp only [VCA, simprocAttr, encL, MCA, h] | refine gpDn_of (fun h => ?_) (fun h => ?_) <;> simp only [VCA, simprocAttr, encL, MCA, h] | refine gpD_of (fun h => ?_) (fun h => ?_) <;> simp only [VCA, simprocAttr, encL, MCA, h] | refine gdVn_of (fun h => ?_) (fun h => ?_) <;> simp only [VCA, simprocAttr, encL, MCA, h] | refine gdV_of (fun h => ?_) (fun h => ?_) <;> simp only [VCA, simprocAttr, encL, MCA, h] | (unfold InI64; omega) | refine And.intro ?_ ?_)
      · rw [h] at hb
        simp only [deepB, ← hb]; simp
      · rw [h] at hb
        exact backTo_of (k + 1, _) ⟨by omega, hb⟩ (by simp only []; omega) (ent_of _ [] rfl rfl (by simp only [VCA, simprocAttr, encL, MCA]))
    · have hk' : k = t.elem.length := by omega
      subst hk'
      simp only [List.drop_length, List.any_nil] at hb
      simp only [VCA, simprocAttr, encL, MCA]
      simp only [deepB, ← hb]; simp; omega

end Go.Proofs.YtgpeaibhhonikaaGreatDoor
