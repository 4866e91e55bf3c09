/-
  ScopeKnown's law, whatever the world's choice: the part ahead of the choice reckoned, the choice by hand, then each of the cases reckoned.
-/
import Derived.Test.YtalihpfjkfeibaaGreatDoorEs
set_option linter.unusedSimpArgs false
set_option linter.unusedVariables false
namespace Go.Proofs.YtalihpfjkfeibaaGreatDoor
open Go Go.Lg Go.RowKit
set_option maxRecDepth 100000

noncomputable def sk0 : LC := lc3.l.lit
noncomputable def sk1 : LC := lc3.r.l.lit
noncomputable def sk2 : LC := lc3.r.r.l.lit
noncomputable def sk3 : LC := lc3.r.r.r.l.lit
def skOps : List LOp := [⟨some 16, .mov (.tmp 0), none⟩, ⟨some 17, .mov (.tmp 3), none⟩, ⟨some 18, .len false (.tmp 17), none⟩, ⟨some 19, .bin .rem (.tmp 16) (.tmp 18), none⟩, ⟨some 20, .mov (.tmp 3), none⟩, ⟨some 21, .len false (.tmp 20), none⟩, ⟨some 22, .bin .add (.tmp 19) (.tmp 21), none⟩, ⟨some 23, .mov (.tmp 3), none⟩, ⟨some 24, .len false (.tmp 23), none⟩, ⟨some 25, .bin .rem (.tmp 22) (.tmp 24), none⟩, ⟨some 6, .mov (.tmp 25), none⟩]
noncomputable def skR : LC := lc3.r.r.r.r.r.lit
noncomputable def sk : LC := .seq sk0 (.seq sk1 (.seq sk2 (.seq sk3 (.join (.rego 4 skOps) skR))))
theorem sk_fd : fnData Tryz.prog 3 = some (65, sk.erase, [LRV.tmp 2]) := fd3.trans (by kernel_rfl)
noncomputable def skC : Cl := clN tbY 60
noncomputable def sr0 (w : Int) : Rs := (comp sk0).run skC (frF [.int .i64 w] 0 .nil) .nil
noncomputable def sr1 (w : Int) : Rs := (comp sk1).run skC (nmT (sr0 w)) (nmH (sr0 w))
noncomputable def sr2 (w : Int) : Rs := (comp sk2).run skC (nmT (sr1 w)) (nmH (sr1 w))
noncomputable def sr3 (w : Int) : Rs := (comp sk3).run skC (nmT (sr2 w)) (nmH (sr2 w))
theorem n0 : ∀ w, isNm (sr0 w) = true := fun w => by kernel_rfl
theorem n1 : ∀ w, isNm (sr1 w) = true := fun w => by kernel_rfl
theorem n2 : ∀ w, isNm (sr2 w) = true := fun w => by kernel_rfl
theorem n3 : ∀ w, isNm (sr3 w) = true := fun w => by kernel_rfl
noncomputable def sH : Hq := nmH (sr3 0)
noncomputable def sT (w : Int) : Nat → V := tmQ (fun _ => .junk) (nmT (sr3 w))
theorem t0 : ∀ w, sT w 0 = .int .i64 w := fun w => by kernel_rfl
theorem t3 : ∀ w, sT w 3 = sT 0 3 := fun w => by kernel_rfl
theorem t3l : llen false (sT 0 3) = .A True (.int .i64 22) := by kernel_rfl
theorem t4 : ∀ w, sT w 4 = sT 0 4 := fun w => by kernel_rfl
theorem t5 : ∀ w, sT w 5 = sT 0 5 := fun w => by kernel_rfl
theorem tH : ∀ w, nmH (sr3 w) = sH := fun w => by kernel_rfl
noncomputable def skA (n : Int) : List V := [.junk, .junk, .junk, sT 0 3, sT 0 4, sT 0 5, .int .i64 n]
theorem sk_case (n : Nat) (e : okEnd (rvOf [LRV.tmp 2]) ((comp skR).run skC (frF (skA n) 0 .nil) sH) = true) : vcg Tryz.prog skR (retK [LRV.tmp 2] fun v σ => snap σ.H 8 v = .bool true) (denq (fun _ => .junk) (frF (skA n) 0 .nil) sH) :=
  comp_ok (clN_ok tbY_ok 60) skR (lit_kinds _) _ _ _ _ (okEnd_ok (by kernel_rfl) e)
noncomputable def skB (n : Nat) : Bool := okEnd (rvOf [LRV.tmp 2]) ((comp skR).run skC (frF (skA n) 0 .nil) sH)
theorem sk_all : (List.range 22).all skB = true := by kernel_rfl
end Go.Proofs.YtalihpfjkfeibaaGreatDoor
