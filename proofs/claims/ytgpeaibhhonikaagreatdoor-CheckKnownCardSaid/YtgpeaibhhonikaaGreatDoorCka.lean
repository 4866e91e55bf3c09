/-
  CheckKnown's law: the part ahead of the choice reckoned, for every argument; what is left for each case.
-/
import Derived.Test.YtgpeaibhhonikaaGreatDoorFt15
import Derived.Test.YtgpeaibhhonikaaGreatDoorFck
set_option linter.unusedSimpArgs false
set_option linter.unusedVariables false
namespace Go.Proofs.YtgpeaibhhonikaaGreatDoor
open Go Go.Lg Go.RowKit
set_option maxRecDepth 100000

noncomputable def tbY : Tq Fx := tbPut 45 (.ext (xNil (.bool true))) tbX
theorem tbY_ok : TbOk Tryz.prog tbY := tb_put tbX_ok (by kernel_rfl) (fx_nil told15_ret (by kernel_rfl))
noncomputable def sk0 : LC := lcs11.l.lit
noncomputable def sk1 : LC := lcs11.r.l.lit
noncomputable def sk2 : LC := lcs11.r.r.l.lit
noncomputable def sk3 : LC := lcs11.r.r.r.l.lit
def skOps : List LOp := [⟨some 17, .mov (.tmp 0), none⟩, ⟨some 18, .mov (.tmp 4), none⟩, ⟨some 19, .len false (.tmp 18), none⟩, ⟨some 20, .bin .rem (.tmp 17) (.tmp 19), none⟩, ⟨some 21, .mov (.tmp 4), none⟩, ⟨some 22, .len false (.tmp 21), none⟩, ⟨some 23, .bin .add (.tmp 20) (.tmp 22), none⟩, ⟨some 24, .mov (.tmp 4), none⟩, ⟨some 25, .len false (.tmp 24), none⟩, ⟨some 26, .bin .rem (.tmp 23) (.tmp 25), none⟩, ⟨some 6, .mov (.tmp 26), none⟩]
noncomputable def skR : LC := lcs11.r.r.r.r.r.lit
noncomputable def sk : LC := .seq sk0 (.seq sk1 (.seq sk2 (.seq sk3 (.join (.rego 4 skOps) skR))))
theorem sk_fd : fnData Tryz.prog 11 = some (68, sk.erase, [LRV.tmp 2]) := fds11.trans (by kernel_rfl)
noncomputable def skC : Cl := clN tbY 60
noncomputable def sr0 (w : Int) : Rs := (comp sk0).run skC (frF [.int .i64 w] 0 .nil) .nil
noncomputable def sr1 (w : Int) : Rs := (comp sk1).run skC (nmT (sr0 w)) (nmH (sr0 w))
noncomputable def sr2 (w : Int) : Rs := (comp sk2).run skC (nmT (sr1 w)) (nmH (sr1 w))
noncomputable def sr3 (w : Int) : Rs := (comp sk3).run skC (nmT (sr2 w)) (nmH (sr2 w))
theorem n0 : ∀ w, isNm (sr0 w) = true := fun w => by kernel_rfl
theorem n1 : ∀ w, isNm (sr1 w) = true := fun w => by kernel_rfl
theorem n2 : ∀ w, isNm (sr2 w) = true := fun w => by kernel_rfl
theorem n3 : ∀ w, isNm (sr3 w) = true := fun w => by kernel_rfl
noncomputable def sH : Hq := nmH (sr3 0)
noncomputable def sT (w : Int) : Nat → V := tmQ (fun _ => .junk) (nmT (sr3 w))
theorem t0 : ∀ w, sT w 0 = .int .i64 w := fun w => by kernel_rfl
theorem t3 : ∀ w, sT w 3 = sT 0 3 := fun w => by kernel_rfl
theorem t4l : llen false (sT 0 4) = .A True (.int .i64 33) := by kernel_rfl
theorem t4 : ∀ w, sT w 4 = sT 0 4 := fun w => by kernel_rfl
theorem t5 : ∀ w, sT w 5 = sT 0 5 := fun w => by kernel_rfl
theorem tH : ∀ w, nmH (sr3 w) = sH := fun w => by kernel_rfl
noncomputable def skA (n : Int) : List V := [.junk, .junk, .junk, sT 0 3, sT 0 4, sT 0 5, .int .i64 n]
theorem sk_case (n : Nat) (e : okEnd (rvOf [LRV.tmp 2]) ((comp skR).run skC (frF (skA n) 0 .nil) sH) = true) : vcg Tryz.prog skR (retK [LRV.tmp 2] fun v σ => snap σ.H 8 v = .bool true) (denq (fun _ => .junk) (frF (skA n) 0 .nil) sH) :=
  comp_ok (clN_ok tbY_ok 60) skR (lit_kinds _) _ _ _ _ (okEnd_ok (by kernel_rfl) e)
noncomputable def skB (n : Nat) : Bool := okEnd (rvOf [LRV.tmp 2]) ((comp skR).run skC (frF (skA n) 0 .nil) sH)
end Go.Proofs.YtgpeaibhhonikaaGreatDoor
