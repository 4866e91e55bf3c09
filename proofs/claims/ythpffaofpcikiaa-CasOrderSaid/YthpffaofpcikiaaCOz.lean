import Derived.Test.YthpffaofpcikiaaCOf
import Derived.Test.YthpffaofpcikiaaCOg
/-
  CasOrder, for every input: the law's function returns true, and its argument reads as it did. No condition but the statement's own.
-/
set_option linter.unusedSimpArgs false
set_option linter.unusedVariables false
namespace Go.Proofs.Ythpffaofpcikiaa
open Go Go.Lg Go.RowKit Go.ChangeShapes Go.WideShapes Go.ChangeAt
set_option linter.unusedVariables false

set_option maxRecDepth 100000 in
theorem casOrder_lifted (os : Os) (started : os.Started) (H : Type) (enc : TypeId × Value → H) :
    ReturnsInHanded {} Try.checked os 6 .any (Rows.casOrderSpec.pre6 enc Try.prog Try.f6 Rows.casOrderRow.domain false) (Rows.casOrderSpec.post enc Try.prog Try.f6 false true false false) := by
  refine returnsInHanded_sh (C := Try.checked) own started (by kernel_rfl) Try.func6
    (ChangeSpec.witness6 (enc := enc) (C := Try.checked) false ⟨#[], #[.slice none 0 0], []⟩ 8 (by kernel_rfl) (by kernel_rfl) (by kernel_rfl) (by kernel_rfl)) ?_
  intro W base args ds gs before hval0 hW hsh
  have hval : ∀ (j : Nat) t v, Try.f6.params[j]? = some t → args[j]? = some v → Value.okWide Try.prog W .any base t v := hval0
  have hW' := hW
  obtain ⟨p, q, hA0, hV, rfl, hfz, hnd⟩ := hW
  have hA : DataW.TrodAll enc Try.prog W 0 (fun _ => true) true Try.f6.params.toList args.toList ds p := hA0
  rw [Try.params6] at hA hval
  obtain ⟨v0, vs0, d0, ds0, p0, q0, hargs, rfl, rfl, h0, r0⟩ := trodAll_cons hA
  obtain ⟨rfl, rfl, rfl⟩ := trodAll_nil r0
  obtain rfl : args = #[v0] := by cases args; simp_all
  obtain ⟨rfl, rfl⟩ := trodVars_none hV
  have k0 := h0
  have lt0 : ∀ x ∈ p0, x.block < W.heap.size := by obtain ⟨m, hm⟩ := k0; exact DataW.trod_lt m _ _ _ hm
  obtain ⟨L, hL, hrep⟩ := arg_one tiles Try.underlying38 (.inr ⟨_, rfl⟩) (of_decide_eq_true (by kernel_rfl)) tyBytess (hval 0 38 v0 rfl rfl) h0
  clear hA0 hval0
  have hcall := (casOrder_ret L hL.1 hL.2).2 (· < W.heap.size) W #[v0] ⟨fun _ h => h, gokM hsh⟩ rfl (fun j u c hu hc => by
    match j, hu, hc with
    | 0, hu, hc => simp at hu hc; subst hu hc; exact hrep
    | j + 1, hu, _ => simp at hu)
  refine hcall.mono ?_
  rintro e W' ⟨u, imm', rfl, hu, bel, _, _⟩
  cases hu
  exact ⟨_, rfl, _, _, _, [], _, [], hW', trodAll_mk1 (shut_bool Try.underlying4 _), (trodAll_cons_mk (Below.trod laidOut (by kernel_rfl) (of_decide_eq_true (by kernel_rfl)) k0 bel.toBelow lt0) trodAll_mk0), rfl, bel.toBelow.frame _, fun h => by cases h⟩

theorem casOrder_holds : Rows.CasOrderSaid :=
  OpenClaim.holds_of_wide 6 Try.f6 rfl rfl rfl rfl rfl rfl rfl ⟨rfl, rfl, rfl, rfl, rfl⟩ rfl rfl rfl rfl rfl (by kernel_rfl) Try.func6 (by kernel_rfl)
    (of_decide_eq_true (by kernel_rfl)) (by unfold Func.isWrapper; first | (rw [if_pos (by decide +kernel)]; kernel_rfl) | (rw [if_neg (by decide +kernel)]; exact ⟨rfl, rfl⟩))
    (fun os started H enc _ => casOrder_lifted os started H enc)
#print axioms casOrder_holds
end Go.Proofs.Ythpffaofpcikiaa
