import Derived.Test.YtgpeaibhhonikaaGreatDoorCards
import Derived.Test.YtgpeaibhhonikaaGreatDoorTWb
import Derived.Test.YtgpeaibhhonikaaGreatDoorTWf
/-
  TypesWell, for every input: the law's function returns true, and its argument reads as it did; and its card.
-/
set_option linter.unusedSimpArgs false
set_option linter.unusedVariables false
namespace Go.Proofs.YtgpeaibhhonikaaGreatDoor
open Go Go.Lg Go.RowKit Go.ChangeShapes Go.WideShapes Go.ChangeAt
set_option linter.unusedVariables false

set_option maxRecDepth 100000 in
theorem typesWell_lifted (os : Os) (started : os.Started) (H : Type) (enc : TypeId × Value → H) :
    ReturnsInHanded {} Tryz.checked os 4 .any (fun w args => (Rows.typesWellSpec.pre enc Tryz.prog Tryz.f4 [] false w args ∧ laidMetH Tryz.prog Rows.typesWellRow.laid w) ∧ sizedMet enc Tryz.prog Tryz.f4 (OpenSpec.ofChange Rows.typesWellSpec) false w args)
      (Rows.typesWellSpec.post enc Tryz.prog Tryz.f4 false true false false) := by
  refine lifted_of (C := Tryz.checked) (X := fun w _ => laidMetH Tryz.prog Rows.typesWellRow.laid w) (fun _ _ _ hh h => h.of_heap hh) own started (by kernel_rfl) Tryz.func4
    (ChangeSpec.witness_at (enc := enc) (C := Tryz.checked) (os := os) (X := fun w _ => laidMetH Tryz.prog Rows.typesWellRow.laid w) false (laidWorld os) #[.agg #[.int .i64 0, .string ByteArray.empty, .slice none 0 0, .slice none 0 0]] 8 rfl (by kernel_rfl) (by kernel_rfl) (by kernel_rfl) (by kernel_rfl) (by kernel_rfl) (laidWorld_met os _)) ?_
  intro W base args ds gs before hval0 hW hL hsh
  have hval : ∀ (j : Nat) t v, Tryz.f4.params[j]? = some t → args[j]? = some v → Value.okWide Tryz.prog W .any base t v := hval0
  have hW' := hW
  obtain ⟨p, q, hA0, hV, rfl, hfz, hnd⟩ := hW
  have hA : DataW.TrodAll enc Tryz.prog W 0 (fun _ => true) true Tryz.f4.params.toList args.toList ds p := hA0
  rw [Tryz.params4] at hA hval
  obtain ⟨v0, vs0, d0, ds0, p0, q0, hargs, rfl, rfl, h0, r0⟩ := trodAll_cons hA
  obtain ⟨rfl, rfl, rfl⟩ := trodAll_nil r0
  obtain rfl : args = #[v0] := by cases args; simp_all
  obtain ⟨rfl, rfl⟩ := trodVars_none hV
  have k0 := h0
  have lt0 : ∀ x ∈ p0, x.block < W.heap.size := by obtain ⟨m, hm⟩ := k0; exact DataW.trod_lt m _ _ _ hm
  obtain ⟨x, hx, hrep⟩ := arg_agg tiles Tryz.underlying39 (of_decide_eq_true (by kernel_rfl)) tyRT (hval 0 39 v0 rfl rfl) h0
  clear hA0 hval0
  have hcall := (typesWell_ret x hx).2 (· < W.heap.size) W #[v0] ⟨fun _ h => h, gok hL hsh⟩ rfl (fun j u c hu hc => by
    match j, hu, hc with
    | 0, hu, hc => simp at hu hc; subst hu hc; exact hrep
    | j + 1, hu, _ => simp at hu)
  refine hcall.mono ?_
  rintro e W' ⟨u, imm', rfl, hu, bel, _, _⟩
  cases hu
  exact ⟨_, rfl, _, _, _, [], _, [], hW', trodAll_mk1 (shut_bool Tryz.underlying4 _), (trodAll_cons_mk (Below.trod laidOut (by kernel_rfl) (of_decide_eq_true (by kernel_rfl)) k0 bel.toBelow lt0) trodAll_mk0), rfl, bel.frame _, fun h => by cases h⟩

theorem typesWell_said : Rows.TypesWellSaid :=
  OpenClaim.holds_of_wide 4 Tryz.f4 rfl rfl rfl rfl rfl rfl rfl ⟨rfl, rfl, rfl, rfl, rfl⟩ rfl rfl rfl rfl rfl (by kernel_rfl) Tryz.func4 typesWell_closed
    (of_decide_eq_true (by kernel_rfl)) (by unfold Func.isWrapper; rw [if_neg (of_decide_eq_false (by kernel_rfl))]; exact ⟨rfl, rfl⟩)
    (fun os started H enc _ => typesWell_lifted os started H enc)
theorem typesWell_card_holds : Rows.TypesWellCardSaid :=
  Claim7.holds_tied_plain_at .later [] [.handle] true (true, "b0d1241fef24df4bd052b38c9cc7f1e356aa857d237375417cf8ad474402db62") true
    typesWell_said (fun _ h => by cases h) (by kernel_rfl) (fun _ h => by cases h) typesWell_row_tie rfl ⟨rfl, rfl⟩ (by kernel_rfl) rfl
    (fun f fn hf hfn => by
      obtain rfl : f = 4 := Option.some.inj ((show Tryz.prog.funcNamed "usufruct/usufructlaw14.TypesWell" = some 4 by kernel_rfl).symm.trans hf) |>.symm
      obtain rfl : fn = Tryz.f4 := (Option.some.inj (Tryz.func4.symm.trans hfn)).symm
      exact ⟨by kernel_rfl, fun j t ht => by
        rw [Tryz.params4] at ht
        have h3 : t = 39 := by
          rcases j with _ | j
          · simpa using ht.symm
          · simp at ht
        subst h3
        exact (show Tryz.prog.wantsStandIn 39 = false by kernel_rfl)⟩)
    (by kernel_rfl)
#print axioms typesWell_card_holds
end Go.Proofs.YtgpeaibhhonikaaGreatDoor
