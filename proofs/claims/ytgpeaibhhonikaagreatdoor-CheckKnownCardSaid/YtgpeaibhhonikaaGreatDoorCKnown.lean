/-
  CheckKnown, for every input: the law's function returns true, and its argument reads as it did; and its card.
-/
import Derived.Test.YtgpeaibhhonikaaGreatDoorCards
import Derived.Test.YtgpeaibhhonikaaGreatDoorCkc
import Derived.Test.YtgpeaibhhonikaaGreatDoorRowF
import Derived.Test.YtgpeaibhhonikaaGreatDoorCKf
set_option linter.unusedSimpArgs false
set_option linter.unusedVariables false
namespace Go.Proofs.YtgpeaibhhonikaaGreatDoor
open Go Go.Lg Go.RowKit Go.ChangeShapes Go.WideShapes Go.ChangeAt
set_option linter.unusedVariables false

set_option maxRecDepth 100000 in
theorem checkKnown_lifted (os : Os) (started : os.Started) (H : Type) (enc : TypeId × Value → H) :
    ReturnsInHanded {} Tryz.checked os 11 .any (fun w args => (Rows.checkKnownSpec.pre enc Tryz.prog Tryz.f11 [] false w args ∧ laidMetH Tryz.prog Rows.checkKnownRow.laid w) ∧ sizedMet enc Tryz.prog Tryz.f11 (OpenSpec.ofChange Rows.checkKnownSpec) false w args)
      (Rows.checkKnownSpec.post enc Tryz.prog Tryz.f11 false true false false) := by
  refine lifted_of (C := Tryz.checked) (X := fun w _ => laidMetH Tryz.prog Rows.checkKnownRow.laid w) (fun _ _ _ hh h => h.of_heap hh) own started (by kernel_rfl) Tryz.func11
    (ChangeSpec.witness_at (enc := enc) (C := Tryz.checked) (os := os) (X := fun w _ => laidMetH Tryz.prog Rows.checkKnownRow.laid w) false (laidWorld os) #[.int .i64 0] 8 rfl (by kernel_rfl) (by kernel_rfl) (by kernel_rfl) (by kernel_rfl) (by kernel_rfl) (laidWorld_met os _)) ?_
  intro W base args ds gs before hval0 hW hL hsh
  have hval : ∀ (j : Nat) t v, Tryz.f11.params[j]? = some t → args[j]? = some v → Value.okWide Tryz.prog W .any base t v := hval0
  have hW' := hW
  obtain ⟨p, q, hA0, hV, rfl, hfz, hnd⟩ := hW
  have hA : DataW.TrodAll enc Tryz.prog W 0 (fun _ => true) true Tryz.f11.params.toList args.toList ds p := hA0
  rw [Tryz.params11] at hA hval
  obtain ⟨v0, vs0, d0, ds0, p0, q0, hargs, rfl, rfl, h0, r0⟩ := trodAll_cons hA
  obtain ⟨rfl, rfl, rfl⟩ := trodAll_nil r0
  obtain rfl : args = #[v0] := by cases args; simp_all
  obtain ⟨rfl, rfl⟩ := trodVars_none hV
  have k0 := h0
  obtain ⟨n, rfl, rfl, rfl, hwn⟩ := open_int Tryz.underlying3 (hval 0 3 v0 rfl rfl) h0
  clear hA0 hval0
  have hcall := (checkKnown_ret n).2 (· < W.heap.size) W #[.int .i64 n] ⟨fun _ h => h, gok hL hsh⟩ rfl (fun j u c hu hc => by
    match j, hu, hc with
    | 0, hu, hc => simp at hu hc; subst hu hc; exact .int _ _
    | j + 1, hu, _ => simp at hu)
  refine hcall.mono ?_
  rintro e W' ⟨u, imm', rfl, hu, bel, _, _⟩
  cases hu
  exact ⟨_, rfl, _, _, _, [], _, [], hW', trodAll_mk1 (shut_bool Tryz.underlying4 _), (trodAll_cons_mk (shut_int Tryz.underlying3 hwn) trodAll_mk0), rfl, bel.frame _, fun h => by cases h⟩

theorem checkKnown_said : Rows.CheckKnownSaid :=
  OpenClaim.holds_of_wide 11 Tryz.f11 rfl rfl rfl rfl rfl rfl rfl ⟨rfl, rfl, rfl, rfl, rfl⟩ rfl rfl rfl rfl rfl (by kernel_rfl) Tryz.func11 checkKnown_closed
    (of_decide_eq_true (by kernel_rfl)) (by unfold Func.isWrapper; rw [if_neg (of_decide_eq_false (by kernel_rfl))]; exact ⟨rfl, rfl⟩)
    (fun os started H enc _ => checkKnown_lifted os started H enc)
theorem checkKnown_card_holds : Rows.CheckKnownCardSaid :=
  Claim7.holds_tied_plain_at .later [] [.handle] true (true, "b0d1241fef24df4bd052b38c9cc7f1e356aa857d237375417cf8ad474402db62") true
    checkKnown_said (fun _ h => by cases h) (by kernel_rfl) (fun _ h => by cases h) checkKnown_row_tie rfl ⟨rfl, rfl⟩ (by kernel_rfl) rfl
    (fun f fn hf hfn => by
      obtain rfl : f = 11 := Option.some.inj ((show Tryz.prog.funcNamed "usufruct/usufructlaw15.CheckKnown" = some 11 by kernel_rfl).symm.trans hf) |>.symm
      obtain rfl : fn = Tryz.f11 := (Option.some.inj (Tryz.func11.symm.trans hfn)).symm
      exact ⟨by kernel_rfl, fun j t ht => by
        rw [Tryz.params11] at ht
        have h3 : t = 3 := by
          rcases j with _ | j
          · simpa using ht.symm
          · simp at ht
        subst h3
        exact (show Tryz.prog.wantsStandIn 3 = false by kernel_rfl)⟩)
    (by kernel_rfl)
#print axioms checkKnown_card_holds
end Go.Proofs.YtgpeaibhhonikaaGreatDoor
