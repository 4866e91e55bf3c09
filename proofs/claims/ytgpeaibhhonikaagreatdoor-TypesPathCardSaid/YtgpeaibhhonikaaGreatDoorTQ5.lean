import Derived.Test.YtgpeaibhhonikaaGreatDoorCards
import Derived.Test.YtgpeaibhhonikaaGreatDoorTQy
import Derived.Test.YtgpeaibhhonikaaGreatDoorTQr
import Derived.Test.YtgpeaibhhonikaaGreatDoorTPf
/-
  TypesPath, for every input: the law's function returns true, and its arguments read as they did; and its card.
-/
set_option linter.unusedSimpArgs false
set_option linter.unusedVariables false
namespace Go.Proofs.YtgpeaibhhonikaaGreatDoor
open Go Go.Lg Go.RowKit Go.ChangeShapes Go.WideShapes Go.ChangeAt
set_option linter.unusedVariables false

set_option maxRecDepth 100000 in
theorem typesPath_lifted (os : Os) (started : os.Started) (H : Type) (enc : TypeId × Value → H) :
    ReturnsInHanded {} Tryz.checked os 9 .any (fun w args => (Rows.typesPathSpec.pre enc Tryz.prog Tryz.f9 [] false w args ∧ laidMetH Tryz.prog Rows.typesPathRow.laid w) ∧ sizedMet enc Tryz.prog Tryz.f9 (OpenSpec.ofChange Rows.typesPathSpec) false w args)
      (Rows.typesPathSpec.post enc Tryz.prog Tryz.f9 false true false false) := by
  refine lifted_of (C := Tryz.checked) (X := fun w _ => laidMetH Tryz.prog Rows.typesPathRow.laid w) (fun _ _ _ hh h => h.of_heap hh) own started (by kernel_rfl) Tryz.func9
    (ChangeSpec.witness_at (enc := enc) (C := Tryz.checked) (os := os) (X := fun w _ => laidMetH Tryz.prog Rows.typesPathRow.laid w) false (laidWorld os) #[.agg #[.int .i64 0, .string ByteArray.empty, .slice none 0 0, .slice none 0 0], .slice none 0 0, .slice none 0 0] 8 rfl (by kernel_rfl) (by kernel_rfl) (by kernel_rfl) (by kernel_rfl) (by kernel_rfl) (laidWorld_met os _)) ?_
  intro W base args ds gs before hval0 hW hL hsh
  have hval : ∀ (j : Nat) t v, Tryz.f9.params[j]? = some t → args[j]? = some v → Value.okWide Tryz.prog W .any base t v := hval0
  have hW' := hW
  obtain ⟨p, q, hA0, hV, rfl, hfz, hnd⟩ := hW
  have hA : DataW.TrodAll enc Tryz.prog W 0 (fun _ => true) true Tryz.f9.params.toList args.toList ds p := hA0
  rw [Tryz.params9] at hA hval
  obtain ⟨v0, vs0, d0, ds0, p0, q0, hargs0, rfl, rfl, h0, r0⟩ := trodAll_cons hA
  obtain ⟨v1, vs1, d1, ds1, p1, q1, hargs1, rfl, rfl, h1, r1⟩ := trodAll_cons r0
  obtain ⟨v2, vs2, d2, ds2, p2, q2, hargs2, rfl, rfl, h2, r2⟩ := trodAll_cons r1
  obtain ⟨rfl, rfl, rfl⟩ := trodAll_nil r2
  obtain rfl : args = #[v0, v1, v2] := by cases args; simp_all
  obtain ⟨rfl, rfl⟩ := trodVars_none hV
  have k0 := h0
  have lt0 : ∀ x ∈ p0, x.block < W.heap.size := by obtain ⟨m, hm⟩ := k0; exact DataW.trod_lt m _ _ _ hm
  obtain ⟨x0, hx0, hrep0⟩ := arg_agg tiles Tryz.underlying39 (of_decide_eq_true (by kernel_rfl)) tyRT (hval 0 39 v0 rfl rfl) h0
  have k1 := h1
  have lt1 : ∀ x ∈ p1, x.block < W.heap.size := by obtain ⟨m, hm⟩ := k1; exact DataW.trod_lt m _ _ _ hm
  obtain ⟨x1, hx1, hrep1⟩ := arg_one (f := fun l : List ByteArray => encL cS l) tiles Tryz.underlying24 (.inr ⟨_, rfl⟩) (of_decide_eq_true (by kernel_rfl)) tyStrs (hval 1 24 v1 rfl rfl) h1
  have k2 := h2
  have lt2 : ∀ x ∈ p2, x.block < W.heap.size := by obtain ⟨m, hm⟩ := k2; exact DataW.trod_lt m _ _ _ hm
  obtain ⟨x2, hx2, hrep2⟩ := arg_one (f := fun l : List ByteArray => encL cS l) tiles Tryz.underlying24 (.inr ⟨_, rfl⟩) (of_decide_eq_true (by kernel_rfl)) tyStrs (hval 2 24 v2 rfl rfl) h2
  clear hA0 hval0
  have hcall := (typesPath_ret x0 hx0 x1 hx1.1 x2 hx2.1).2 (· < W.heap.size) W #[v0, v1, v2] ⟨fun _ h => h, gok hL hsh⟩ rfl (fun j u c hu hc => by
    match j, hu, hc with
    | 0, hu, hc => simp at hu hc; subst hu hc; exact hrep0
    | 1, hu, hc => simp at hu hc; subst hu hc; exact hrep1
    | 2, hu, hc => simp at hu hc; subst hu hc; exact hrep2
    | j + 3, hu, _ => simp at hu)
  refine hcall.mono ?_
  rintro e W' ⟨u, imm', rfl, hu, bel, _, _⟩
  cases hu
  exact ⟨_, rfl, _, _, _, [], _, [], hW', trodAll_mk1 (shut_bool Tryz.underlying4 _), (trodAll_cons_mk (Below.trod laidOut (by kernel_rfl) (of_decide_eq_true (by kernel_rfl)) k0 bel.toBelow lt0) (trodAll_cons_mk (Below.trod laidOut (by kernel_rfl) (of_decide_eq_true (by kernel_rfl)) k1 bel.toBelow lt1) (trodAll_cons_mk (Below.trod laidOut (by kernel_rfl) (of_decide_eq_true (by kernel_rfl)) k2 bel.toBelow lt2) trodAll_mk0))), rfl, bel.frame _, fun h => by cases h⟩

theorem typesPath_said : Rows.TypesPathSaid :=
  OpenClaim.holds_of_wide 9 Tryz.f9 rfl rfl rfl rfl rfl rfl rfl ⟨rfl, rfl, rfl, rfl, rfl⟩ rfl rfl rfl rfl rfl (by kernel_rfl) Tryz.func9 typesPath_closed
    (of_decide_eq_true (by kernel_rfl)) (by unfold Func.isWrapper; rw [if_neg (of_decide_eq_false (by kernel_rfl))]; exact ⟨rfl, rfl⟩)
    (fun os started H enc _ => typesPath_lifted os started H enc)
theorem typesPath_card_holds : Rows.TypesPathCardSaid :=
  Claim7.holds_tied_plain_at .later [] [.handle] true (true, "b0d1241fef24df4bd052b38c9cc7f1e356aa857d237375417cf8ad474402db62") true
    typesPath_said (fun _ h => by cases h) (by kernel_rfl) (fun _ h => by cases h) typesPath_row_tie rfl ⟨rfl, rfl⟩ (by kernel_rfl) rfl
    (fun f fn hf hfn => by
      obtain rfl : f = 9 := Option.some.inj ((show Tryz.prog.funcNamed "usufruct/usufructlaw14.TypesPath" = some 9 by kernel_rfl).symm.trans hf) |>.symm
      obtain rfl : fn = Tryz.f9 := (Option.some.inj (Tryz.func9.symm.trans hfn)).symm
      exact ⟨by kernel_rfl, fun j t ht => by
        rw [Tryz.params9] at ht
        rcases j with _ | _ | _ | j
        · obtain rfl : t = 39 := by simpa using ht.symm
          exact (show Tryz.prog.wantsStandIn 39 = false by kernel_rfl)
        · obtain rfl : t = 24 := by simpa using ht.symm
          exact (show Tryz.prog.wantsStandIn 24 = false by kernel_rfl)
        · obtain rfl : t = 24 := by simpa using ht.symm
          exact (show Tryz.prog.wantsStandIn 24 = false by kernel_rfl)
        · simp at ht⟩)
    (by kernel_rfl)
#print axioms typesPath_card_holds
end Go.Proofs.YtgpeaibhhonikaaGreatDoor
