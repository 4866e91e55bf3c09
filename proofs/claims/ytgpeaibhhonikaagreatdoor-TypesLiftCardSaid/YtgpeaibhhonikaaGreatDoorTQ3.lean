/-
  TyT TLift: put together.
-/
import Derived.Test.YtgpeaibhhonikaaGreatDoorTQr
import Derived.Test.YtgpeaibhhonikaaGreatDoorTQd
import Derived.Test.YtgpeaibhhonikaaGreatDoorCards
import Derived.Test.YtgpeaibhhonikaaGreatDoorTQe
import Derived.Test.YtgpeaibhhonikaaGreatDoorTLf
set_option linter.unusedSimpArgs false
set_option linter.unusedVariables false
namespace Go.Proofs.YtgpeaibhhonikaaGreatDoor
open Go Go.Lg Go.RowKit

theorem tyTT0 : ∀ (t : TypeId) (xs : List V), Ty Tryz.prog t xs → (t = 27 → ∃ x : TT, xs = x.cells ∧ x.ok) ∧ (t = 25 → ∃ l : List TT, xs = [encL TT.cells l] ∧ l.length ≤ maxLen ∧ ∀ x ∈ l, x.ok) := by
  intro t xs h
  induction h with
  | struct t fs cs hu hl hf ih =>
    refine ⟨fun e => ?_, fun e => ?_⟩
    · subst e
      have hs : stF Tryz.prog 27 = some [3, 9, 24, 25] := by kernel_rfl
      unfold stF at hs
      simp only [hu] at hs
      split at hs
      case isFalse => cases hs
      rename_i ht
      simp only [Option.some.injEq] at hs
      simp only [tileOk, hu, beq_iff_eq] at ht
      have hp := pcs_of (Q := fun t xs => Ty Tryz.prog t xs ∧ ((t = 27 → ∃ x : TT, xs = x.cells ∧ x.ok) ∧ (t = 25 → ∃ l : List TT, xs = [encL TT.cells l] ∧ l.length ≤ maxLen ∧ ∀ x ∈ l, x.ok))) (xs := cs) fs.toList 0 _ ht hl (fun f hm => ⟨hf f hm, ih f hm⟩)
      rw [hs, List.drop_zero] at hp
      obtain ⟨_, _, rfl, h0, _, _, rfl, h1, _, _, rfl, h2, _, _, rfl, h3, rfl⟩ := hp
      obtain ⟨x0, rfl, o0⟩ := tyInt _ h0.1
      obtain ⟨x1, rfl, o1⟩ := tyStr _ h1.1
      obtain ⟨x2, rfl, o2⟩ := tyStrs _ h2.1
      obtain ⟨x3, rfl, o3⟩ := h3.2.2 rfl
      exact ⟨.mk x0 x1 x2 x3, by rw [TT.cells_eq]; rfl, (TT.ok_iff _).2 ⟨o0, o1, o2, o3⟩⟩
    · subst e
      have hs : slF Tryz.prog 25 = some (27, 4) := by kernel_rfl
      simp [slF, hu] at hs
  | slice t e n cs hu hl hn hi ih =>
    refine ⟨fun e => ?_, fun e => ?_⟩
    · subst e
      have hs : stF Tryz.prog 27 = some [3, 9, 24, 25] := by kernel_rfl
      simp [stF, hu] at hs
    · subst e
      have hs : slF Tryz.prog 25 = some (27, 4) := by kernel_rfl
      simp only [slF, hu, Option.some.injEq, Prod.mk.injEq] at hs
      obtain ⟨rfl, hs⟩ := hs
      rw [hs] at hl ih
      obtain ⟨l, h1, h2, h3⟩ := list_of_pcs (f := TT.cells) (ok := TT.ok) TT.len n cs hl fun i h => (ih i h).1 rfl
      exact ⟨l, by simp only [encL]; rw [← h2, h1], by omega, h3⟩
  | bool t b hu => exact ⟨fun e => by subst e; have hs : stF Tryz.prog 27 = some [3, 9, 24, 25] := by kernel_rfl
                                      simp [stF, hu] at hs, fun e => by subst e; have hs : slF Tryz.prog 25 = some (27, 4) := by kernel_rfl
                                                                        simp [slF, hu] at hs⟩
  | int t k n hu => exact ⟨fun e => by subst e; have hs : stF Tryz.prog 27 = some [3, 9, 24, 25] := by kernel_rfl
                                       simp [stF, hu] at hs, fun e => by subst e; have hs : slF Tryz.prog 25 = some (27, 4) := by kernel_rfl
                                                                         simp [slF, hu] at hs⟩
  | str t s hu => exact ⟨fun e => by subst e; have hs : stF Tryz.prog 27 = some [3, 9, 24, 25] := by kernel_rfl
                                     simp [stF, hu] at hs, fun e => by subst e; have hs : slF Tryz.prog 25 = some (27, 4) := by kernel_rfl
                                                                       simp [slF, hu] at hs⟩
  | array t n e cs hu => exact ⟨fun e => by subst e; have hs : stF Tryz.prog 27 = some [3, 9, 24, 25] := by kernel_rfl
                                            simp [stF, hu] at hs, fun e => by subst e; have hs : slF Tryz.prog 25 = some (27, 4) := by kernel_rfl
                                                                              simp [slF, hu] at hs⟩
  | other t d hu ho => exact ⟨fun e => by subst e; have hs : stF Tryz.prog 27 = some [3, 9, 24, 25] := by kernel_rfl
                                          simp only [stF, hu] at hs; cases d <;> simp_all [otherOk], fun e => by subst e; have hs : slF Tryz.prog 25 = some (27, 4) := by kernel_rfl
                                                                                                                 simp only [slF, hu] at hs; cases d <;> simp_all [otherOk]⟩
theorem tyTT : IsT Tryz.prog 27 TT.cells TT.ok := fun xs h => (tyTT0 _ xs h).1 rfl

theorem tyTTs : IsT Tryz.prog 25 (fun l : List TT => [encL TT.cells l]) (fun l => l.length ≤ maxLen ∧ ∀ x ∈ l, x.ok) := fun xs h => (tyTT0 _ xs h).2 rfl
end Go.Proofs.YtgpeaibhhonikaaGreatDoor

set_option linter.unusedSimpArgs false
set_option linter.unusedVariables false
namespace Go.Proofs.YtgpeaibhhonikaaGreatDoor
open Go Go.Lg Go.RowKit Go.ChangeShapes Go.WideShapes Go.ChangeAt
set_option linter.unusedVariables false

set_option maxRecDepth 100000 in
theorem typesLift_lifted (os : Os) (started : os.Started) (H : Type) (enc : TypeId × Value → H) :
    ReturnsInHanded {} Tryz.checked os 5 .any (fun w args => (Rows.typesLiftSpec.pre enc Tryz.prog Tryz.f5 [] false w args ∧ laidMetH Tryz.prog Rows.typesLiftRow.laid w) ∧ sizedMet enc Tryz.prog Tryz.f5 (OpenSpec.ofChange Rows.typesLiftSpec) false w args)
      (Rows.typesLiftSpec.post enc Tryz.prog Tryz.f5 false true false false) := by
  refine lifted_of (C := Tryz.checked) (X := fun w _ => laidMetH Tryz.prog Rows.typesLiftRow.laid w) (fun _ _ _ hh h => h.of_heap hh) own started (by kernel_rfl) Tryz.func5
    (ChangeSpec.witness_at (enc := enc) (C := Tryz.checked) (os := os) (X := fun w _ => laidMetH Tryz.prog Rows.typesLiftRow.laid w) false (laidWorld os) #[.agg #[.int .i64 0, .string ByteArray.empty, .slice none 0 0, .slice none 0 0], .slice none 0 0, .int .i64 0] 8 rfl (by kernel_rfl) (by kernel_rfl) (by kernel_rfl) (by kernel_rfl) (by kernel_rfl) (laidWorld_met os _)) ?_
  intro W base args ds gs before hval0 hW hL hsh
  have hval : ∀ (j : Nat) t v, Tryz.f5.params[j]? = some t → args[j]? = some v → Value.okWide Tryz.prog W .any base t v := hval0
  have hW' := hW
  obtain ⟨p, q, hA0, hV, rfl, hfz, hnd⟩ := hW
  have hA : DataW.TrodAll enc Tryz.prog W 0 (fun _ => true) true Tryz.f5.params.toList args.toList ds p := hA0
  rw [Tryz.params5] at hA hval
  obtain ⟨v0, vs0, d0, ds0, p0, q0, hargs0, rfl, rfl, h0, r0⟩ := trodAll_cons hA
  obtain ⟨v1, vs1, d1, ds1, p1, q1, hargs1, rfl, rfl, h1, r1⟩ := trodAll_cons r0
  obtain ⟨v2, vs2, d2, ds2, p2, q2, hargs2, rfl, rfl, h2, r2⟩ := trodAll_cons r1
  obtain ⟨rfl, rfl, rfl⟩ := trodAll_nil r2
  obtain rfl : args = #[v0, v1, v2] := by cases args; simp_all
  obtain ⟨rfl, rfl⟩ := trodVars_none hV
  have k0 := h0
  have lt0 : ∀ x ∈ p0, x.block < W.heap.size := by obtain ⟨m, hm⟩ := k0; exact DataW.trod_lt m _ _ _ hm
  obtain ⟨x0, hx0, hrep0⟩ := arg_agg tiles Tryz.underlying27 (of_decide_eq_true (by kernel_rfl)) tyTT (hval 0 27 v0 rfl rfl) h0
  have k1 := h1
  have lt1 : ∀ x ∈ p1, x.block < W.heap.size := by obtain ⟨m, hm⟩ := k1; exact DataW.trod_lt m _ _ _ hm
  obtain ⟨x1, hx1, hrep1⟩ := arg_one (f := fun l : List ByteArray => encL cS l) tiles Tryz.underlying24 (.inr ⟨_, rfl⟩) (of_decide_eq_true (by kernel_rfl)) tyStrs (hval 1 24 v1 rfl rfl) h1
  have k2 := h2
  obtain ⟨x2, rfl, rfl, rfl, hx2⟩ := open_int Tryz.underlying3 (hval 2 3 v2 rfl rfl) h2
  clear hA0 hval0
  have hcall := (typesLift_ret x0 hx0 x1 hx1.1 x2 hx2).2 (· < W.heap.size) W #[v0, v1, .int .i64 x2] ⟨fun _ h => h, gok hL hsh⟩ rfl (fun j u c hu hc => by
    match j, hu, hc with
    | 0, hu, hc => simp at hu hc; subst hu hc; exact hrep0
    | 1, hu, hc => simp at hu hc; subst hu hc; exact hrep1
    | 2, hu, hc => simp at hu hc; subst hu hc; exact .int _ _
    | j + 3, hu, _ => simp at hu)
  refine hcall.mono ?_
  rintro e W' ⟨u, imm', rfl, hu, bel, _, _⟩
  cases hu
  exact ⟨_, rfl, _, _, _, [], _, [], hW', trodAll_mk1 (shut_bool Tryz.underlying4 _), (trodAll_cons_mk (Below.trod laidOut (by kernel_rfl) (of_decide_eq_true (by kernel_rfl)) k0 bel.toBelow lt0) (trodAll_cons_mk (Below.trod laidOut (by kernel_rfl) (of_decide_eq_true (by kernel_rfl)) k1 bel.toBelow lt1) (trodAll_cons_mk (shut_int Tryz.underlying3 hx2) trodAll_mk0))), rfl, bel.frame _, fun h => by cases h⟩

theorem typesLift_said : Rows.TypesLiftSaid :=
  OpenClaim.holds_of_wide 5 Tryz.f5 rfl rfl rfl rfl rfl rfl rfl ⟨rfl, rfl, rfl, rfl, rfl⟩ rfl rfl rfl rfl rfl (by kernel_rfl) Tryz.func5 typesLift_closed
    (of_decide_eq_true (by kernel_rfl)) (by unfold Func.isWrapper; rw [if_neg (of_decide_eq_false (by kernel_rfl))]; exact ⟨rfl, rfl⟩)
    (fun os started H enc _ => typesLift_lifted os started H enc)
theorem typesLift_card_holds : Rows.TypesLiftCardSaid :=
  Claim7.holds_tied_plain_at .later [] [.handle] true (true, "b0d1241fef24df4bd052b38c9cc7f1e356aa857d237375417cf8ad474402db62") true
    typesLift_said (fun _ h => by cases h) (by kernel_rfl) (fun _ h => by cases h) typesLift_row_tie rfl ⟨rfl, rfl⟩ (by kernel_rfl) rfl
    (fun f fn hf hfn => by
      obtain rfl : f = 5 := Option.some.inj ((show Tryz.prog.funcNamed "usufruct/usufructlaw14.TypesLift" = some 5 by kernel_rfl).symm.trans hf) |>.symm
      obtain rfl : fn = Tryz.f5 := (Option.some.inj (Tryz.func5.symm.trans hfn)).symm
      exact ⟨by kernel_rfl, fun j t ht => by
        rw [Tryz.params5] at ht
        rcases j with _ | _ | _ | j
        · obtain rfl : t = 27 := by simpa using ht.symm
          exact (show Tryz.prog.wantsStandIn 27 = false by kernel_rfl)
        · obtain rfl : t = 24 := by simpa using ht.symm
          exact (show Tryz.prog.wantsStandIn 24 = false by kernel_rfl)
        · obtain rfl : t = 3 := by simpa using ht.symm
          exact (show Tryz.prog.wantsStandIn 3 = false by kernel_rfl)
        · simp at ht⟩)
    (by kernel_rfl)
#print axioms typesLift_card_holds
end Go.Proofs.YtgpeaibhhonikaaGreatDoor
