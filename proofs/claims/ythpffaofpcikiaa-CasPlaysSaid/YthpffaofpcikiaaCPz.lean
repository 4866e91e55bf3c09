import Derived.Test.YthpffaofpcikiaaCPh
import Derived.Test.YthpffaofpcikiaaCPi
/-
  CasPlays, for every input: the law's function returns true, and its arguments read as they did. No condition but the statement's own.
-/
set_option linter.unusedSimpArgs false
set_option linter.unusedVariables false
namespace Go.Proofs.Ythpffaofpcikiaa
open Go Go.Lg Go.RowKit Go.ChangeShapes Go.WideShapes Go.ChangeAt
set_option linter.unusedVariables false

theorem tyHash : IsT Try.prog 29 (fun x : HS => x.cells) (fun _ => True) := by
  intro xs hx
  obtain ⟨l, rfl, h1, h2⟩ := isAr (t := 29) (e := 5) (s := 1) (n := 32) (by kernel_rfl) (by kernel_rfl) cK_len tyU8 xs hx
  exact ⟨⟨l, h1, h2⟩, rfl, trivial⟩
theorem tyOp : IsT Try.prog 55 OpV.cells (fun o => o.b.length ≤ maxLen ∧ isBy o.b ∧ InI64 o.kind) := by
  intro xs hx
  have hp := hx.st (ts := [3, 27, 29]) (by kernel_rfl)
  obtain ⟨_, _, rfl, h0, _, _, rfl, h1, _, _, rfl, h2, rfl⟩ := hp
  obtain ⟨k, rfl, o0⟩ := tyInt _ h0
  obtain ⟨b, rfl, o1⟩ := tyBytes _ h1
  obtain ⟨h, rfl, _⟩ := tyHash _ h2
  exact ⟨⟨k, b, h⟩, by simp [OpV.cells, cBs, encL], o1.1, o1.2, o0⟩
theorem tyOps : IsT Try.prog 50 (fun L : List OpV => [encL OpV.cells L]) (fun L => L.length ≤ maxLen ∧ ∀ o ∈ L, o.b.length ≤ maxLen ∧ isBy o.b ∧ InI64 o.kind) := isSl (e := 55) (s := 34) (by kernel_rfl) (by decide) OpV.len tyOp

set_option maxRecDepth 100000 in
theorem casPlays_lifted (os : Os) (started : os.Started) (H : Type) (enc : TypeId × Value → H) :
    ReturnsInHanded {} Try.checked os 7 .any (Rows.casPlaysSpec.pre6 enc Try.prog Try.f7 Rows.casPlaysRow.domain false) (Rows.casPlaysSpec.post enc Try.prog Try.f7 false true false false) := by
  refine returnsInHanded_sh (C := Try.checked) own started (by kernel_rfl) Try.func7
    (ChangeSpec.witness6 (enc := enc) (C := Try.checked) false ⟨#[], #[.int .i64 0, .slice none 0 0], []⟩ 8 (by kernel_rfl) (by kernel_rfl) (by kernel_rfl) (by kernel_rfl)) ?_
  intro W base args ds gs before hval0 hW hsh
  have hval : ∀ (j : Nat) t v, Try.f7.params[j]? = some t → args[j]? = some v → Value.okWide Try.prog W .any base t v := hval0
  have hW' := hW
  obtain ⟨p, q, hA0, hV, rfl, hfz, hnd⟩ := hW
  have hA : DataW.TrodAll enc Try.prog W 0 (fun _ => true) true Try.f7.params.toList args.toList ds p := hA0
  rw [Try.params7] at hA hval
  obtain ⟨v0, vs0, d0, ds0, p0, q0, hargs, rfl, rfl, h0, r0⟩ := trodAll_cons hA
  obtain ⟨v1, vs1, d1, ds1, p1, q1, hargs1, rfl, rfl, h1, r1⟩ := trodAll_cons r0
  obtain ⟨rfl, rfl, rfl⟩ := trodAll_nil r1
  obtain rfl : args = #[v0, v1] := by cases args; simp_all
  obtain ⟨rfl, rfl⟩ := trodVars_none hV
  have k0 := h0
  have lt0 : ∀ x ∈ p0, x.block < W.heap.size := by obtain ⟨m, hm⟩ := k0; exact DataW.trod_lt m _ _ _ hm
  obtain ⟨x, hx, hrep⟩ := arg_one tiles Try.underlying3 (.inl ⟨_, rfl⟩) (of_decide_eq_true (by kernel_rfl)) tyInt (hval 0 3 v0 rfl rfl) h0
  have k1 := h1
  have lt1 : ∀ x ∈ p1, x.block < W.heap.size := by obtain ⟨m, hm⟩ := k1; exact DataW.trod_lt m _ _ _ hm
  obtain ⟨L, hL, hrepL⟩ := arg_one tiles Try.underlying50 (.inr ⟨_, rfl⟩) (of_decide_eq_true (by kernel_rfl)) tyOps (hval 1 50 v1 rfl rfl) h1
  clear hA0 hval0
  have hcall := (casPlays_ret x L hL.2).2 (· < W.heap.size) W #[v0, v1] ⟨fun _ h => h, gokM hsh⟩ rfl (fun j u c hu hc => by
    match j, hu, hc with
    | 0, hu, hc => simp at hu hc; subst hu hc; exact hrep
    | 1, hu, hc => simp at hu hc; subst hu hc; exact hrepL
    | j + 2, hu, _ => simp at hu)
  refine hcall.mono ?_
  rintro e W' ⟨u, imm', rfl, hu, bel, _, _⟩
  cases hu
  exact ⟨_, rfl, _, _, _, [], _, [], hW', trodAll_mk1 (shut_bool Try.underlying4 _), (trodAll_cons_mk (Below.trod laidOut (by kernel_rfl) (of_decide_eq_true (by kernel_rfl)) k0 bel.toBelow lt0) (trodAll_cons_mk (Below.trod laidOut (by kernel_rfl) (of_decide_eq_true (by kernel_rfl)) k1 bel.toBelow lt1) trodAll_mk0)), rfl, bel.toBelow.frame _, fun h => by cases h⟩

theorem casPlays_holds : Rows.CasPlaysSaid :=
  OpenClaim.holds_of_wide 7 Try.f7 rfl rfl rfl rfl rfl rfl rfl ⟨rfl, rfl, rfl, rfl, rfl⟩ rfl rfl rfl rfl rfl (by kernel_rfl) Try.func7 (by kernel_rfl)
    (of_decide_eq_true (by kernel_rfl)) (by unfold Func.isWrapper; first | (rw [if_pos (by decide +kernel)]; kernel_rfl) | (rw [if_neg (by decide +kernel)]; exact ⟨rfl, rfl⟩))
    (fun os started H enc _ => casPlays_lifted os started H enc)
#print axioms casPlays_holds
end Go.Proofs.Ythpffaofpcikiaa
