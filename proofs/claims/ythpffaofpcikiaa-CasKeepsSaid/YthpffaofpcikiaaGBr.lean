/-
  Texts RowB of this claim, put together.
-/
import Derived.Test.YthpffaofpcikiaaGE
import Derived.Test.YthpffaofpcikiaaGBe
import Derived.Test.YthpffaofpcikiaaRows
import Derived.Test.YthpffaofpcikiaaProg
import Derived.WalkKit
import Derived.ProofKit
import Derived.OpenShut
import Derived.ShutString
import Derived.ChangeOld
import Derived.Below
/-
  From what a law's function hands back to its given statement: the arguments (numbers, byte lists) as plain values.
-/
set_option linter.unusedSimpArgs false
set_option linter.unusedVariables false
namespace Go.Proofs.Ythpffaofpcikiaa
open Go Go.Lg Go.RowKit Go.ChangeShapes Go.WideShapes Go.ChangeAt
set_option linter.unusedVariables false

theorem own : ownKnob Try.prog.godebug = none := by kernel_rfl
theorem laidOut : laidOutB Try.prog = true := by kernel_rfl
theorem tiles : tilesOk Try.prog = true := by kernel_rfl

theorem isU8T {P : Program} {t : TypeId} (h : kindF P t = some .u8) : IsT P t (fun n : Int => cK .u8 n) (fun n => 0 ≤ n ∧ n < 256) := by
  intro xs hx
  unfold kindF at h
  cases hx with
  | int _ k n hu hw =>
    simp only [hu, Option.some.injEq] at h
    subst h
    refine ⟨n, rfl, ?_⟩
    simp [Lit.wf, IntKind.min, IntKind.max, IntKind.signed, IntKind.bits] at hw
    omega
  | other _ d hu ho => simp only [hu] at h; cases d <;> simp_all [otherOk]
  | _ => simp_all
theorem tyInt : IsT Try.prog 3 (fun n : Int => [.int .i64 n]) InI64 := isInt (by kernel_rfl)
theorem tyU8 : IsT Try.prog 5 (fun n : Int => cK .u8 n) (fun n => 0 ≤ n ∧ n < 256) := isU8T (by kernel_rfl)
theorem tyBytes : IsT Try.prog 27 cBs (fun b => b.length ≤ maxLen ∧ isBy b) := isSl (e := 5) (s := 1) (by kernel_rfl) (by decide) cK_len tyU8
theorem tyBytess : IsT Try.prog 38 (fun L : List (List Int) => [encL cBs L]) (fun L => L.length ≤ maxLen ∧ ∀ b ∈ L, b.length ≤ maxLen ∧ isBy b) := isSl (e := 27) (s := 1) (by kernel_rfl) (by decide) (fun _ => rfl) tyBytes

/-- An argument of one cell. -/
theorem arg_one {P : Program} (htile : tilesOk P = true) {H : Type} {enc : TypeId × Value → H} {w : World} {t : TypeId} {d0 : TypeDesc} {α : Type} {f : α → V} {ok : α → Prop} {r : Reach} {b0 : Nat} {v : Value} {d : DataW H} {p : List MemPlace}
    (ht : P.underlying t = some d0) (hd : (∃ q, d0 = .int q) ∨ ∃ e, d0 = .slice e) (hin : t < P.types.size) (hT : IsT P t (fun x => [f x]) ok) (hv : Value.okWide P w r b0 t v) (h : DataW.Trod enc P w 0 (fun _ => true) true t v d p) :
    ∃ x : α, ok x ∧ RepI (· < w.heap.size) w v (f x) := by
  have hna : v.cells = #[v] := by
    cases v with
    | agg cs =>
      exfalso
      rcases hd with ⟨q, rfl⟩ | ⟨e, rfl⟩ <;> simp [Value.okWide, Cell.okWide, Cell.ok, ht] at hv
    | _ => rfl
  obtain ⟨fuel, hf⟩ := h
  obtain ⟨xs, hty, hl, hr⟩ := trod_rep htile fuel t _ d p hin hf
  obtain ⟨x, rfl, hok⟩ := hT xs hty
  rw [hna] at hr
  exact ⟨x, hok, hr 0 v (f x) rfl rfl⟩

end Go.Proofs.Ythpffaofpcikiaa
