/-
  RowB RowS: put together.
-/
import Derived.Test.YthpffaofpcikiaaRows
import Derived.Test.YthpffaofpcikiaaProg
import Derived.Test.YthpffaofpcikiaaCPd
import Derived.WalkKit
import Derived.ProofKit
import Derived.OpenShut
import Derived.ShutString
import Derived.ChangeOld
import Derived.Below
import Derived.Shelf.Vars
set_option linter.unusedSimpArgs false
set_option linter.unusedVariables false
namespace Go.Proofs.Ythpffaofpcikiaa
open Go Go.Lg Go.RowKit Go.ChangeShapes Go.WideShapes Go.ChangeAt
set_option linter.unusedVariables false

theorem own : ownKnob Try.prog.godebug = none := by kernel_rfl
theorem laidOut : laidOutB Try.prog = true := by kernel_rfl
theorem tiles : tilesOk Try.prog = true := by kernel_rfl

theorem isU8T {P : Program} {t : TypeId} (h : kindF P t = some .u8) : IsT P t (fun n : Int => cK .u8 n) (fun n => 0 ≤ n ∧ n < 256) := by
  intro xs hx
  unfold kindF at h
  cases hx with
  | int _ k n hu hw =>
    simp only [hu, Option.some.injEq] at h
    subst h
    refine ⟨n, rfl, ?_⟩
    simp [Lit.wf, IntKind.min, IntKind.max, IntKind.signed, IntKind.bits] at hw
    omega
  | other _ d hu ho => simp only [hu] at h; cases d <;> simp_all [otherOk]
  | _ => simp_all
theorem tyInt : IsT Try.prog 3 (fun n : Int => [.int .i64 n]) InI64 := isInt (by kernel_rfl)
theorem tyU8 : IsT Try.prog 5 (fun n : Int => cK .u8 n) (fun n => 0 ≤ n ∧ n < 256) := isU8T (by kernel_rfl)
theorem tyBytes : IsT Try.prog 27 cBs (fun b => b.length ≤ maxLen ∧ isBy b) := isSl (e := 5) (s := 1) (by kernel_rfl) (by decide) cK_len tyU8
/-- An argument of one cell. -/
theorem arg_one {P : Program} (htile : tilesOk P = true) {H : Type} {enc : TypeId × Value → H} {w : World} {t : TypeId} {d0 : TypeDesc} {α : Type} {f : α → V} {ok : α → Prop} {r : Reach} {b0 : Nat} {v : Value} {d : DataW H} {p : List MemPlace}
    (ht : P.underlying t = some d0) (hd : (∃ q, d0 = .int q) ∨ ∃ e, d0 = .slice e) (hin : t < P.types.size) (hT : IsT P t (fun x => [f x]) ok) (hv : Value.okWide P w r b0 t v) (h : DataW.Trod enc P w 0 (fun _ => true) true t v d p) :
    ∃ x : α, ok x ∧ RepI (· < w.heap.size) w v (f x) := by
  have hna : v.cells = #[v] := by
    cases v with
    | agg cs =>
      exfalso
      rcases hd with ⟨q, rfl⟩ | ⟨e, rfl⟩ <;> simp [Value.okWide, Cell.okWide, Cell.ok, ht] at hv
    | _ => rfl
  obtain ⟨fuel, hf⟩ := h
  obtain ⟨xs, hty, hl, hr⟩ := trod_rep htile fuel t _ d p hin hf
  obtain ⟨x, rfl, hok⟩ := hT xs hty
  rw [hna] at hr
  exact ⟨x, hok, hr 0 v (f x) rfl rfl⟩

end Go.Proofs.Ythpffaofpcikiaa

set_option linter.unusedSimpArgs false
set_option linter.unusedVariables false
namespace Go.Proofs.Ythpffaofpcikiaa
open Go Go.Lg Go.RowKit Go.ChangeShapes Go.WideShapes Go.ChangeAt
set_option linter.unusedVariables false

theorem returnsInHanded_sh {H : Type} {enc : TypeId × Value → H} {a : Assume} {C : Checked} {os : Os} {f : FuncId} {fn : Func} {s : ChangeSpec} {conds : List PathCond} {apart fresh handsOn again : Bool}
    (own : ownKnob C.prog.godebug = none) (started : os.Started) (noInit : C.prog.inits.idxOf? f = none) (hfn : C.prog.funcs[f]? = some fn)
    (witness : ∃ (w : World) (tape : Tape) (i : Input), w.os = os ∧ (w.forCall tape i).Shaped C.prog ∧ i.vars = [] ∧ Input.okWide C.prog (w.forCall tape i) .any w.heap.size f i ∧
      s.pre6 enc C.prog fn conds apart (w.forCall tape i).memory i.args ∧ a.holds C.prog (lone (Frame.enter C.prog f i.args .normal) [] (w.forCall tape i)))
    (contract : ∀ (W : World) (base : Nat) (args : Array Value) (ds gs : List (DataW H)) (before : List MemPlace),
      (∀ (j : Nat) t v, fn.params[j]? = some t → args[j]? = some v → Value.okWide C.prog W .any base t v) →
      DataW.Whole enc C.prog fn.params.toList s.vars apart W args.toList ds gs before → W.ShapedOpen C.prog →
      Calls C.prog f args W fun e W' => ∃ v, e = .returned v ∧ s.post enc C.prog fn apart fresh handsOn again W args v W') :
    ReturnsInHanded a C os f .any (s.pre6 enc C.prog fn conds apart) (s.post enc C.prog fn apart fresh handsOn again) := by
  refine returnsInHanded_of_calls own started noInit witness ?_
  intro w tape i _ hsh _ hok hpre hholds
  obtain ⟨_, _, _, fn', hfn', _, _, _, _, hval⟩ := hok
  have e : fn' = fn := Option.some.inj (hfn'.symm.trans hfn)
  subst e
  obtain ⟨⟨ds, gs, before, hw, hc⟩, _⟩ := hpre
  have hw' := DataW.Whole.of_heap (w' := w.forCall tape i) (by rfl) hw
  refine (contract (w.forCall tape i) w.heap.size i.args ds gs before hval hw' hsh).mono fun e W' ⟨v, he, hp⟩ => ?_
  subst he
  exact ChangeSpec.post_blind hp
theorem gl_eq : glOf Try.prog = [(0, .int)] := by kernel_rfl
theorem lt_of_cell {W : World} {b : Nat} {v : Value} (h : W.cell? ⟨b, 0, none⟩ = some v) : b < W.heap.size := by
  rcases Nat.lt_or_ge b W.heap.size with h1 | h1
  · exact h1
  · simp [World.cell?, Array.getElem?_eq_none h1] at h
theorem gokM {W : World} (hsh : W.ShapedOpen Try.prog) : GOk Try.prog W := by
  obtain ⟨m, hm⟩ : ∃ m, W.cell? ⟨0, 0, none⟩ = some (.int .i64 m) := Go.Proofs.cell_of_shapedOpen_int (zero := #[.int .i64 0]) (t := 3) hsh (of_decide_eq_true (by kernel_rfl)) (by kernel_rfl) rfl (by kernel_rfl) (by kernel_rfl) Try.underlying3
  intro p hp
  rw [gl_eq] at hp
  obtain rfl := List.mem_singleton.1 hp
  exact ⟨lt_of_cell hm, m, hm⟩
end Go.Proofs.Ythpffaofpcikiaa
