/-
  The table of layer 13's functions with the library's own by their contracts; the layer's told() hands back true.
-/
import Derived.Test.YtalihpfjkfeibaaGreatDoorFtb
import Derived.Test.YtalihpfjkfeibaaGreatDoorLib
import Derived.Test.YtalihpfjkfeibaaGreatDoorAs
import Derived.Test.YtalihpfjkfeibaaGreatDoorEi
set_option linter.unusedSimpArgs false
set_option linter.unusedVariables false
namespace Go.Proofs.YtalihpfjkfeibaaGreatDoor
open Go Go.Lg Go.RowKit
set_option maxRecDepth 100000

theorem gl_eq : glOf Tryz.prog = [(1, .int), (0, .val (.iface 230 (.agg #[.pointer (some ⟨2, 32, none⟩)])))] := by kernel_rfl
theorem gok_err {w : World} (h : GOk Tryz.prog w) : w.cell? ⟨0, 0, none⟩ = some (.iface 230 (.agg #[.pointer (some ⟨2, 32, none⟩)])) :=
  (h (0, .val (.iface 230 (.agg #[.pointer (some ⟨2, 32, none⟩)]))) (by rw [gl_eq]; simp)).2
theorem gok_max {w : World} (h : GOk Tryz.prog w) : ∃ m, w.cell? ⟨1, 0, none⟩ = some (.int .i64 m) :=
  (h (1, .int) (by rw [gl_eq]; simp)).2
theorem fxCon : FxOk Tryz.prog 176 (.ext xCon) :=
  fx_con (by kernel_rfl) fun s sub w hg hs => by
    obtain ⟨m, hm⟩ := gok_max hg
    exact Tryz.strings_Contains s sub m w hs hm
theorem fxCut : FxOk Tryz.prog 199 (.ext xCut) :=
  fx_cut (by kernel_rfl) fun s sub w hg hs => by
    obtain ⟨m, hm⟩ := gok_max hg
    exact Tryz.strings_Cut s sub m w hs hm
theorem fxAs : FxOk Tryz.prog 143 (.ext (xAs 134 192)) :=
  fx_as (by kernel_rfl) (by kernel_rfl) (fun t w => as_nil t w) fun e t old w hg ht hf => (as_hit e t old w (gok_err hg) ht hf).mono fun ev w' ⟨h1, h2⟩ => ⟨h1, _, _, _, _, h2⟩
noncomputable def tbX : Tq Fx := tbPut 143 (.ext (xAs 134 192)) (tbPut 176 (.ext xCon) (tbPut 199 (.ext xCut) tbAll))
theorem tbX_ok : TbOk Tryz.prog tbX := tb_put (tb_put (tb_put tbAll_ok (by kernel_rfl) fxCut) (by kernel_rfl) fxCon) (by kernel_rfl) fxAs
theorem told_ret : PRet Tryz.prog 18 [] (.bool true) := true_of_cl tbX_ok 60 (by kernel_rfl)
noncomputable def tbY : Tq Fx := tbPut 18 (.ext (xNil (.bool true))) tbX
theorem tbY_ok : TbOk Tryz.prog tbY := tb_put tbX_ok (by kernel_rfl) (fx_nil told_ret (by kernel_rfl))
end Go.Proofs.YtalihpfjkfeibaaGreatDoor
