/-
  Fsw Ft14: put together.
-/
import Derived.Test.YtgpeaibhhonikaaGreatDoorFtw
import Derived.Test.YtgpeaibhhonikaaGreatDoorLib
import Derived.Test.YtgpeaibhhonikaaGreatDoorAs
import Derived.Test.YtgpeaibhhonikaaGreatDoorEi
set_option linter.unusedSimpArgs false
set_option linter.unusedVariables false
namespace Go.Proofs.YtgpeaibhhonikaaGreatDoor
open Go Go.Lg Go.RowKit
set_option maxRecDepth 100000

theorem gl_eq : glOf Tryz.prog = [(1, .int), (0, .val (.iface 250 (.agg #[.pointer (some ⟨2, 58, none⟩)])))] := by kernel_rfl
theorem gok_err {w : World} (h : GOk Tryz.prog w) : w.cell? ⟨0, 0, none⟩ = some (.iface 250 (.agg #[.pointer (some ⟨2, 58, none⟩)])) :=
  (h (0, .val (.iface 250 (.agg #[.pointer (some ⟨2, 58, none⟩)]))) (by rw [gl_eq]; simp)).2
theorem gok_max {w : World} (h : GOk Tryz.prog w) : ∃ m, w.cell? ⟨1, 0, none⟩ = some (.int .i64 m) :=
  (h (1, .int) (by rw [gl_eq]; simp)).2
theorem fxCon : FxOk Tryz.prog 190 (.ext xCon) :=
  fx_con (by kernel_rfl) fun s sub w hg hs => by
    obtain ⟨m, hm⟩ := gok_max hg
    exact Tryz.strings_Contains s sub m w hs hm
theorem fxCut : FxOk Tryz.prog 226 (.ext xCut) :=
  fx_cut (by kernel_rfl) fun s sub w hg hs => by
    obtain ⟨m, hm⟩ := gok_max hg
    exact Tryz.strings_Cut s sub m w hs hm
theorem fxAs : FxOk Tryz.prog 140 (.ext (xAs 116 202)) :=
  fx_as (by kernel_rfl) (by kernel_rfl) (fun t w => as_nil t w) fun e t old w hg ht hf => (as_hit e t old w (gok_err hg) ht hf).mono fun ev w' ⟨h1, h2⟩ => ⟨h1, _, _, _, _, h2⟩
noncomputable def tbX : Tq Fx := tbPut 140 (.ext (xAs 116 202)) (tbPut 190 (.ext xCon) (tbPut 226 (.ext xCut) tbAll))
theorem tbX_ok : TbOk Tryz.prog tbX := tb_put (tb_put (tb_put tbAll_ok (by kernel_rfl) fxCut) (by kernel_rfl) fxCon) (by kernel_rfl) fxAs
end Go.Proofs.YtgpeaibhhonikaaGreatDoor

set_option linter.unusedSimpArgs false
set_option linter.unusedVariables false
namespace Go.Proofs.YtgpeaibhhonikaaGreatDoor
open Go Go.Lg Go.RowKit
set_option maxRecDepth 100000
theorem told14_ret : PRet Tryz.prog 17 [] (.bool true) := true_of_cl tbX_ok 60 (by kernel_rfl)
end Go.Proofs.YtgpeaibhhonikaaGreatDoor
