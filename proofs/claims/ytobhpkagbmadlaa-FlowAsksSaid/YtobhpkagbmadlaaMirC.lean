/-
  Reading the cells of the plain types (printed by gen_mirc.py).
-/
import Derived.Test.YtobhpkagbmadlaaMirA
set_option linter.unusedSimpArgs false
set_option linter.unusedVariables false
namespace Go.Lg
open Go Go.RowKit

theorem MPath.c0 (x : MPath) : ldV false 1 x.cells 0 = some (.int .i64 x.loc) := by simp [ldV, MPath.cells]
theorem MPath.c1 (x : MPath) : ldV false 1 x.cells 1 = some (encL cS x.steps) := by simp [ldV, MPath.cells]
theorem MPath.call (x : MPath) : ldV true 2 x.cells 0 = some (.agg x.cells) := by simp only [ldV, if_true, Nat.zero_add, MPath.len, Nat.le_refl, List.drop_zero]; rw [List.take_of_length_le (by rw [MPath.len]; exact Nat.le_refl _)]
theorem MPath.snapc (x : MPath) (H : Heap) (d : Nat) : x.cells.map (snap H (d + 1)) = x.cells := by simp [MPath.cells, snap, encL]
theorem MPath.sokc (x : MPath) (H : Heap) (d : Nat) : x.cells.all (sok H (d + 1)) = true := by simp [MPath.cells, sok, encL]
theorem MPath.onec (x : MPath) : x.cells.all V.one = true := by simp [MPath.cells, V.one, encL]
theorem MPath.imvc (x : MPath) (d : Nat) : x.cells.all (imV (d + 1)) = true := by simp [MPath.cells, imV, encL]
theorem MOper.c0 (x : MOper) : ldV false 1 x.cells 0 = some (.int .i64 x.kind) := by simp [ldV, MOper.cells]
theorem MOper.c1 (x : MOper) : ldV false 1 x.cells 1 = some (.int .i64 x.n) := by simp [ldV, MOper.cells]
theorem MOper.c2 (x : MOper) : ldV false 1 x.cells 2 = some (.int .i64 x.path.loc) := by simp [ldV, MOper.cells]
theorem MOper.c3 (x : MOper) : ldV false 1 x.cells 3 = some (encL cS x.path.steps) := by simp [ldV, MOper.cells]
theorem MOper.call (x : MOper) : ldV true 4 x.cells 0 = some (.agg x.cells) := by simp only [ldV, if_true, Nat.zero_add, MOper.len, Nat.le_refl, List.drop_zero]; rw [List.take_of_length_le (by rw [MOper.len]; exact Nat.le_refl _)]
theorem MOper.s2_2 (x : MOper) : ldV true 2 x.cells 2 = some (.agg x.path.cells) := by simp [ldV, MOper.cells, MPath.cells]
theorem MOper.snapc (x : MOper) (H : Heap) (d : Nat) : x.cells.map (snap H (d + 1)) = x.cells := by simp [MOper.cells, snap, encL]
theorem MOper.sokc (x : MOper) (H : Heap) (d : Nat) : x.cells.all (sok H (d + 1)) = true := by simp [MOper.cells, sok, encL]
theorem MOper.onec (x : MOper) : x.cells.all V.one = true := by simp [MOper.cells, V.one, encL]
theorem MOper.imvc (x : MOper) (d : Nat) : x.cells.all (imV (d + 1)) = true := by simp [MOper.cells, imV, encL]
theorem MVal.c0 (x : MVal) : ldV false 1 x.cells 0 = some (.int .i64 x.kind) := by simp [ldV, MVal.cells]
theorem MVal.c1 (x : MVal) : ldV false 1 x.cells 1 = some (.int .i64 x.a.kind) := by simp [ldV, MVal.cells]
theorem MVal.c2 (x : MVal) : ldV false 1 x.cells 2 = some (.int .i64 x.a.n) := by simp [ldV, MVal.cells]
theorem MVal.c3 (x : MVal) : ldV false 1 x.cells 3 = some (.int .i64 x.a.path.loc) := by simp [ldV, MVal.cells]
theorem MVal.c4 (x : MVal) : ldV false 1 x.cells 4 = some (encL cS x.a.path.steps) := by simp [ldV, MVal.cells]
theorem MVal.c5 (x : MVal) : ldV false 1 x.cells 5 = some (.int .i64 x.b.kind) := by simp [ldV, MVal.cells]
theorem MVal.c6 (x : MVal) : ldV false 1 x.cells 6 = some (.int .i64 x.b.n) := by simp [ldV, MVal.cells]
theorem MVal.c7 (x : MVal) : ldV false 1 x.cells 7 = some (.int .i64 x.b.path.loc) := by simp [ldV, MVal.cells]
theorem MVal.c8 (x : MVal) : ldV false 1 x.cells 8 = some (encL cS x.b.path.steps) := by simp [ldV, MVal.cells]
theorem MVal.c9 (x : MVal) : ldV false 1 x.cells 9 = some (.int .i64 x.op) := by simp [ldV, MVal.cells]
theorem MVal.c10 (x : MVal) : ldV false 1 x.cells 10 = some (.int .i64 x.path.loc) := by simp [ldV, MVal.cells]
theorem MVal.c11 (x : MVal) : ldV false 1 x.cells 11 = some (encL cS x.path.steps) := by simp [ldV, MVal.cells]
theorem MVal.c12 (x : MVal) : ldV false 1 x.cells 12 = some (.int .i64 x.region) := by simp [ldV, MVal.cells]
theorem MVal.c13 (x : MVal) : ldV false 1 x.cells 13 = some (.str x.name) := by simp [ldV, MVal.cells]
theorem MVal.c14 (x : MVal) : ldV false 1 x.cells 14 = some (encL cI x.regions) := by simp [ldV, MVal.cells]
theorem MVal.c15 (x : MVal) : ldV false 1 x.cells 15 = some (encL MOper.cells x.args) := by simp [ldV, MVal.cells]
theorem MVal.call (x : MVal) : ldV true 16 x.cells 0 = some (.agg x.cells) := by simp only [ldV, if_true, Nat.zero_add, MVal.len, Nat.le_refl, List.drop_zero]; rw [List.take_of_length_le (by rw [MVal.len]; exact Nat.le_refl _)]
theorem MVal.s1_4 (x : MVal) : ldV true 4 x.cells 1 = some (.agg x.a.cells) := by simp [ldV, MVal.cells, MOper.cells]
theorem MVal.s5_4 (x : MVal) : ldV true 4 x.cells 5 = some (.agg x.b.cells) := by simp [ldV, MVal.cells, MOper.cells]
theorem MVal.s10_2 (x : MVal) : ldV true 2 x.cells 10 = some (.agg x.path.cells) := by simp [ldV, MVal.cells, MPath.cells]
theorem MVal.s3_2 (x : MVal) : ldV true 2 x.cells 3 = some (.agg x.a.path.cells) := by simp [ldV, MVal.cells, MPath.cells]
theorem MVal.s7_2 (x : MVal) : ldV true 2 x.cells 7 = some (.agg x.b.path.cells) := by simp [ldV, MVal.cells, MPath.cells]
theorem MVal.snapc (x : MVal) (H : Heap) (d : Nat) : x.cells.map (snap H (d + 1)) = x.cells := by simp [MVal.cells, snap, encL]
theorem MVal.sokc (x : MVal) (H : Heap) (d : Nat) : x.cells.all (sok H (d + 1)) = true := by simp [MVal.cells, sok, encL]
theorem MVal.onec (x : MVal) : x.cells.all V.one = true := by simp [MVal.cells, V.one, encL]
theorem MVal.imvc (x : MVal) (d : Nat) : x.cells.all (imV (d + 1)) = true := by simp [MVal.cells, imV, encL]
theorem MInst.c0 (x : MInst) : ldV false 1 x.cells 0 = some (.int .i64 x.kind) := by simp [ldV, MInst.cells]
theorem MInst.c1 (x : MInst) : ldV false 1 x.cells 1 = some (.int .i64 x.at') := by simp [ldV, MInst.cells]
theorem MInst.c2 (x : MInst) : ldV false 1 x.cells 2 = some (.bool x.has) := by simp [ldV, MInst.cells]
theorem MInst.c3 (x : MInst) : ldV false 1 x.cells 3 = some (.int .i64 x.to.loc) := by simp [ldV, MInst.cells]
theorem MInst.c4 (x : MInst) : ldV false 1 x.cells 4 = some (encL cS x.to.steps) := by simp [ldV, MInst.cells]
theorem MInst.c5 (x : MInst) : ldV false 1 x.cells 5 = some (.int .i64 x.val.kind) := by simp [ldV, MInst.cells]
theorem MInst.c6 (x : MInst) : ldV false 1 x.cells 6 = some (.int .i64 x.val.a.kind) := by simp [ldV, MInst.cells]
theorem MInst.c7 (x : MInst) : ldV false 1 x.cells 7 = some (.int .i64 x.val.a.n) := by simp [ldV, MInst.cells]
theorem MInst.c8 (x : MInst) : ldV false 1 x.cells 8 = some (.int .i64 x.val.a.path.loc) := by simp [ldV, MInst.cells]
theorem MInst.c9 (x : MInst) : ldV false 1 x.cells 9 = some (encL cS x.val.a.path.steps) := by simp [ldV, MInst.cells]
theorem MInst.c10 (x : MInst) : ldV false 1 x.cells 10 = some (.int .i64 x.val.b.kind) := by simp [ldV, MInst.cells]
theorem MInst.c11 (x : MInst) : ldV false 1 x.cells 11 = some (.int .i64 x.val.b.n) := by simp [ldV, MInst.cells]
theorem MInst.c12 (x : MInst) : ldV false 1 x.cells 12 = some (.int .i64 x.val.b.path.loc) := by simp [ldV, MInst.cells]
theorem MInst.c13 (x : MInst) : ldV false 1 x.cells 13 = some (encL cS x.val.b.path.steps) := by simp [ldV, MInst.cells]
theorem MInst.c14 (x : MInst) : ldV false 1 x.cells 14 = some (.int .i64 x.val.op) := by simp [ldV, MInst.cells]
theorem MInst.c15 (x : MInst) : ldV false 1 x.cells 15 = some (.int .i64 x.val.path.loc) := by simp [ldV, MInst.cells]
theorem MInst.c16 (x : MInst) : ldV false 1 x.cells 16 = some (encL cS x.val.path.steps) := by simp [ldV, MInst.cells]
theorem MInst.c17 (x : MInst) : ldV false 1 x.cells 17 = some (.int .i64 x.val.region) := by simp [ldV, MInst.cells]
theorem MInst.c18 (x : MInst) : ldV false 1 x.cells 18 = some (.str x.val.name) := by simp [ldV, MInst.cells]
theorem MInst.c19 (x : MInst) : ldV false 1 x.cells 19 = some (encL cI x.val.regions) := by simp [ldV, MInst.cells]
theorem MInst.c20 (x : MInst) : ldV false 1 x.cells 20 = some (encL MOper.cells x.val.args) := by simp [ldV, MInst.cells]
theorem MInst.c21 (x : MInst) : ldV false 1 x.cells 21 = some (encL cI x.next) := by simp [ldV, MInst.cells]
theorem MInst.call (x : MInst) : ldV true 22 x.cells 0 = some (.agg x.cells) := by simp only [ldV, if_true, Nat.zero_add, MInst.len, Nat.le_refl, List.drop_zero]; rw [List.take_of_length_le (by rw [MInst.len]; exact Nat.le_refl _)]
theorem MInst.s3_2 (x : MInst) : ldV true 2 x.cells 3 = some (.agg x.to.cells) := by simp [ldV, MInst.cells, MPath.cells]
theorem MInst.s5_16 (x : MInst) : ldV true 16 x.cells 5 = some (.agg x.val.cells) := by simp [ldV, MInst.cells, MVal.cells]
theorem MInst.s6_4 (x : MInst) : ldV true 4 x.cells 6 = some (.agg x.val.a.cells) := by simp [ldV, MInst.cells, MOper.cells]
theorem MInst.s10_4 (x : MInst) : ldV true 4 x.cells 10 = some (.agg x.val.b.cells) := by simp [ldV, MInst.cells, MOper.cells]
theorem MInst.s15_2 (x : MInst) : ldV true 2 x.cells 15 = some (.agg x.val.path.cells) := by simp [ldV, MInst.cells, MPath.cells]
theorem MInst.s8_2 (x : MInst) : ldV true 2 x.cells 8 = some (.agg x.val.a.path.cells) := by simp [ldV, MInst.cells, MPath.cells]
theorem MInst.s12_2 (x : MInst) : ldV true 2 x.cells 12 = some (.agg x.val.b.path.cells) := by simp [ldV, MInst.cells, MPath.cells]
theorem MInst.snapc (x : MInst) (H : Heap) (d : Nat) : x.cells.map (snap H (d + 1)) = x.cells := by simp [MInst.cells, snap, encL]
theorem MInst.sokc (x : MInst) (H : Heap) (d : Nat) : x.cells.all (sok H (d + 1)) = true := by simp [MInst.cells, sok, encL]
theorem MInst.onec (x : MInst) : x.cells.all V.one = true := by simp [MInst.cells, V.one, encL]
theorem MInst.imvc (x : MInst) (d : Nat) : x.cells.all (imV (d + 1)) = true := by simp [MInst.cells, imV, encL]
theorem RT.c0 (x : RT) : ldV false 1 x.cells 0 = some (.int .i64 x.kind) := by simp [ldV, RT.cells_eq]
theorem RT.c1 (x : RT) : ldV false 1 x.cells 1 = some (.str x.name) := by simp [ldV, RT.cells_eq]
theorem RT.c2 (x : RT) : ldV false 1 x.cells 2 = some (encL cI x.regions) := by simp [ldV, RT.cells_eq]
theorem RT.c3 (x : RT) : ldV false 1 x.cells 3 = some (encL RT.cells x.elem) := by simp [ldV, RT.cells_eq]
theorem RT.call (x : RT) : ldV true 4 x.cells 0 = some (.agg x.cells) := by simp only [ldV, if_true, Nat.zero_add, RT.len, Nat.le_refl, List.drop_zero]; rw [List.take_of_length_le (by rw [RT.len]; exact Nat.le_refl _)]
theorem RT.snapc (x : RT) (H : Heap) (d : Nat) : x.cells.map (snap H (d + 1)) = x.cells := by simp [RT.cells_eq, snap, encL]
theorem RT.sokc (x : RT) (H : Heap) (d : Nat) : x.cells.all (sok H (d + 1)) = true := by simp [RT.cells_eq, sok, encL]
theorem RT.onec (x : RT) : x.cells.all V.one = true := by simp [RT.cells_eq, V.one, encL]
theorem RT.imvc (x : RT) (d : Nat) : x.cells.all (imV (d + 1)) = true := by simp [RT.cells_eq, imV, encL]
theorem MLocal.c0 (x : MLocal) : ldV false 1 x.cells 0 = some (.str x.name) := by simp [ldV, MLocal.cells]
theorem MLocal.c1 (x : MLocal) : ldV false 1 x.cells 1 = some (.int .i64 x.type.kind) := by simp [ldV, MLocal.cells]
theorem MLocal.c2 (x : MLocal) : ldV false 1 x.cells 2 = some (.str x.type.name) := by simp [ldV, MLocal.cells]
theorem MLocal.c3 (x : MLocal) : ldV false 1 x.cells 3 = some (encL cI x.type.regions) := by simp [ldV, MLocal.cells]
theorem MLocal.c4 (x : MLocal) : ldV false 1 x.cells 4 = some (encL RT.cells x.type.elem) := by simp [ldV, MLocal.cells]
theorem MLocal.c5 (x : MLocal) : ldV false 1 x.cells 5 = some (.bool x.param) := by simp [ldV, MLocal.cells]
theorem MLocal.call (x : MLocal) : ldV true 6 x.cells 0 = some (.agg x.cells) := by simp only [ldV, if_true, Nat.zero_add, MLocal.len, Nat.le_refl, List.drop_zero]; rw [List.take_of_length_le (by rw [MLocal.len]; exact Nat.le_refl _)]
theorem MLocal.s1_4 (x : MLocal) : ldV true 4 x.cells 1 = some (.agg x.type.cells) := by simp [ldV, MLocal.cells, RT.cells_eq]
theorem MLocal.snapc (x : MLocal) (H : Heap) (d : Nat) : x.cells.map (snap H (d + 1)) = x.cells := by simp [MLocal.cells, snap, encL]
theorem MLocal.sokc (x : MLocal) (H : Heap) (d : Nat) : x.cells.all (sok H (d + 1)) = true := by simp [MLocal.cells, sok, encL]
theorem MLocal.onec (x : MLocal) : x.cells.all V.one = true := by simp [MLocal.cells, V.one, encL]
theorem MLocal.imvc (x : MLocal) (d : Nat) : x.cells.all (imV (d + 1)) = true := by simp [MLocal.cells, imV, encL]
theorem Mir.c0 (x : Mir) : ldV false 1 x.cells 0 = some (.int .i64 x.at') := by simp [ldV, Mir.cells]
theorem Mir.c1 (x : Mir) : ldV false 1 x.cells 1 = some (.int .i64 x.free) := by simp [ldV, Mir.cells]
theorem Mir.c2 (x : Mir) : ldV false 1 x.cells 2 = some (.int .i64 x.regions) := by simp [ldV, Mir.cells]
theorem Mir.c3 (x : Mir) : ldV false 1 x.cells 3 = some (encL (fun k : List Int => k.flatMap cI) x.known) := by simp [ldV, Mir.cells]
theorem Mir.c4 (x : Mir) : ldV false 1 x.cells 4 = some (encL MLocal.cells x.locals) := by simp [ldV, Mir.cells]
theorem Mir.c5 (x : Mir) : ldV false 1 x.cells 5 = some (encL MInst.cells x.code) := by simp [ldV, Mir.cells]
theorem Mir.call (x : Mir) : ldV true 6 x.cells 0 = some (.agg x.cells) := by simp only [ldV, if_true, Nat.zero_add, Mir.len, Nat.le_refl, List.drop_zero]; rw [List.take_of_length_le (by rw [Mir.len]; exact Nat.le_refl _)]
theorem Mir.snapc (x : Mir) (H : Heap) (d : Nat) : x.cells.map (snap H (d + 1)) = x.cells := by simp [Mir.cells, snap, encL]
theorem Mir.sokc (x : Mir) (H : Heap) (d : Nat) : x.cells.all (sok H (d + 1)) = true := by simp [Mir.cells, sok, encL]
theorem Mir.onec (x : Mir) : x.cells.all V.one = true := by simp [Mir.cells, V.one, encL]
theorem Mir.imvc (x : Mir) (d : Nat) : x.cells.all (imV (d + 1)) = true := by simp [Mir.cells, imV, encL]

theorem ld_flat {α : Type} {f : α → List V} {s : Nat} (hf : ∀ x, (f x).length = s) {l : List α} {i j n : Nat} {agg : Bool} (h : i < l.length) (hj : j + n ≤ s) (hn : 0 < n) : ldV agg n (l.flatMap f) (i * s + j) = ldV agg n (f l[i]) j := by
  unfold ldV
  cases agg with
  | false => simp only [Bool.false_eq_true, if_false]; exact flat_cell hf l i j h (by omega)
  | true =>
    have hm : i * s + s ≤ l.length * s := by
      have := Nat.mul_le_mul_right s (show i + 1 ≤ l.length by omega)
      rw [Nat.add_mul] at this; omega
    simp only [if_true]
    rw [if_pos (by rw [flat_len hf]; omega), if_pos (by rw [hf]; exact hj), ← flat_rec hf l i h, ← List.drop_drop, List.drop_take, List.take_take, Nat.min_eq_left (by omega)]

theorem ld_flat0 {α : Type} {f : α → List V} {s : Nat} (hf : ∀ x, (f x).length = s) {l : List α} {i n : Nat} {agg : Bool} (h : i < l.length) (hj : n ≤ s) (hn : 0 < n) : ldV agg n (l.flatMap f) (i * s) = ldV agg n (f l[i]) 0 :=
  ld_flat hf (j := 0) h (by omega) hn

theorem ld_cI {l : List Int} {i : Nat} (h : i < l.length) : ldV false 1 (l.flatMap cI) i = some (.int .i64 l[i]) := by
  have := ld_flat0 (agg := false) (n := 1) cI_len h (by decide) (by decide)
  rw [Nat.mul_one] at this; rw [this]; rfl
theorem ld_cB {l : List Bool} {i : Nat} (h : i < l.length) : ldV false 1 (l.flatMap cB) i = some (.bool l[i]) := by
  have := ld_flat0 (agg := false) (n := 1) cB_len h (by decide) (by decide)
  rw [Nat.mul_one] at this; rw [this]; rfl
theorem ld_cS {l : List ByteArray} {i : Nat} (h : i < l.length) : ldV false 1 (l.flatMap cS) i = some (.str l[i]) := by
  have := ld_flat0 (agg := false) (n := 1) cS_len h (by decide) (by decide)
  rw [Nat.mul_one] at this; rw [this]; rfl

theorem ld_one (v : V) : ldV false 1 [v] 0 = some v := rfl
theorem ld_cI0 (n : Int) : ldV false 1 (cI n) 0 = some (.int .i64 n) := rfl

theorem MInst.ld {l : List MInst} {i j n : Nat} {agg : Bool} (h : i < l.length) (hj : j + n ≤ 22) (hn : 0 < n) : ldV agg n (l.flatMap MInst.cells) (i * 22 + j) = ldV agg n l[i].cells j := ld_flat MInst.len h hj hn
theorem MInst.ld0 {l : List MInst} {i n : Nat} {agg : Bool} (h : i < l.length) (hj : n ≤ 22) (hn : 0 < n) : ldV agg n (l.flatMap MInst.cells) (i * 22) = ldV agg n l[i].cells 0 := ld_flat0 MInst.len h hj hn
theorem MLocal.ld {l : List MLocal} {i j n : Nat} {agg : Bool} (h : i < l.length) (hj : j + n ≤ 6) (hn : 0 < n) : ldV agg n (l.flatMap MLocal.cells) (i * 6 + j) = ldV agg n l[i].cells j := ld_flat MLocal.len h hj hn
theorem MLocal.ld0 {l : List MLocal} {i n : Nat} {agg : Bool} (h : i < l.length) (hj : n ≤ 6) (hn : 0 < n) : ldV agg n (l.flatMap MLocal.cells) (i * 6) = ldV agg n l[i].cells 0 := ld_flat0 MLocal.len h hj hn
theorem MOper.ld {l : List MOper} {i j n : Nat} {agg : Bool} (h : i < l.length) (hj : j + n ≤ 4) (hn : 0 < n) : ldV agg n (l.flatMap MOper.cells) (i * 4 + j) = ldV agg n l[i].cells j := ld_flat MOper.len h hj hn
theorem MOper.ld0 {l : List MOper} {i n : Nat} {agg : Bool} (h : i < l.length) (hj : n ≤ 4) (hn : 0 < n) : ldV agg n (l.flatMap MOper.cells) (i * 4) = ldV agg n l[i].cells 0 := ld_flat0 MOper.len h hj hn
theorem RT.ld {l : List RT} {i j n : Nat} {agg : Bool} (h : i < l.length) (hj : j + n ≤ 4) (hn : 0 < n) : ldV agg n (l.flatMap RT.cells) (i * 4 + j) = ldV agg n l[i].cells j := ld_flat RT.len h hj hn
theorem RT.ld0 {l : List RT} {i n : Nat} {agg : Bool} (h : i < l.length) (hj : n ≤ 4) (hn : 0 < n) : ldV agg n (l.flatMap RT.cells) (i * 4) = ldV agg n l[i].cells 0 := ld_flat0 RT.len h hj hn
theorem MPath.ld {l : List MPath} {i j n : Nat} {agg : Bool} (h : i < l.length) (hj : j + n ≤ 2) (hn : 0 < n) : ldV agg n (l.flatMap MPath.cells) (i * 2 + j) = ldV agg n l[i].cells j := ld_flat MPath.len h hj hn
theorem MPath.ld0 {l : List MPath} {i n : Nat} {agg : Bool} (h : i < l.length) (hj : n ≤ 2) (hn : 0 < n) : ldV agg n (l.flatMap MPath.cells) (i * 2) = ldV agg n l[i].cells 0 := ld_flat0 MPath.len h hj hn

theorem setCells_all {cs xs : List V} (h : cs.length = xs.length) : setCells cs 0 xs = xs := by
  simp [setCells, h]
theorem snap_sl {H : Heap} {d n : Nat} {cs : List V} : snap H (d + 1) (.sl n cs) = .sl n cs := rfl
end Go.Lg
