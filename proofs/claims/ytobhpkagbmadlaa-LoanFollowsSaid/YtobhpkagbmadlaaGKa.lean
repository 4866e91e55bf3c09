/-
  Texts Lib, Srt, Ctf, Cth of this claim, put together.
-/
import Derived.Test.YtobhpkagbmadlaaGG
import Derived.Test.YtobhpkagbmadlaaGF
import Derived.Test.YtobhpkagbmadlaaGFe
import Derived.Shelf.Sort.Plain
import Derived.Ground.Names2Prog
import Derived.Shelf.Slices.CompactI
import Derived.Shelf.Slices.In.SortNone
import Derived.Test.YtobhpkagbmadlaaProg
/-
  DERIVED: THE SHELF's CONTRACTS AT THIS DUMP, IN PLAIN WORDS (tools/lay-plain.mjs out of 'TryShelf.lean', which tools/lay-shelf.mjs wrote): THE SAME DECLARATIONS UNDER THE SAME NAMES: 'import', 'namespace', 'open', 'def', 'theorem' AND NOTHING ELSE: no command of the shelf's: FOR A HAND-IN. Each laying: the table of numbers ('.._ren') and one theorem, a field a fact of the dump's own or the kernel's comparison; each contract: ONE APPLICATION.
-/
namespace Go.Proofs
open Go.Shelf
def Try.lays189_ren : Go.Shelf.Ren := ⟨fun | 189 => 48 | 125 => 61 | 257 => 60 | 128 => 77 | 129 => 78 | 294 => 68 | 295 => 69 | 296 => 70 | 297 => 71 | 298 => 72 | 299 => 73 | 216 => 74 | 300 => 75 | 301 => 76 | 328 => 82 | 329 => 83 | 330 => 84 | 331 => 85 | 332 => 86 | 215 => 87 | 343 => 89 | n => n, fun | 28 => 33 | 3 => 3 | 46 => 90 | 0 => 0 | 51 => 105 | 53 => 107 | 4 => 4 | 183 => 99 | 182 => 98 | 131 => 60 | 5 => 5 | 9 => 9 | 218 => 110 | 222 => 114 | 228 => 117 | 229 => 118 | n => n, fun | n => n⟩
theorem Try.lays189 : Go.Proofs.Lays.n189 Try.prog Try.lays189_ren := {
  mixed := by kernel_rfl
  f125 := Try.func61.trans (congrArg some (by kernel_rfl))
  f128 := Try.func77.trans (congrArg some (by kernel_rfl))
  f129 := Try.func78.trans (congrArg some (by kernel_rfl))
  f189 := Try.func48.trans (congrArg some (by kernel_rfl))
  f215 := Try.func87.trans (congrArg some (by kernel_rfl))
  f216 := Try.func74.trans (congrArg some (by kernel_rfl))
  f257 := Try.func60.trans (congrArg some (by kernel_rfl))
  f294 := Try.func68.trans (congrArg some (by kernel_rfl))
  f295 := Try.func69.trans (congrArg some (by kernel_rfl))
  f296 := Try.func70.trans (congrArg some (by kernel_rfl))
  f297 := Try.func71.trans (congrArg some (by kernel_rfl))
  f298 := Try.func72.trans (congrArg some (by kernel_rfl))
  f299 := Try.func73.trans (congrArg some (by kernel_rfl))
  f300 := Try.func75.trans (congrArg some (by kernel_rfl))
  f301 := Try.func76.trans (congrArg some (by kernel_rfl))
  f328 := Try.func82.trans (congrArg some (by kernel_rfl))
  f329 := Try.func83.trans (congrArg some (by kernel_rfl))
  f330 := Try.func84.trans (congrArg some (by kernel_rfl))
  f331 := Try.func85.trans (congrArg some (by kernel_rfl))
  f332 := Try.func86.trans (congrArg some (by kernel_rfl))
  f343 := Try.func89.trans (congrArg some (by kernel_rfl))
  t0 := Try.underlying0
  a0 := Try.isAgg0
  z0 := Try.sizeOf0
  v0 := Try.zeroValue0
  t3 := Try.underlying3
  a3 := Try.isAgg3
  z3 := Try.sizeOf3
  v3 := Try.zeroValue3
  t4 := Try.underlying4
  a4 := Try.isAgg4
  z4 := Try.sizeOf4
  v4 := Try.zeroValue4
  t5 := Try.underlying5
  a5 := Try.isAgg5
  z5 := Try.sizeOf5
  v5 := Try.zeroValue5
  t9 := Try.underlying9
  a9 := Try.isAgg9
  z9 := Try.sizeOf9
  v9 := Try.zeroValue9
  t28 := Try.underlying33
  a28 := Try.isAgg33
  z28 := Try.sizeOf33
  v28 := Try.zeroValue33
  t46 := Try.underlying90
  a46 := Try.isAgg90
  z46 := Try.sizeOf90
  v46 := Try.zeroValue90
  t51 := Try.underlying105
  a51 := Try.isAgg105
  z51 := Try.sizeOf105
  v51 := Try.zeroValue105
  t53 := Try.underlying107
  a53 := Try.isAgg107
  z53 := Try.sizeOf107
  v53 := Try.zeroValue107
  t131 := Try.underlying60
  a131 := Try.isAgg60
  z131 := Try.sizeOf60
  v131 := Try.zeroValue60
  t182 := Try.underlying98
  a182 := Try.isAgg98
  z182 := Try.sizeOf98
  v182 := Try.zeroValue98
  t183 := Try.underlying99
  a183 := Try.isAgg99
  z183 := Try.sizeOf99
  v183 := Try.zeroValue99
  t218 := Try.underlying110
  a218 := Try.isAgg110
  z218 := Try.sizeOf110
  v218 := Try.zeroValue110
  t222 := Try.underlying114
  a222 := Try.isAgg114
  z222 := Try.sizeOf114
  v222 := Try.zeroValue114
  t228 := Try.underlying117
  a228 := Try.isAgg117
  z228 := Try.sizeOf117
  v228 := Try.zeroValue117
  t229 := Try.underlying118
  a229 := Try.isAgg118
  z229 := Try.sizeOf118
  v229 := Try.zeroValue118 }
open Go.Sort Go.RowKit in
theorem Try.slices_Sort_int (blk off cap : Nat) (zs : List Int) (w : World) (hH : Holds (Value.int .i64) w blk off zs.toArray) (hblk : blk < w.heap.size) (hsz : zs.length < 4611686018427387904) :
    Calls Try.prog 48 #[.slice (some ⟨blk, off, none⟩) zs.length cap] w fun e w' =>
      e = .returned (.tuple #[]) ∧ ∃ n os, w' = grow (putRow (Value.int .i64) (Sort.ahead w n) blk off (zs.mergeSort fun x y => decide (x ≤ y)).toArray) os := Any.slices_Sort_int Try.lays189 blk off cap zs w hH hblk hsz
open Go.RowKit Go.Sort in
/-- .. and plain. (LAID: no walk: one application.) -/
theorem Try.slices_Sort_int_none (p : Option Addr) (cap : Nat) (w : World) :
    Calls Try.prog 48 #[.slice p 0 cap] w fun e w' => e = .returned (.tuple #[]) ∧ w' = w := Any.slices_Sort_int_none Try.lays189 p cap w
end Go.Proofs

/-
  The library's contracts for slices.Sort and slices.Compact at []int, as the plain logic reads them.
-/
set_option linter.unusedSimpArgs false
set_option linter.unusedVariables false
namespace Go.Proofs.Ytobhpkagbmadlaa
open Go Go.Lg Go.RowKit

theorem holds_ints {imm : Nat → Prop} {w : World} {b : Nat} {us : Array Value} {T : TypeId} {fz : Nat × Nat} {l : List Int} (hb : w.heap[b]? = some (.cells us T fz)) (hf : ∀ o, o < us.size → ¬ (fz.1 ≤ o ∧ o < fz.2)) (hl : (l.flatMap cI).length ≤ us.size)
    (hr : ∀ (j : Nat) (u : Value) (x : V), us[j]? = some u → (l.flatMap cI)[j]? = some x → RepI imm w u x) : Go.Sort.Holds (Value.int .i64) w b 0 l.toArray := by
  rw [li_len] at hl
  intro j hj
  simp only [List.size_toArray] at hj
  have hju : j < us.size := by omega
  rw [Nat.zero_add]
  refine ⟨?_, frozen_at hb (hf j hju)⟩
  rw [cell_at hb, Array.getElem?_eq_getElem hju]
  have hx : (l.flatMap cI)[j]? = some (.int .i64 l[j]) := by
    have := ld_cI (l := l) (i := j) hj
    simpa [ldV] using this
  have := hr j _ _ (Array.getElem?_eq_getElem hju) hx
  generalize us[j] = u at this
  cases this with
  | int => rw [getElem!_pos _ j (by simpa using hj)]; simp

theorem putRow_blk {w : World} {b : Nat} {us : Array Value} {T : TypeId} {fz : Nat × Nat} {d : List Int} (hb : w.heap[b]? = some (.cells us T fz)) :
    (Go.Sort.putRow (Value.int .i64) w b 0 d.toArray).heap[b]? = some (.cells (Go.Sort.putCells (Value.int .i64) 0 d.toArray us) T fz) := by
  simp [Go.Sort.putRow, Go.Sort.mapBlock, Array.getElem?_modify, hb, Go.Sort.onCells]
theorem putRow_other {w : World} {b k : Nat} {d : List Int} (hk : b ≠ k) : (Go.Sort.putRow (Value.int .i64) w b 0 d.toArray).heap[k]? = w.heap[k]? := by
  simp [Go.Sort.putRow, Go.Sort.mapBlock, Array.getElem?_modify, hk]

theorem put_below {w w' : World} {b n : Nat} {os : Array Obj} {d : List Int} (hw : w' = Go.Sort.grow (Go.Sort.putRow (Value.int .i64) (Go.Sort.ahead w n) b 0 d.toArray) os) : BelowF w.heap.size (fun k => some b = some k) w w' := by
  subst hw
  refine ⟨rfl, rfl, rfl, by simp, fun k hk hne => ?_⟩
  rw [Go.Sort.heap_grow_old _ _ (by simpa using hk), putRow_other (by rintro rfl; exact hne rfl)]; rfl

theorem put_blk {imm : Nat → Prop} {w w' : World} {b n c : Nat} {us : Array Value} {T : TypeId} {fz : Nat × Nat} {os : Array Obj} {d e : List Int} (hb : w.heap[b]? = some (.cells us T fz)) (hlt : b < w.heap.size) (hf : NoFz us.size fz)
    (hd : d.length ≤ us.size) (hc : c * 1 ≤ us.size) (hw : w' = Go.Sort.grow (Go.Sort.putRow (Value.int .i64) (Go.Sort.ahead w n) b 0 (d ++ e).toArray) os) : BlkI imm w' 1 c (d.flatMap cI) b := by
  subst hw
  have hsz : (Go.Sort.putCells (Value.int .i64) 0 (d ++ e).toArray us).size = us.size := by simp [Go.Sort.putCells]
  refine ⟨Go.Sort.putCells (Value.int .i64) 0 (d ++ e).toArray us, T, fz, ?_, by rw [hsz]; exact hf, by rw [hsz, li_len]; exact hd, by rw [hsz]; exact hc, fun j u x hu hx => ?_⟩
  · rw [Go.Sort.heap_grow_old _ _ (by simpa using hlt)]
    exact putRow_blk (w := Go.Sort.ahead w n) hb
  · have hj : j < d.length := by
      have := (List.getElem?_eq_some_iff.1 hx).1
      rwa [li_len] at this
    have hx2 : (d.flatMap cI)[j]? = some (.int .i64 d[j]) := by
      have := ld_cI (l := d) (i := j) hj
      simpa [ldV] using this
    rw [hx2] at hx; cases hx
    simp only [Go.Sort.putCells, Array.getElem?_mapIdx, Option.map_eq_some_iff] at hu
    obtain ⟨v, hv, rfl⟩ := hu
    rw [if_pos ⟨Nat.zero_le _, by simp; omega⟩, Nat.sub_zero, getElem!_pos _ j (by simp; omega)]
    simp only [List.getElem_toArray, List.getElem_append_left hj]
    exact .int _ _

theorem sort_mut (l : List Int) (hl : l.length < 4611686018427387904) : PMut Try.prog 48 [] 1 l.length (l.flatMap cI) none ((sortI l).flatMap cI) := by
  refine ⟨by kernel_rfl, fun imm w vs A c blk himm hvs hrv hnc hA hblk => ?_⟩
  obtain rfl : vs = #[] := Array.eq_empty_of_size_eq_zero hvs
  rw [Array.append_empty]
  by_cases h0 : l.length = 0
  · obtain rfl := List.eq_nil_of_length_eq_zero h0
    refine (Try.slices_Sort_int_none A c w).mono ?_
    rintro e w' ⟨rfl, rfl⟩
    refine ⟨_, rfl, fun m h => (by cases h), .refl _ _ _, ?_⟩
    cases blk with
    | none => simp [sortI]
    | some b => have := hblk.2.2; simpa [sortI] using this
  · cases blk with
    | none =>
      have h1 := congrArg List.length hblk.1
      rw [li_len] at h1
      exact absurd h1 h0
    | some b =>
      obtain ⟨h1, h2, us, T, fz, q1, q2, q3, q4, q5⟩ := hblk
      rw [hA b rfl (by omega)]
      refine (Try.slices_Sort_int b 0 c l w (holds_ints q1 q2.1 q3 q5) h2 hl).mono ?_
      rintro e w' ⟨rfl, n, os, hw⟩
      rw [li_len] at q3
      refine ⟨_, rfl, fun m h => (by cases h), put_below hw, put_blk (d := sortI l) (e := []) q1 h2 q2 (by rw [sortI_len]; exact q3) q4 (by rw [List.append_nil]; exact hw)⟩

end Go.Proofs.Ytobhpkagbmadlaa

set_option linter.unusedSimpArgs false
set_option linter.unusedVariables false
namespace Go.Proofs.Ytobhpkagbmadlaa
open Go Go.Lg Go.RowKit
set_option maxRecDepth 20000

end Go.Proofs.Ytobhpkagbmadlaa

set_option linter.unusedSimpArgs false
set_option linter.unusedVariables false
namespace Go.Proofs.Ytobhpkagbmadlaa
open Go Go.Lg Go.RowKit
set_option maxRecDepth 20000

theorem sort_mut' {n : Nat} (l : List Int) (hn : n = l.length) (hl : l.length < 4611686018427387904) : PMut Try.prog 48 [] 1 n (l.flatMap cI) none ((sortI l).flatMap cI) := by
  subst hn; exact sort_mut l hl
end Go.Proofs.Ytobhpkagbmadlaa
