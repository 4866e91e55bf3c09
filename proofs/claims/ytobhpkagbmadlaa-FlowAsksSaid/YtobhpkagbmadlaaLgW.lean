/-
  Lists of numbers, bools, texts as cells.
-/
import Derived.Test.YtobhpkagbmadlaaMirC
import Derived.Test.YtobhpkagbmadlaaLgU
set_option linter.unusedSimpArgs false
set_option linter.unusedVariables false
namespace Go.Lg
open Go Go.RowKit

theorem li_len (l : List Int) : (l.flatMap cI).length = l.length := by rw [flat_len cI_len, Nat.mul_one]
theorem li_snap (H : Heap) (d : Nat) (l : List Int) : (l.flatMap cI).map (snap H (d + 1)) = l.flatMap cI := by
  induction l with
  | nil => rfl
  | cons x r ih => rw [List.flatMap_cons, List.map_append, ih]; rfl
theorem li_sok (H : Heap) (d : Nat) (l : List Int) : (l.flatMap cI).all (sok H (d + 1)) = true := by
  induction l with
  | nil => rfl
  | cons x r ih => rw [List.flatMap_cons, List.all_append, ih]; rfl
theorem li_one (l : List Int) : (l.flatMap cI).all V.one = true := by
  induction l with
  | nil => rfl
  | cons x r ih => rw [List.flatMap_cons, List.all_append, ih]; rfl
theorem li_imv (d : Nat) (l : List Int) : (l.flatMap cI).all (imV d) = true := by
  induction l with
  | nil => rfl
  | cons x r ih => rw [List.flatMap_cons, List.all_append, ih]; cases d <;> rfl
theorem li_flat (d : Nat) (l : List Int) : (l.flatMap cI).all (flat d) = true := by
  induction l with
  | nil => rfl
  | cons x r ih => rw [List.flatMap_cons, List.all_append, ih]; cases d <;> rfl
theorem li_take {l : List Int} {n : Nat} (h : l.length ≤ n) : (l.flatMap cI).take n = l.flatMap cI := List.take_of_length_le (by rw [li_len]; exact h)
theorem li_set {l : List Int} {k : Nat} {v : Int} (h : k < l.length) : setCells (l.flatMap cI) k [.int .i64 v] = (l.set k v).flatMap cI := by
  induction l generalizing k with
  | nil => cases h
  | cons x r ih =>
    cases k with
    | zero => simp [setCells, cI]
    | succ k =>
      have := ih (k := k) (by simpa using h)
      simp only [setCells, List.flatMap_cons, List.set_cons_succ, cI, List.cons_append, List.nil_append, List.length_singleton, List.take_succ_cons] at this ⊢
      rw [show k + 1 + 1 = (k + 1) + 1 from rfl, List.drop_succ_cons, this]
theorem li_app (l : List Int) (x : Int) : l.flatMap cI ++ [.int .i64 x] = (l ++ [x]).flatMap cI := by rw [List.flatMap_append]; rfl
theorem li_app0 (x : Int) : ([.int .i64 x] : List V) = [x].flatMap cI := rfl
theorem li_mk (n : Nat) : (List.replicate n [V.int .i64 0]).flatten = (List.replicate n (0 : Int)).flatMap cI := by rw [List.flatMap_def, List.map_replicate]; rfl
theorem lb_len (l : List Bool) : (l.flatMap cB).length = l.length := by rw [flat_len cB_len, Nat.mul_one]
theorem lb_snap (H : Heap) (d : Nat) (l : List Bool) : (l.flatMap cB).map (snap H (d + 1)) = l.flatMap cB := by
  induction l with
  | nil => rfl
  | cons x r ih => rw [List.flatMap_cons, List.map_append, ih]; rfl
theorem lb_sok (H : Heap) (d : Nat) (l : List Bool) : (l.flatMap cB).all (sok H (d + 1)) = true := by
  induction l with
  | nil => rfl
  | cons x r ih => rw [List.flatMap_cons, List.all_append, ih]; rfl
theorem lb_one (l : List Bool) : (l.flatMap cB).all V.one = true := by
  induction l with
  | nil => rfl
  | cons x r ih => rw [List.flatMap_cons, List.all_append, ih]; rfl
theorem lb_imv (d : Nat) (l : List Bool) : (l.flatMap cB).all (imV d) = true := by
  induction l with
  | nil => rfl
  | cons x r ih => rw [List.flatMap_cons, List.all_append, ih]; cases d <;> rfl
theorem lb_flat (d : Nat) (l : List Bool) : (l.flatMap cB).all (flat d) = true := by
  induction l with
  | nil => rfl
  | cons x r ih => rw [List.flatMap_cons, List.all_append, ih]; cases d <;> rfl
theorem lb_take {l : List Bool} {n : Nat} (h : l.length ≤ n) : (l.flatMap cB).take n = l.flatMap cB := List.take_of_length_le (by rw [lb_len]; exact h)
theorem lb_set {l : List Bool} {k : Nat} {v : Bool} (h : k < l.length) : setCells (l.flatMap cB) k [.bool v] = (l.set k v).flatMap cB := by
  induction l generalizing k with
  | nil => cases h
  | cons x r ih =>
    cases k with
    | zero => simp [setCells, cB]
    | succ k =>
      have := ih (k := k) (by simpa using h)
      simp only [setCells, List.flatMap_cons, List.set_cons_succ, cB, List.cons_append, List.nil_append, List.length_singleton, List.take_succ_cons] at this ⊢
      rw [show k + 1 + 1 = (k + 1) + 1 from rfl, List.drop_succ_cons, this]
theorem lb_app (l : List Bool) (x : Bool) : l.flatMap cB ++ [.bool x] = (l ++ [x]).flatMap cB := by rw [List.flatMap_append]; rfl
theorem lb_app0 (x : Bool) : ([.bool x] : List V) = [x].flatMap cB := rfl
theorem lb_mk (n : Nat) : (List.replicate n [V.bool false]).flatten = (List.replicate n (false : Bool)).flatMap cB := by rw [List.flatMap_def, List.map_replicate]; rfl
theorem ls_len (l : List ByteArray) : (l.flatMap cS).length = l.length := by rw [flat_len cS_len, Nat.mul_one]
theorem ls_snap (H : Heap) (d : Nat) (l : List ByteArray) : (l.flatMap cS).map (snap H (d + 1)) = l.flatMap cS := by
  induction l with
  | nil => rfl
  | cons x r ih => rw [List.flatMap_cons, List.map_append, ih]; rfl
theorem ls_sok (H : Heap) (d : Nat) (l : List ByteArray) : (l.flatMap cS).all (sok H (d + 1)) = true := by
  induction l with
  | nil => rfl
  | cons x r ih => rw [List.flatMap_cons, List.all_append, ih]; rfl
theorem ls_one (l : List ByteArray) : (l.flatMap cS).all V.one = true := by
  induction l with
  | nil => rfl
  | cons x r ih => rw [List.flatMap_cons, List.all_append, ih]; rfl
theorem ls_imv (d : Nat) (l : List ByteArray) : (l.flatMap cS).all (imV d) = true := by
  induction l with
  | nil => rfl
  | cons x r ih => rw [List.flatMap_cons, List.all_append, ih]; cases d <;> rfl
theorem ls_flat (d : Nat) (l : List ByteArray) : (l.flatMap cS).all (flat d) = true := by
  induction l with
  | nil => rfl
  | cons x r ih => rw [List.flatMap_cons, List.all_append, ih]; cases d <;> rfl
theorem ls_take {l : List ByteArray} {n : Nat} (h : l.length ≤ n) : (l.flatMap cS).take n = l.flatMap cS := List.take_of_length_le (by rw [ls_len]; exact h)
theorem ls_set {l : List ByteArray} {k : Nat} {v : ByteArray} (h : k < l.length) : setCells (l.flatMap cS) k [.str v] = (l.set k v).flatMap cS := by
  induction l generalizing k with
  | nil => cases h
  | cons x r ih =>
    cases k with
    | zero => simp [setCells, cS]
    | succ k =>
      have := ih (k := k) (by simpa using h)
      simp only [setCells, List.flatMap_cons, List.set_cons_succ, cS, List.cons_append, List.nil_append, List.length_singleton, List.take_succ_cons] at this ⊢
      rw [show k + 1 + 1 = (k + 1) + 1 from rfl, List.drop_succ_cons, this]
theorem ls_app (l : List ByteArray) (x : ByteArray) : l.flatMap cS ++ [.str x] = (l ++ [x]).flatMap cS := by rw [List.flatMap_append]; rfl
theorem ls_app0 (x : ByteArray) : ([.str x] : List V) = [x].flatMap cS := rfl

end Go.Lg
