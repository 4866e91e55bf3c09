/-
  Texts Byt of this claim, put together.
-/
import Derived.Test.YthpffaofpcikiaaGE
/-
  Lists of numbers of one kind as cells (bytes, words).
-/
set_option linter.unusedSimpArgs false
set_option linter.unusedVariables false
namespace Go.Lg
open Go Go.RowKit

theorem wrap_u64 {n : Int} (h : 0 ≤ n) (h2 : n < 18446744073709551616) : IntKind.u64.wrap n = n := by
  have e : IntKind.u64.wrap n = n % 18446744073709551616 := rfl
  rw [e]; omega
theorem wrap_u32 {n : Int} (h : 0 ≤ n) (h2 : n < 4294967296) : IntKind.u32.wrap n = n := by
  have e : IntKind.u32.wrap n = n % 4294967296 := rfl
  rw [e]; omega
theorem wrap_u8 {n : Int} (h : 0 ≤ n) (h2 : n < 256) : IntKind.u8.wrap n = n := by
  have e : IntKind.u8.wrap n = n % 256 := rfl
  rw [e]; omega

theorem rv2 (σ : St) (a b : LRV) : [a, b].mapM (rval σ) = (rval σ a).bind fun x => (rval σ b).map fun y => [x, y] := by
  simp only [List.mapM_cons, List.mapM_nil]
  cases rval σ a <;> cases rval σ b <;> rfl
theorem rv3 (σ : St) (a b c : LRV) : [a, b, c].mapM (rval σ) = (rval σ a).bind fun x => (rval σ b).bind fun y => (rval σ c).map fun z => [x, y, z] := by
  simp only [List.mapM_cons, List.mapM_nil]
  cases rval σ a <;> cases rval σ b <;> cases rval σ c <;> rfl

theorem ld_0 (n : Nat) (x : V) (r : List V) : ldV false n (x :: r) 0 = some x := rfl
theorem ld_1 (n : Nat) (x y : V) (r : List V) : ldV false n (x :: y :: r) 1 = some y := rfl
theorem ld_2 (n : Nat) (x y z : V) (r : List V) : ldV false n (x :: y :: z :: r) 2 = some z := rfl

theorem sc_one (x y : V) : setCells [x] 0 [y] = [y] := rfl

def cK (q : IntKind) (n : Int) : List V := [.int q n]
section
variable {q : IntKind}
theorem cK_len (x : Int) : (cK q x).length = 1 := rfl
theorem lk_len (l : List Int) : (l.flatMap (cK q)).length = l.length := by rw [flat_len cK_len, Nat.mul_one]
theorem lk_snap (H : Heap) (d : Nat) (l : List Int) : (l.flatMap (cK q)).map (snap H (d + 1)) = l.flatMap (cK q) := by
  induction l with
  | nil => rfl
  | cons x r ih => rw [List.flatMap_cons, List.map_append, ih]; rfl
theorem lk_sok (H : Heap) (d : Nat) (l : List Int) : (l.flatMap (cK q)).all (sok H (d + 1)) = true := by
  induction l with
  | nil => rfl
  | cons x r ih => rw [List.flatMap_cons, List.all_append, ih]; rfl
theorem lk_one (l : List Int) : (l.flatMap (cK q)).all V.one = true := by
  induction l with
  | nil => rfl
  | cons x r ih => rw [List.flatMap_cons, List.all_append, ih]; rfl
theorem lk_imv (d : Nat) (l : List Int) : (l.flatMap (cK q)).all (imV d) = true := by
  induction l with
  | nil => rfl
  | cons x r ih => rw [List.flatMap_cons, List.all_append, ih]; cases d <;> rfl
theorem lk_flat (d : Nat) (l : List Int) : (l.flatMap (cK q)).all (flat d) = true := by
  induction l with
  | nil => rfl
  | cons x r ih => rw [List.flatMap_cons, List.all_append, ih]; cases d <;> rfl
theorem lk_ints (l : List Int) : intsK q (l.flatMap (cK q)) = true := by
  induction l with
  | nil => rfl
  | cons x r ih => simp only [List.flatMap_cons, cK, List.cons_append, List.nil_append, intsK, decide_true, Bool.true_and]; exact ih
theorem lk_eq (l m : List Int) : eqInts (l.flatMap (cK q)) (m.flatMap (cK q)) = decide (l = m) := by
  induction l generalizing m with
  | nil => cases m <;> simp [eqInts, cK]
  | cons x r ih =>
    cases m with
    | nil => simp [eqInts, cK]
    | cons y m =>
      simp only [List.flatMap_cons, cK, List.cons_append, List.nil_append, eqInts]
      rw [ih m, Bool.eq_iff_iff]; simp
theorem lk_take (n : Nat) : ∀ (l : List Int), (l.flatMap (cK q)).take n = (l.take n).flatMap (cK q) := by
  induction n with
  | zero => intro l; simp
  | succ n ih => intro l; cases l with
    | nil => simp
    | cons x l => simp only [List.flatMap_cons, cK, List.take_succ_cons, List.singleton_append]; rw [ih]
theorem lk_drop (n : Nat) : ∀ (l : List Int), (l.flatMap (cK q)).drop n = (l.drop n).flatMap (cK q) := by
  induction n with
  | zero => intro l; simp
  | succ n ih => intro l; cases l with
    | nil => simp
    | cons x l => simp only [List.flatMap_cons, cK, List.drop_succ_cons, List.singleton_append]; rw [ih]
theorem lk_at {l : List Int} {k : Nat} (h : k < l.length) : (l.flatMap (cK q))[k]? = some (.int q (l.getD k 0)) := by
  induction l generalizing k with
  | nil => cases h
  | cons x r ih =>
    cases k with
    | zero => rfl
    | succ k =>
      have := ih (k := k) (by simpa using h)
      simpa [cK] using this
theorem lk_ld {l : List Int} {k : Nat} (h : k < l.length) : ldV false 1 (l.flatMap (cK q)) k = some (.int q (l.getD k 0)) := by
  simp only [ldV, Bool.false_eq_true, if_false]; exact lk_at h
theorem lk_ldall {l : List Int} {n : Nat} (h : l.length = n) : ldV true n (l.flatMap (cK q)) 0 = some (.agg (l.flatMap (cK q))) := by
  subst h
  simp only [ldV, if_true, Nat.zero_add, lk_len, Nat.le_refl, List.drop_zero]
  rw [List.take_of_length_le (by rw [lk_len]; exact Nat.le_refl _)]
theorem lk_set {l : List Int} {k : Nat} {v : Int} (h : k < l.length) : setCells (l.flatMap (cK q)) k [.int q v] = (l.set k v).flatMap (cK q) := by
  induction l generalizing k with
  | nil => cases h
  | cons x r ih =>
    cases k with
    | zero => simp [setCells, cK]
    | succ k =>
      have := ih (k := k) (by simpa using h)
      simp only [setCells, List.flatMap_cons, List.set_cons_succ, cK, List.cons_append, List.nil_append, List.length_singleton, List.take_succ_cons] at this ⊢
      rw [show k + 1 + 1 = (k + 1) + 1 from rfl, List.drop_succ_cons, this]
theorem lk_setall {l m : List Int} (h : l.length = m.length) : setCells (l.flatMap (cK q)) 0 (m.flatMap (cK q)) = m.flatMap (cK q) := by
  simp only [setCells, List.take_zero, List.nil_append, Nat.zero_add, lk_len]
  rw [List.drop_of_length_le (by rw [lk_len]; omega), List.append_nil]
theorem lk_app (l : List Int) (x : Int) : l.flatMap (cK q) ++ [.int q x] = (l ++ [x]).flatMap (cK q) := by rw [List.flatMap_append]; rfl
theorem lk_apps (l m : List Int) : l.flatMap (cK q) ++ m.flatMap (cK q) = (l ++ m).flatMap (cK q) := by rw [List.flatMap_append]
theorem lk_mk (n : Nat) : List.replicate n (V.int q 0) = (List.replicate n (0 : Int)).flatMap (cK q) := by
  induction n with
  | zero => rfl
  | succ n ih => simp only [List.replicate_succ, List.flatMap_cons, ← ih]; rfl
end
end Go.Lg
