/-
  Texts Csh of this claim, put together.
-/
import Derived.Test.YthpffaofpcikiaaGBb
/-
  Lists of byte lists as cells, their sums; texts made of bytes; the first pair for which something holds. Plain laws.
-/
set_option linter.unusedSimpArgs false
set_option linter.unusedVariables false
namespace Go.Lg
open Go Go.RowKit

theorem maxLen_eq : maxLen = 9223372036854775807 := rfl
def isBy (b : List Int) : Prop := ∀ x ∈ b, 0 ≤ x ∧ x < 256
/-- The text of bytes. -/
def bytS (b : List Int) : ByteArray := strOf (b.flatMap (cK .u8))
theorem strFold : ∀ (b : List Int) (r : ByteArray), ((b.flatMap (cK .u8)).foldl strStep r).data.toList = r.data.toList ++ b.map fun n => UInt8.ofNat n.toNat
  | [], r => by simp
  | x :: b, r => by
    simp only [List.flatMap_cons, cK, List.cons_append, List.nil_append, List.foldl_cons, strStep, List.map_cons]
    rw [strFold b]
    simp [ByteArray.push]
theorem bytS_data (b : List Int) : (bytS b).data.toList = b.map fun n => UInt8.ofNat n.toNat := by
  unfold bytS strOf
  rw [strFold]
  simp
theorem bytS_size (b : List Int) : (bytS b).size = b.length := by
  have := congrArg List.length (bytS_data b)
  simpa using this
theorem u8_inj {x y : Int} (hx : 0 ≤ x ∧ x < 256) (hy : 0 ≤ y ∧ y < 256) (h : UInt8.ofNat x.toNat = UInt8.ofNat y.toNat) : x = y := by
  have := congrArg UInt8.toNat h
  simp at this
  omega
theorem map_inj : ∀ {l m : List Int}, isBy l → isBy m → (l.map fun n => UInt8.ofNat n.toNat) = (m.map fun n => UInt8.ofNat n.toNat) → l = m
  | [], [], _, _, _ => rfl
  | [], y :: m, _, _, h => by cases h
  | x :: l, [], _, _, h => by cases h
  | x :: l, y :: m, hl, hm, h => by
    simp only [List.map_cons, List.cons.injEq] at h
    rw [u8_inj (hl x (List.mem_cons_self ..)) (hm y (List.mem_cons_self ..)) h.1, map_inj (fun z hz => hl z (List.mem_cons_of_mem _ hz)) (fun z hz => hm z (List.mem_cons_of_mem _ hz)) h.2]
theorem bytS_eq {l m : List Int} (hl : isBy l) (hm : isBy m) : ((bytS l).toList == (bytS m).toList) = decide (l = m) := by
  rw [ByteArray.toList_eq, ByteArray.toList_eq, bytS_data, bytS_data, Bool.eq_iff_iff]
  simp only [beq_iff_eq, decide_eq_true_eq]
  exact ⟨map_inj hl hm, fun e => by rw [e]⟩
theorem bytS_cells {b : List Int} (hb : isBy b) : ((bytS b).data.toList.map fun b => V.int .u8 b.toNat) = b.flatMap (cK .u8) := by
  rw [bytS_data, List.map_map]
  induction b with
  | nil => rfl
  | cons x r ih =>
    have hx := hb x (List.mem_cons_self ..)
    rw [List.map_cons, ih fun z hz => hb z (List.mem_cons_of_mem _ hz)]
    simp only [List.flatMap_cons, cK, List.cons_append, List.nil_append, Function.comp]
    congr 2
    simp
    omega

def cBs (b : List Int) : List V := [encL (cK .u8) b]
theorem bs_len (L : List (List Int)) : (L.flatMap cBs).length = L.length := by
  induction L with
  | nil => rfl
  | cons x r ih => rw [List.flatMap_cons, List.length_append, ih]; simp [cBs]; omega
theorem bs_snap (H : Heap) (d : Nat) (L : List (List Int)) : (L.flatMap cBs).map (snap H (d + 1)) = L.flatMap cBs := by
  induction L with
  | nil => rfl
  | cons x r ih => rw [List.flatMap_cons, List.map_append, ih]; rfl
theorem bs_sok (H : Heap) (d : Nat) (L : List (List Int)) : (L.flatMap cBs).all (sok H (d + 1)) = true := by
  induction L with
  | nil => rfl
  | cons x r ih => rw [List.flatMap_cons, List.all_append, ih]; rfl
theorem bs_imv (d : Nat) (L : List (List Int)) : (L.flatMap cBs).all (imV d) = true := by
  induction L with
  | nil => rfl
  | cons x r ih => rw [List.flatMap_cons, List.all_append, ih]; cases d <;> rfl
theorem bs_take (n : Nat) : ∀ (L : List (List Int)), (L.flatMap cBs).take n = (L.take n).flatMap cBs := by
  induction n with
  | zero => intro L; simp
  | succ n ih => intro L; cases L with
    | nil => simp
    | cons x L => simp only [List.flatMap_cons, cBs, List.take_succ_cons, List.singleton_append]; rw [ih]
theorem bs_ld {L : List (List Int)} {k : Nat} (h : k < L.length) : ldV false 1 (L.flatMap cBs) k = some (.sl (L.getD k []).length ((L.getD k []).flatMap (cK .u8))) := by
  simp only [ldV, Bool.false_eq_true, if_false]
  induction L generalizing k with
  | nil => cases h
  | cons x r ih =>
    cases k with
    | zero => rfl
    | succ k =>
      have := ih (k := k) (by simpa using h)
      simpa [cBs] using this

/-- The sums, side by side. -/
def cSm (b : List Int) : List V := (sumS b).flatMap (cK .u8)
theorem cSm_len (b : List Int) : (cSm b).length = 32 := by rw [cSm, lk_len, sumS_len]
theorem sm_len (L : List (List Int)) : (L.flatMap cSm).length = L.length * 32 := flat_len cSm_len L
theorem sm_app (L : List (List Int)) (b : List Int) : L.flatMap cSm ++ (sumS b).flatMap (cK .u8) = (L ++ [b]).flatMap cSm := by rw [List.flatMap_append]; simp [cSm]
theorem sm_snap (H : Heap) (d : Nat) (L : List (List Int)) : (L.flatMap cSm).map (snap H (d + 1)) = L.flatMap cSm := by
  induction L with
  | nil => rfl
  | cons x r ih => rw [List.flatMap_cons, List.map_append, ih, cSm, lk_snap]
theorem sm_imv (d : Nat) (L : List (List Int)) : (L.flatMap cSm).all (imV d) = true := by
  induction L with
  | nil => rfl
  | cons x r ih => rw [List.flatMap_cons, List.all_append, ih, cSm, lk_imv]; rfl
theorem sm_ld {L : List (List Int)} {k : Nat} (h : k < L.length) : ldV true 32 (L.flatMap cSm) (k * 32) = some (.agg ((sumS (L.getD k [])).flatMap (cK .u8))) := by
  have h1 : k * 32 + 32 ≤ (L.flatMap cSm).length := by rw [sm_len]; omega
  have h2 := flat_rec cSm_len L k h
  simp only [ldV, if_true]
  rw [if_pos h1, h2, cSm]
  simp [h]

/-! The first that holds. -/
def scan (q : Nat → Bool) : Nat → Nat → Option Nat
  | _, 0 => none
  | k, m + 1 => if q k = true then some k else scan q (k + 1) m
def stepR (i : Nat) (r : Option (Nat × Nat)) : Option Nat → Option (Nat × Nat)
  | some k => some (i, k)
  | none => r
def scan2 (p : Nat → Nat → Bool) (n : Nat) : Nat → Nat → Option (Nat × Nat)
  | _, 0 => none
  | i, m + 1 => stepR i (scan2 p n (i + 1) m) (scan (p i) (i + 1) (n - (i + 1)))
theorem scan_step {q : Nat → Bool} {k n : Nat} (h : k < n) : scan q k (n - k) = if q k = true then some k else scan q (k + 1) (n - (k + 1)) := by
  rw [show n - k = (n - (k + 1)) + 1 by omega]; rfl
theorem scan2_step {p : Nat → Nat → Bool} {i n : Nat} (h : i < n) : scan2 p n i (n - i) = stepR i (scan2 p n (i + 1) (n - (i + 1))) (scan (p i) (i + 1) (n - (i + 1))) := by
  rw [show n - i = (n - (i + 1)) + 1 by omega]; rfl

/-- Two unlike members of one sum. -/
def cl (L : List (List Int)) (i k : Nat) : Bool := decide (sumS (L.getD i []) = sumS (L.getD k [])) && !decide (L.getD i [] = L.getD k [])
def clashS (L : List (List Int)) : Option (Nat × Nat) := scan2 (cl L) L.length 0 L.length
def clashV : Option (Nat × Nat) → V
  | some (i, k) => .tup [.int .i64 i, .int .i64 k, .bool true]
  | none => .tup [.int .i64 0, .int .i64 0, .bool false]
def ca : Option (Nat × Nat) → Nat
  | some p => p.1
  | none => 0
def cb : Option (Nat × Nat) → Nat
  | some p => p.2
  | none => 0
def cs : Option (Nat × Nat) → Bool
  | some _ => true
  | none => false
theorem clashV_eq (R : Option (Nat × Nat)) : clashV R = .tup [.int .i64 (ca R : Nat), .int .i64 (cb R : Nat), .bool (cs R)] := by cases R <;> rfl
end Go.Lg
