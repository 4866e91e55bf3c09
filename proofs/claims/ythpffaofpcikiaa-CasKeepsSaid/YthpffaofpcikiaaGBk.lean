/-
  Texts Csk of this claim, put together.
-/
import Derived.Test.YthpffaofpcikiaaGBe
/-
  What a store has: byte lists under their sums. Plain laws.
-/
set_option linter.unusedSimpArgs false
set_option linter.unusedVariables false
namespace Go.Lg
open Go Go.RowKit

/-- The entries of a store's map. -/
def entB (b : List Int) : V × V := (.agg ((sumS b).flatMap (cK .u8)), .sl b.length (b.flatMap (cK .u8)))
def ents (bs : List (List Int)) : List (V × V) := bs.map entB
theorem ents_len (bs : List (List Int)) : (ents bs).length = bs.length := by simp [ents]
theorem ents_snap (H : Heap) (d : Nat) (bs : List (List Int)) : (ents bs).map (fun e => (snap H (d + 2) e.1, snap H (d + 2) e.2)) = ents bs := by
  simp only [ents, List.map_map]
  refine List.map_congr_left fun b _ => ?_
  simp only [Function.comp, entB, snap, lk_snap]
theorem ents_snapv (H : Heap) (d : Nat) (bs : List (List Int)) : (ents bs).map (fun e => (e.1, snap H (d + 1) e.2)) = ents bs := by
  simp only [ents, List.map_map]
  refine List.map_congr_left fun b _ => ?_
  simp only [Function.comp, entB, snap]
theorem ents_sok (H : Heap) (d : Nat) (bs : List (List Int)) : (ents bs).all (fun e => sok H (d + 2) e.1 && sok H (d + 2) e.2) = true := by
  simp only [ents, List.all_map]
  refine List.all_eq_true.2 fun b _ => ?_
  simp only [Function.comp, entB, sok, lk_sok, Bool.and_self]
theorem ents_imv (d : Nat) (bs : List (List Int)) : (ents bs).all (fun e => imV (d + 1) e.1) = true := by
  simp only [ents, List.all_map]
  refine List.all_eq_true.2 fun b _ => ?_
  simp only [Function.comp, entB, imV, lk_imv]
theorem ents_key (bs : List (List Int)) : (ents bs).all (fun e => keyV (.arr 32 .u8) e.1) = true := by
  simp only [ents, List.all_map]
  refine List.all_eq_true.2 fun b _ => ?_
  simp only [Function.comp, entB, keyV, lk_ints, lk_len, sumS_len, decide_true, Bool.and_self]
theorem ents_app (bs : List (List Int)) (b : List Int) : ents bs ++ [(V.agg ((sumS b).flatMap (cK .u8)), V.sl b.length (b.flatMap (cK .u8)))] = ents (bs ++ [b]) := by
  simp [ents, entB]
theorem ents_app1 (bs : List (List Int)) (x : Int) : ents bs ++ [(V.agg ((sumS [x]).flatMap (cK .u8)), V.sl 1 [.int .u8 x])] = ents (bs ++ [[x]]) := by
  simp [ents, entB, cK]
theorem eqK_sum (b c : List Int) : eqK (.agg ((sumS b).flatMap (cK .u8))) (.agg ((sumS c).flatMap (cK .u8))) = decide (sumS b = sumS c) := by
  simp only [eqK, lk_eq]
theorem ents_none {b : List Int} : ∀ {bs : List (List Int)}, (∀ c ∈ bs, sumS b ≠ sumS c) → findK (.agg ((sumS b).flatMap (cK .u8))) (ents bs) = none
  | [], _ => rfl
  | c :: bs, h => by
    have h1 : eqK (.agg ((sumS b).flatMap (cK .u8))) (entB c).1 = false := by
      show eqK _ (.agg ((sumS c).flatMap (cK .u8))) = false
      rw [eqK_sum]; simp [h c (List.mem_cons_self ..)]
    have ih := ents_none (b := b) (bs := bs) fun d hd => h d (List.mem_cons_of_mem _ hd)
    simp only [ents, List.map_cons, findK, h1, Bool.false_eq_true, if_false] at ih ⊢
    rw [ih]; rfl
theorem ents_in {b : List Int} : ∀ {bs : List (List Int)}, b ∈ bs → ∃ p, findK (.agg ((sumS b).flatMap (cK .u8))) (ents bs) = some p
  | c :: bs, hm => by
    by_cases e : sumS b = sumS c
    · have h1 : eqK (.agg ((sumS b).flatMap (cK .u8))) (entB c).1 = true := by
        show eqK _ (.agg ((sumS c).flatMap (cK .u8))) = true
        rw [eqK_sum]; simp [e]
      exact ⟨_, by simp only [ents, List.map_cons, findK, h1, if_true]; rfl⟩
    · have h1 : eqK (.agg ((sumS b).flatMap (cK .u8))) (entB c).1 = false := by
        show eqK _ (.agg ((sumS c).flatMap (cK .u8))) = false
        rw [eqK_sum]; simp [e]
      have hm' : b ∈ bs := by
        rcases List.mem_cons.1 hm with rfl | h'
        · exact absurd rfl e
        · exact h'
      obtain ⟨p, hp⟩ := ents_in hm'
      refine ⟨(p.1 + 1, p.2), ?_⟩
      simp only [ents, List.map_cons, findK, h1, Bool.false_eq_true, if_false] at hp ⊢
      rw [hp]; rfl
/-- What is found under a sum. -/
theorem ents_some {b : List Int} : ∀ {bs : List (List Int)}, b ∈ bs → (∀ c ∈ bs, sumS b = sumS c → b = c) → ∃ j, findK (.agg ((sumS b).flatMap (cK .u8))) (ents bs) = some (j, .sl b.length (b.flatMap (cK .u8)))
  | c :: bs, hm, h => by
    by_cases e : sumS b = sumS c
    · obtain rfl := h c (List.mem_cons_self ..) e
      have h1 : eqK (.agg ((sumS b).flatMap (cK .u8))) (entB b).1 = true := by
        show eqK _ (.agg ((sumS b).flatMap (cK .u8))) = true
        rw [eqK_sum]; simp
      exact ⟨0, by simp only [ents, List.map_cons, findK, h1, if_true]; rfl⟩
    · have h1 : eqK (.agg ((sumS b).flatMap (cK .u8))) (entB c).1 = false := by
        show eqK _ (.agg ((sumS c).flatMap (cK .u8))) = false
        rw [eqK_sum]; simp [e]
      have hm' : b ∈ bs := by
        rcases List.mem_cons.1 hm with rfl | h'
        · exact absurd rfl e
        · exact h'
      obtain ⟨j, hj⟩ := ents_some hm' fun d hd => h d (List.mem_cons_of_mem _ hd)
      refine ⟨j + 1, ?_⟩
      simp only [ents, List.map_cons, findK, h1, Bool.false_eq_true, if_false] at hj ⊢
      rw [hj]; rfl

theorem wrap_nat {m : Nat} (h : m ≤ 1000) : IntKind.i64.wrap (m : Int) = m := wrap_of_in (by unfold InI64; omega)
theorem set_z : setCells [.int .u8 0, .int .u8 0, .int .u8 0, .int .u8 0, .int .u8 0, .int .u8 0, .int .u8 0, .int .u8 0, .int .u8 0, .int .u8 0, .int .u8 0, .int .u8 0, .int .u8 0, .int .u8 0, .int .u8 0, .int .u8 0, .int .u8 0, .int .u8 0, .int .u8 0, .int .u8 0, .int .u8 0, .int .u8 0, .int .u8 0, .int .u8 0, .int .u8 0, .int .u8 0, .int .u8 0, .int .u8 0, .int .u8 0, .int .u8 0, .int .u8 0, .int .u8 0] 0 [.int .u8 0, .int .u8 0, .int .u8 0, .int .u8 0, .int .u8 0, .int .u8 0, .int .u8 0, .int .u8 0, .int .u8 0, .int .u8 0, .int .u8 0, .int .u8 0, .int .u8 0, .int .u8 0, .int .u8 0, .int .u8 0, .int .u8 0, .int .u8 0, .int .u8 0, .int .u8 0, .int .u8 0, .int .u8 0, .int .u8 0, .int .u8 0, .int .u8 0, .int .u8 0, .int .u8 0, .int .u8 0, .int .u8 0, .int .u8 0, .int .u8 0, .int .u8 0] = ([.int .u8 0, .int .u8 0, .int .u8 0, .int .u8 0, .int .u8 0, .int .u8 0, .int .u8 0, .int .u8 0, .int .u8 0, .int .u8 0, .int .u8 0, .int .u8 0, .int .u8 0, .int .u8 0, .int .u8 0, .int .u8 0, .int .u8 0, .int .u8 0, .int .u8 0, .int .u8 0, .int .u8 0, .int .u8 0, .int .u8 0, .int .u8 0, .int .u8 0, .int .u8 0, .int .u8 0, .int .u8 0, .int .u8 0, .int .u8 0, .int .u8 0, .int .u8 0] : List V) := rfl
theorem ld_z : ldV true 32 [.int .u8 0, .int .u8 0, .int .u8 0, .int .u8 0, .int .u8 0, .int .u8 0, .int .u8 0, .int .u8 0, .int .u8 0, .int .u8 0, .int .u8 0, .int .u8 0, .int .u8 0, .int .u8 0, .int .u8 0, .int .u8 0, .int .u8 0, .int .u8 0, .int .u8 0, .int .u8 0, .int .u8 0, .int .u8 0, .int .u8 0, .int .u8 0, .int .u8 0, .int .u8 0, .int .u8 0, .int .u8 0, .int .u8 0, .int .u8 0, .int .u8 0, .int .u8 0] 0 = some (.agg [.int .u8 0, .int .u8 0, .int .u8 0, .int .u8 0, .int .u8 0, .int .u8 0, .int .u8 0, .int .u8 0, .int .u8 0, .int .u8 0, .int .u8 0, .int .u8 0, .int .u8 0, .int .u8 0, .int .u8 0, .int .u8 0, .int .u8 0, .int .u8 0, .int .u8 0, .int .u8 0, .int .u8 0, .int .u8 0, .int .u8 0, .int .u8 0, .int .u8 0, .int .u8 0, .int .u8 0, .int .u8 0, .int .u8 0, .int .u8 0, .int .u8 0, .int .u8 0]) := rfl
/-- The low bits of a number. -/
theorem and_low (x : Int) (k : Nat) (hk : k ≤ 1000) : ∃ m : Nat, m ≤ k ∧ IntKind.i64.wrap (BitVec.ofInt IntKind.i64.bits x &&& BitVec.ofInt IntKind.i64.bits k).toNat = (m : Int) := by
  have hb : (BitVec.ofInt 64 (k : Int)).toNat = k := by rw [BitVec.toNat_ofInt]; omega
  have hb' : (BitVec.ofInt IntKind.i64.bits (k : Int)).toNat = k := hb
  have hle : (BitVec.ofInt IntKind.i64.bits x &&& BitVec.ofInt IntKind.i64.bits k).toNat ≤ k := by
    rw [BitVec.toNat_and, hb']; exact Nat.and_le_right
  refine ⟨_, hle, ?_⟩
  generalize (BitVec.ofInt IntKind.i64.bits x &&& BitVec.ofInt IntKind.i64.bits k).toNat = m at hle
  exact wrap_nat (by omega)
end Go.Lg
