/-
  Texts Sha, ShaB of this claim, put together.
-/
import Derived.Test.YthpffaofpcikiaaGBa
/-
  The sum of bytes, step by step, on plain lists of numbers. Plain laws.
-/
set_option linter.unusedSimpArgs false
set_option linter.unusedVariables false
namespace Go.Lg
open Go

def w32 (n : Int) : Int := IntKind.u32.wrap n
def xor32 (a b : Int) : Int := IntKind.u32.wrap (BitVec.ofInt IntKind.u32.bits a ^^^ BitVec.ofInt IntKind.u32.bits b).toNat
def or32 (a b : Int) : Int := IntKind.u32.wrap (BitVec.ofInt IntKind.u32.bits a ||| BitVec.ofInt IntKind.u32.bits b).toNat
def and32 (a b : Int) : Int := IntKind.u32.wrap (BitVec.ofInt IntKind.u32.bits a &&& BitVec.ofInt IntKind.u32.bits b).toNat
def shl32 (a : Int) (n : Nat) : Int := IntKind.u32.wrap (a * 2 ^ (min n IntKind.u32.bits))
def shr32 (a : Int) (n : Nat) : Int := a.fdiv (2 ^ (min n IntKind.u32.bits))
theorem or32_comm (a b : Int) : or32 a b = or32 b a := by unfold or32; rw [BitVec.or_comm]
/-- Turned right. -/
def rot32 (x : Int) (n : Nat) : Int := or32 (shr32 x n) (shl32 x (32 - n))
theorem rot_ix : ∀ n : Fin 32, 0 < n.val → IntKind.u64.wrap (BitVec.ofInt IntKind.u64.bits (IntKind.u64.wrap (-(n.val : Int))) &&& BitVec.ofInt IntKind.u64.bits 31).toNat = ((32 - n.val : Nat) : Int) := by decide +kernel

def add32 (a b : Int) : Int := IntKind.u32.wrap (a + b)
def not32 (a : Int) : Int := xor32 (if IntKind.u32.signed = true then -1 else IntKind.u32.max) a
theorem fold_add32 (a b : Int) : IntKind.u32.wrap (a + b) = add32 a b := rfl
theorem fold_xor32 (a b : Int) : IntKind.u32.wrap (BitVec.ofInt IntKind.u32.bits a ^^^ BitVec.ofInt IntKind.u32.bits b).toNat = xor32 a b := rfl
theorem fold_or32 (a b : Int) : IntKind.u32.wrap (BitVec.ofInt IntKind.u32.bits a ||| BitVec.ofInt IntKind.u32.bits b).toNat = or32 a b := rfl
theorem fold_and32 (a b : Int) : IntKind.u32.wrap (BitVec.ofInt IntKind.u32.bits a &&& BitVec.ofInt IntKind.u32.bits b).toNat = and32 a b := rfl
theorem fold_shl32 (a : Int) (n : Nat) : IntKind.u32.wrap (a * 2 ^ (min n IntKind.u32.bits)) = shl32 a n := rfl
theorem fold_shr32 (a : Int) (n : Nat) : a.fdiv (2 ^ (min n IntKind.u32.bits)) = shr32 a n := rfl

theorem fold_not32 (a : Int) : xor32 (if IntKind.u32.signed = true then -1 else IntKind.u32.max) a = not32 a := rfl

def Kc : List Int := [1116352408, 1899447441, 3049323471, 3921009573, 961987163, 1508970993, 2453635748, 2870763221, 3624381080, 310598401, 607225278, 1426881987, 1925078388, 2162078206, 2614888103, 3248222580, 3835390401, 4022224774, 264347078, 604807628, 770255983, 1249150122, 1555081692, 1996064986, 2554220882, 2821834349, 2952996808, 3210313671, 3336571891, 3584528711, 113926993, 338241895, 666307205, 773529912, 1294757372, 1396182291, 1695183700, 1986661051, 2177026350, 2456956037, 2730485921, 2820302411, 3259730800, 3345764771, 3516065817, 3600352804, 4094571909, 275423344, 430227734, 506948616, 659060556, 883997877, 958139571, 1322822218, 1537002063, 1747873779, 1955562222, 2024104815, 2227730452, 2361852424, 2428436474, 2756734187, 3204031479, 3329325298]
def H0 : List Int := [1779033703, 3144134277, 1013904242, 2773480762, 1359893119, 2600822924, 528734635, 1541459225]

/-- The word of four bytes. -/
def wordS (p : List Int) (t : Nat) : Int := or32 (or32 (or32 (shl32 (IntKind.u32.wrap (p.getD (4 * t) 0)) 24) (shl32 (IntKind.u32.wrap (p.getD (4 * t + 1) 0)) 16)) (shl32 (IntKind.u32.wrap (p.getD (4 * t + 2) 0)) 8)) (IntKind.u32.wrap (p.getD (4 * t + 3) 0))
def nextW (W : List Int) (t : Nat) : Int :=
  add32 (add32 (add32 (xor32 (xor32 (rot32 (W.getD (t - 2) 0) 17) (rot32 (W.getD (t - 2) 0) 19)) (shr32 (W.getD (t - 2) 0) 10)) (W.getD (t - 7) 0)) (xor32 (xor32 (rot32 (W.getD (t - 15) 0) 7) (rot32 (W.getD (t - 15) 0) 18)) (shr32 (W.getD (t - 15) 0) 3))) (W.getD (t - 16) 0)
def fillA (f : Nat → Int) : Nat → List Int
  | 0 => List.replicate 64 0
  | t + 1 => (fillA f t).set t (f t)
def fillB (W : List Int) : Nat → List Int
  | 0 => W
  | n + 1 => (fillB W n).set (16 + n) (nextW (fillB W n) (16 + n))
def spreadS (p : List Int) : List Int := fillB (fillA (wordS p) 16) 48
theorem fillA_len (f : Nat → Int) (t : Nat) : (fillA f t).length = 64 := by
  induction t with
  | zero => rfl
  | succ t ih => rw [fillA, List.length_set, ih]
theorem fillB_len {W : List Int} (h : W.length = 64) (n : Nat) : (fillB W n).length = 64 := by
  induction n with
  | zero => exact h
  | succ n ih => rw [fillB, List.length_set, ih]
theorem spreadS_len (p : List Int) : (spreadS p).length = 64 := fillB_len (fillA_len _ _) _

def oneS (v : List Int) (k w : Int) : Int := add32 (add32 (add32 (add32 (v.getD 7 0) (xor32 (xor32 (rot32 (v.getD 4 0) 6) (rot32 (v.getD 4 0) 11)) (rot32 (v.getD 4 0) 25))) (xor32 (and32 (v.getD 4 0) (v.getD 5 0)) (and32 (not32 (v.getD 4 0)) (v.getD 6 0)))) k) w
def twoS (v : List Int) : Int := add32 (xor32 (xor32 (rot32 (v.getD 0 0) 2) (rot32 (v.getD 0 0) 13)) (rot32 (v.getD 0 0) 22)) (xor32 (xor32 (and32 (v.getD 0 0) (v.getD 1 0)) (and32 (v.getD 0 0) (v.getD 2 0))) (and32 (v.getD 1 0) (v.getD 2 0)))
def roundS (v : List Int) (k w : Int) : List Int := [add32 (oneS v k w) (twoS v), v.getD 0 0, v.getD 1 0, v.getD 2 0, add32 (v.getD 3 0) (oneS v k w), v.getD 4 0, v.getD 5 0, v.getD 6 0]
def roundsS (k W v : List Int) : Nat → List Int
  | 0 => v
  | t + 1 => roundS (roundsS k W v t) (k.getD t 0) (W.getD t 0)
theorem roundsS_len {k W v : List Int} (h : v.length = 8) (t : Nat) : (roundsS k W v t).length = 8 := by
  cases t with
  | zero => exact h
  | succ t => rfl
def sumsS (h v : List Int) : Nat → List Int
  | 0 => h
  | i + 1 => (sumsS h v i).set i (add32 ((sumsS h v i).getD i 0) (v.getD i 0))
theorem sumsS_len {h v : List Int} (hl : h.length = 8) (i : Nat) : (sumsS h v i).length = 8 := by
  induction i with
  | zero => exact hl
  | succ i ih => rw [sumsS, List.length_set, ih]
def blockS (h k p : List Int) : List Int := sumsS h (roundsS k (spreadS p) h 64) 8
theorem blockS_len {h k p : List Int} (hl : h.length = 8) : (blockS h k p).length = 8 := sumsS_len hl _

def blocksS (h m : List Int) : Nat → List Int
  | 0 => h
  | n + 1 => blockS (blocksS h m n) Kc ((m.drop (64 * n)).take 64)
theorem blocksS_len {h m : List Int} (hl : h.length = 8) (n : Nat) : (blocksS h m n).length = 8 := by
  cases n with
  | zero => exact hl
  | succ n => exact blockS_len (blocksS_len hl n)
theorem blocksS_add (h m : List Int) (q r : Nat) : blocksS h m (q + r) = blocksS (blocksS h m q) (m.drop (64 * q)) r := by
  induction r with
  | zero => rfl
  | succ r ih =>
    rw [← Nat.add_assoc, blocksS, blocksS, ih, List.drop_drop, show 64 * q + 64 * r = 64 * (q + r) by omega]

/-- How many noughts are put in. -/
def zc (n : Nat) : Nat := (119 - n % 64) % 64
theorem zc_ok (n : Nat) : (n + 1 + zc n) % 64 = 56 := by unfold zc; omega
theorem zc_lt (n : Nat) : zc n < 64 := by unfold zc; omega
def byteL (n s : Nat) : Int := IntKind.u8.wrap (((8 * n : Nat) : Int).fdiv (2 ^ (min s IntKind.u64.bits)))
def lenB (n : Nat) : Nat → List Int
  | 0 => []
  | j + 1 => lenB n j ++ [byteL n (56 - 8 * j)]
theorem lenB_len (n j : Nat) : (lenB n j).length = j := by
  induction j with
  | zero => rfl
  | succ j ih => rw [lenB, List.length_append, ih]; rfl
def padS (b : List Int) : List Int := b ++ [128] ++ List.replicate (zc b.length) 0 ++ lenB b.length 8
theorem padS_len (b : List Int) : (padS b).length = b.length + 9 + zc b.length := by
  simp [padS, lenB_len]; omega
theorem padS_div (b : List Int) : (padS b).length = 64 * ((padS b).length / 64) := by
  have := padS_len b
  have := zc_ok b.length
  omega
def outF (h : List Int) : Nat → List Int
  | 0 => List.replicate 32 0
  | i + 1 => (outF h i).set i (IntKind.u8.wrap (shr32 (h.getD (i / 4) 0) (24 - 8 * (i % 4))))
theorem outF_len (h : List Int) (i : Nat) : (outF h i).length = 32 := by
  induction i with
  | zero => rfl
  | succ i ih => rw [outF, List.length_set, ih]
/-- The sum. -/
def sumS (b : List Int) : List Int := outF (blocksS H0 (padS b) ((padS b).length / 64)) 32
theorem sumS_len (b : List Int) : (sumS b).length = 32 := outF_len _ _
end Go.Lg

/-
  The sum of bytes: a word out of four bytes, one way and the other. Plain laws.
-/
set_option linter.unusedSimpArgs false
set_option linter.unusedVariables false
namespace Go.Lg
open Go

theorem bits32 : IntKind.u32.bits = 32 := rfl
theorem wrap32_nat (n : Nat) : IntKind.u32.wrap (n : Int) = ((n % 4294967296 : Nat) : Int) := by
  have e : IntKind.u32.wrap (n : Int) = (n : Int) % 4294967296 := rfl
  rw [e]; omega
theorem or32_nat {a b : Nat} (ha : a < 4294967296) (hb : b < 4294967296) : or32 a b = ((a ||| b : Nat) : Int) := by
  unfold or32
  have h1 : (BitVec.ofInt IntKind.u32.bits (a : Int) ||| BitVec.ofInt IntKind.u32.bits (b : Int)).toNat = a ||| b := by
    rw [BitVec.ofInt_natCast, BitVec.ofInt_natCast, BitVec.toNat_or, BitVec.toNat_ofNat, BitVec.toNat_ofNat, bits32, Nat.mod_eq_of_lt ha, Nat.mod_eq_of_lt hb]
  rw [h1, wrap32_nat, Nat.mod_eq_of_lt]
  exact Nat.or_lt_two_pow (n := 32) ha hb
theorem shl32_nat {a n : Nat} (hn : n ≤ 32) (h : a <<< n < 4294967296) : shl32 a n = ((a <<< n : Nat) : Int) := by
  unfold shl32
  rw [bits32, Nat.min_eq_left hn]
  have e : (a : Int) * 2 ^ n = ((a <<< n : Nat) : Int) := by
    rw [Nat.shiftLeft_eq, Int.natCast_mul, Int.natCast_pow]; rfl
  rw [e, wrap32_nat, Nat.mod_eq_of_lt h]

def accW (x : Nat → Int) : Nat → Int
  | 0 => 0
  | j + 1 => or32 (shl32 (accW x j) 8) (IntKind.u32.wrap (x j))
theorem accW_four (x : Nat → Int) (h : ∀ j, j < 4 → 0 ≤ x j ∧ x j < 256) :
    accW x 4 = or32 (or32 (or32 (shl32 (IntKind.u32.wrap (x 0)) 24) (shl32 (IntKind.u32.wrap (x 1)) 16)) (shl32 (IntKind.u32.wrap (x 2)) 8)) (IntKind.u32.wrap (x 3)) := by
  obtain ⟨a, ha, la⟩ : ∃ a : Nat, x 0 = a ∧ a < 256 := ⟨(x 0).toNat, by have := h 0 (by omega); omega, by have := h 0 (by omega); omega⟩
  obtain ⟨b, hb, lb⟩ : ∃ a : Nat, x 1 = a ∧ a < 256 := ⟨(x 1).toNat, by have := h 1 (by omega); omega, by have := h 1 (by omega); omega⟩
  obtain ⟨c, hc, lc⟩ : ∃ a : Nat, x 2 = a ∧ a < 256 := ⟨(x 2).toNat, by have := h 2 (by omega); omega, by have := h 2 (by omega); omega⟩
  obtain ⟨d, hd, ld⟩ : ∃ a : Nat, x 3 = a ∧ a < 256 := ⟨(x 3).toNat, by have := h 3 (by omega); omega, by have := h 3 (by omega); omega⟩
  have sl : ∀ (a n k : Nat), a < 2 ^ k → n + k ≤ 32 → a <<< n < 4294967296 := by
    intro a n k h1 h2
    rw [Nat.shiftLeft_eq]
    calc a * 2 ^ n < 2 ^ k * 2 ^ n := Nat.mul_lt_mul_of_pos_right h1 (Nat.two_pow_pos n)
      _ = 2 ^ (k + n) := (Nat.pow_add ..).symm
      _ ≤ 2 ^ 32 := Nat.pow_le_pow_right (by omega) (by omega)
  have w : ∀ n : Nat, n < 256 → IntKind.u32.wrap (n : Int) = n := fun n hn => by rw [wrap32_nat, Nat.mod_eq_of_lt (by omega)]
  have orl : ∀ (k a b : Nat), a < 2 ^ k → b < 2 ^ k → a ||| b < 2 ^ k := fun k a b h1 h2 => Nat.or_lt_two_pow h1 h2
  have p8 : (256 : Nat) = 2 ^ 8 := rfl
  rw [p8] at la lb lc ld
  have up : ∀ (a k m : Nat), a < 2 ^ k → k ≤ m → a < 2 ^ m := fun a k m h1 h2 => Nat.lt_of_lt_of_le h1 (Nat.pow_le_pow_right (by omega) h2)
  have shl_lt : ∀ (a k n : Nat), a < 2 ^ k → a <<< n < 2 ^ (k + n) := by
    intro a k n h1
    rw [Nat.shiftLeft_eq, Nat.pow_add]
    exact Nat.mul_lt_mul_of_pos_right h1 (Nat.two_pow_pos n)
  have z : (0 : Int) = ((0 : Nat) : Int) := rfl
  have e32 : (4294967296 : Nat) = 2 ^ 32 := rfl
  simp only [accW]
  rw [ha, hb, hc, hd, w a la, w b lb, w c lc, w d ld]
  rw [z, shl32_nat (by omega) (by simp), or32_nat (by simp) (by rw [e32]; exact up _ _ _ la (by omega))]
  have h1 : (0 <<< 8 ||| a) = a := by simp
  rw [h1]
  have q1 := shl_lt a 8 8 la
  rw [shl32_nat (by omega) (by rw [e32]; exact up _ _ _ q1 (by omega)), or32_nat (by rw [e32]; exact up _ _ _ q1 (by omega)) (by rw [e32]; exact up _ _ _ lb (by omega))]
  have q2 := orl 16 _ b q1 (up _ _ _ lb (by omega))
  have q3 := shl_lt _ 16 8 q2
  rw [shl32_nat (by omega) (by rw [e32]; exact up _ _ _ q3 (by omega)), or32_nat (by rw [e32]; exact up _ _ _ q3 (by omega)) (by rw [e32]; exact up _ _ _ lc (by omega))]
  have q4 := orl 24 _ c q3 (up _ _ _ lc (by omega))
  have q5 := shl_lt _ 24 8 q4
  rw [shl32_nat (by omega) (by rw [e32]; exact q5), or32_nat (by rw [e32]; exact q5) (by rw [e32]; exact up _ _ _ ld (by omega))]
  have r1 := shl_lt a 8 24 la
  have r2 := shl_lt b 8 16 lb
  have r3 := shl_lt c 8 8 lc
  rw [shl32_nat (by omega) (by rw [e32]; exact r1), shl32_nat (by omega) (by rw [e32]; exact up _ _ _ r2 (by omega)), shl32_nat (by omega) (by rw [e32]; exact up _ _ _ r3 (by omega))]
  rw [or32_nat (by rw [e32]; exact r1) (by rw [e32]; exact up _ _ _ r2 (by omega))]
  have r4 := orl 32 _ _ r1 (up _ _ _ r2 (by omega))
  rw [or32_nat (by rw [e32]; exact r4) (by rw [e32]; exact up _ _ _ r3 (by omega))]
  have r5 := orl 32 _ _ r4 (up _ _ _ r3 (by omega))
  rw [or32_nat (by rw [e32]; exact r5) (by rw [e32]; exact up _ _ _ ld (by omega))]
  congr 1
  simp only [Nat.shiftLeft_or_distrib, ← Nat.shiftLeft_add]

theorem fillA_zero (f : Nat → Int) : ∀ (t s : Nat), t ≤ s → s < 64 → (fillA f t).getD s 0 = 0 := by
  intro t
  induction t with
  | zero => intro s _ h; rw [fillA, List.getD_eq_getElem?_getD, List.getElem?_replicate, if_pos h]; rfl
  | succ t ih =>
    intro s h1 h2
    have := ih s (by omega) h2
    rw [List.getD_eq_getElem?_getD] at this ⊢
    rw [fillA, List.getElem?_set_ne (by omega)]; exact this
theorem fillA_self (f : Nat → Int) (t : Nat) (h : t < 64) : (fillA f t).set t 0 = fillA f t := by
  have hl := fillA_len f t
  have hz := fillA_zero f t t (Nat.le_refl _) h
  rw [List.getD_eq_getElem?_getD, List.getElem?_eq_getElem (by omega)] at hz
  simp only [Option.getD_some] at hz
  apply List.ext_getElem
  · simp
  · intro i h1 h2
    rw [List.getElem_set]
    split
    · rename_i e; subst e; exact hz.symm
    · rfl
theorem getD_set_self {l : List Int} {t : Nat} {v : Int} (h : t < l.length) : (l.set t v).getD t 0 = v := by
  simp [List.getD, h]
theorem getD_chunk (M : List Int) (m k : Nat) (h : k < 64) : ((M.drop (64 * m)).take 64).getD k 0 = M.getD (64 * m + k) 0 := by
  simp only [List.getD_eq_getElem?_getD, List.getElem?_take, if_pos h, List.getElem?_drop]

theorem u8_rng (n : Int) : 0 ≤ IntKind.u8.wrap n ∧ IntKind.u8.wrap n < 256 := by
  have e : IntKind.u8.wrap n = n % 256 := rfl
  rw [e]; omega
theorem padS_rng (b : List Int) (hb : ∀ x ∈ b, 0 ≤ x ∧ x < 256) : ∀ x ∈ padS b, 0 ≤ x ∧ x < 256 := by
  intro x hx
  simp only [padS, List.mem_append, List.mem_singleton, List.mem_replicate] at hx
  rcases hx with ((hx | hx) | hx) | hx
  · exact hb x hx
  · omega
  · omega
  · have : ∀ j, x ∈ lenB b.length j → 0 ≤ x ∧ x < 256 := by
      intro j
      induction j with
      | zero => intro h; simp [lenB] at h
      | succ j ih =>
        intro h
        simp only [lenB, List.mem_append, List.mem_singleton] at h
        rcases h with h | h
        · exact ih h
        · rw [h]; exact u8_rng _
    exact this 8 hx
theorem getD_rng {M : List Int} (h : ∀ x ∈ M, 0 ≤ x ∧ x < 256) (k : Nat) : 0 ≤ M.getD k 0 ∧ M.getD k 0 < 256 := by
  rw [List.getD_eq_getElem?_getD]
  cases hk : M[k]? with
  | none => simp
  | some x => exact h x (List.mem_of_getElem? hk)
theorem wordS_acc {M : List Int} (h : ∀ x ∈ M, 0 ≤ x ∧ x < 256) (m t : Nat) (ht : t < 16) : accW (fun j => M.getD (64 * m + 4 * t + j) 0) 4 = wordS ((M.drop (64 * m)).take 64) t := by
  rw [accW_four _ fun j _ => getD_rng h _]
  unfold wordS
  rw [getD_chunk _ _ _ (by omega), getD_chunk _ _ _ (by omega), getD_chunk _ _ _ (by omega), getD_chunk _ _ _ (by omega)]
  rfl
end Go.Lg
