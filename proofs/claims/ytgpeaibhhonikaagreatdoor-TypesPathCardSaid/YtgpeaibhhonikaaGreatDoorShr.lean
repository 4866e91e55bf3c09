/-
  Short names for the common operations of a body.
-/
import Derived.Test.YtgpeaibhhonikaaGreatDoorLgO
set_option linter.unusedSimpArgs false
set_option linter.unusedVariables false
namespace Go.Lg.Sh
open Go Go.Lg
def m (d s : Nat) : LOp := ⟨some d, .mov (.tmp s), none⟩
def f (d k s : Nat) : LOp := ⟨some d, .fad k (.tmp s), none⟩
def l (d n s : Nat) : LOp := ⟨some d, .load false n (.tmp s), none⟩
def L (d n s : Nat) : LOp := ⟨some d, .load true n (.tmp s), none⟩
def e (d s : Nat) (n : Int) : LOp := ⟨some d, .bin .eql (.tmp s) (.con (.int .i64 n)), none⟩
def p (d x y : Nat) : LOp := ⟨some d, .pick (.tmp x) (.tmp y) (.con (.bool false)), none⟩
def q (d x y : Nat) : LOp := ⟨some d, .pick (.tmp x) (.con (.bool true)) (.tmp y), none⟩
def i (d : Nat) (n : Int) : LOp := ⟨some d, .mov (.con (.int .i64 n)), none⟩
def n (d s : Nat) : LOp := ⟨some d, .len false (.tmp s), none⟩
def a (d s : Nat) (n : Int) : LOp := ⟨some d, .bin .add (.tmp s) (.con (.int .i64 n)), none⟩
def x (d k s t : Nat) : LOp := ⟨some d, .iaS k (.tmp s) (.tmp t), none⟩
def b0 (d : Nat) : LOp := ⟨some d, .mov (.con (.bool false)), none⟩
def b1 (d : Nat) : LOp := ⟨some d, .mov (.con (.bool true)), none⟩
def s (d x y : Nat) : LOp := ⟨some d, .bin .lss (.tmp x) (.tmp y), none⟩
def u (d x : Nat) : LOp := ⟨some d, .un .not (.tmp x), none⟩
def k (d x : Nat) : LOp := ⟨some d, .nilchk (.tmp x), none⟩
def o (d x : Nat) : LOp := ⟨some d, .box (.tmp x), none⟩
def E (d x y : Nat) : LOp := ⟨some d, .bin .eql (.tmp x) (.tmp y), none⟩
def N (d s : Nat) (n : Int) : LOp := ⟨some d, .bin .neq (.tmp s) (.con (.int .i64 n)), none⟩
def c (d f x : Nat) : LOp := ⟨some d, .call f [.tmp x], none⟩
def C (d f x y : Nat) : LOp := ⟨some d, .call f [.tmp x, .tmp y], none⟩
def X (d x k : Nat) : LOp := ⟨some d, .ext (.tmp x) k, none⟩
def g (t : Nat) (y : LOp) : LOp := ⟨y.dst, y.op, some (t, false)⟩
def h (t : Nat) (y : LOp) : LOp := ⟨y.dst, y.op, some (t, true)⟩
def W (n a x : Nat) : LOp := ⟨none, .store n (.tmp a) (.tmp x), none⟩
def t (l : List UInt8) : V := .str ⟨l.toArray⟩
def I (n : Int) : Rd := .con (.int .i64 n)
def r (k : Nat) (l : List LOp) : LC := .rego k l
def z (a b : LC) : LC := .seq a b
def y (t : Nat) (a b : LC) : LC := .cond (.tmp t) a b
def w (t k : Nat) : LC := .cond (.tmp t) .skip (.exit k)
end Go.Lg.Sh
