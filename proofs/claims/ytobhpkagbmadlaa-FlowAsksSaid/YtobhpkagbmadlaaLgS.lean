/-
  What comes in, opened: from 'Ty' to Lean values, for numbers, bools, texts, structs, slices.
-/
import Derived.Test.YtobhpkagbmadlaaLgR
set_option linter.unusedSimpArgs false
set_option linter.unusedVariables false
namespace Go.Lg
open Go Go.RowKit

def kindF (P : Program) (t : TypeId) : Option IntKind := match P.underlying t with | some (.int k) => some k | _ => none
def boolF (P : Program) (t : TypeId) : Bool := match P.underlying t with | some .bool => true | _ => false
def strF (P : Program) (t : TypeId) : Bool := match P.underlying t with | some .string => true | _ => false
def stF (P : Program) (t : TypeId) : Option (List TypeId) := match P.underlying t with | some (.struct fs) => if tileOk P t then some (fs.toList.map (·.type)) else none | _ => none
def slF (P : Program) (t : TypeId) : Option (TypeId × Nat) := match P.underlying t with | some (.slice e) => some (e, P.cellsOf e) | _ => none
def arF (P : Program) (t : TypeId) : Option (Nat × TypeId × Nat) := match P.underlying t with | some (.array n e) => some (n, e, P.cellsOf e) | _ => none

/-- Cells in pieces, each with its type. -/
def Pcs (Q : TypeId → List V → Prop) : List TypeId → List V → Prop
  | [], xs => xs = []
  | t :: r, xs => ∃ p q, xs = p ++ q ∧ Q t p ∧ Pcs Q r q

section
variable {P : Program}

theorem pcs_of {Q : TypeId → List V → Prop} {xs : List V} : ∀ (fs : List Field) (o n : Nat), tileF P o fs = some n → xs.length = n → (∀ f ∈ fs, Q f.type ((xs.drop f.offset).take (P.cellsOf f.type))) → Pcs Q (fs.map (·.type)) (xs.drop o)
  | [], o, n, h, hl, _ => by
    cases h
    simp only [List.map_nil, Pcs]
    exact List.drop_eq_nil_of_le (by omega)
  | f :: r, o, n, h, hl, hf => by
    simp only [tileF] at h
    split at h
    case isFalse => cases h
    rename_i ho
    have h1 := hf f (List.mem_cons_self ..)
    rw [ho] at h1
    refine ⟨_, _, ?_, h1, pcs_of r _ n h hl fun g hg => hf g (List.mem_cons_of_mem _ hg)⟩
    rw [← List.drop_drop, List.take_append_drop]

theorem Ty.st {t : TypeId} {xs : List V} {ts : List TypeId} (h : Ty P t xs) (hs : stF P t = some ts) : Pcs (Ty P) ts xs := by
  unfold stF at hs
  cases h with
  | struct _ fs _ hu hl hf =>
    simp only [hu] at hs
    split at hs
    case isFalse => cases hs
    rename_i ht
    cases hs
    simp only [tileOk, hu, beq_iff_eq] at ht
    have := pcs_of (Q := Ty P) (xs := xs) fs.toList 0 _ ht hl hf
    simpa using this
  | other _ d hu ho => simp only [hu] at hs; cases d <;> simp_all [otherOk]
  | _ => simp_all

def IsT (P : Program) (t : TypeId) {α : Type} (f : α → List V) (ok : α → Prop) : Prop := ∀ xs, Ty P t xs → ∃ x, xs = f x ∧ ok x

def encL {α : Type} (f : α → List V) (l : List α) : V := .sl l.length (l.flatMap f)

theorem isInt {t : TypeId} (h : kindF P t = some .i64) : IsT P t (fun n : Int => [.int .i64 n]) InI64 := by
  intro xs hx
  unfold kindF at h
  cases hx with
  | int _ k n hu hw =>
    simp only [hu, Option.some.injEq] at h
    subst h
    refine ⟨n, rfl, ?_⟩
    simp [Lit.wf, IntKind.min, IntKind.max, IntKind.signed, IntKind.bits] at hw
    exact hw
  | other _ d hu ho => simp only [hu] at h; cases d <;> simp_all [otherOk]
  | _ => simp_all
theorem isBool {t : TypeId} (h : boolF P t = true) : IsT P t (fun b : Bool => [.bool b]) (fun _ => True) := by
  intro xs hx
  unfold boolF at h
  cases hx with
  | bool _ b hu => exact ⟨b, rfl, trivial⟩
  | other _ d hu ho => simp only [hu] at h; cases d <;> simp_all [otherOk]
  | _ => simp_all
theorem isStr {t : TypeId} (h : strF P t = true) : IsT P t (fun s : ByteArray => [.str s]) (fun s => s.size ≤ maxLen) := by
  intro xs hx
  unfold strF at h
  cases hx with
  | str _ b hu hs => exact ⟨b, rfl, hs⟩
  | other _ d hu ho => simp only [hu] at h; cases d <;> simp_all [otherOk]
  | _ => simp_all

theorem Ty.sl {t e : TypeId} {s : Nat} {xs : List V} (h : Ty P t xs) (hs : slF P t = some (e, s)) (hp : 0 < s) :
    ∃ n cs, xs = [.sl n cs] ∧ cs.length = n * s ∧ n ≤ maxLen ∧ ∀ i, i < n → Ty P e ((cs.drop (i * s)).take s) := by
  unfold slF at hs
  cases h with
  | slice _ e' n cs hu hl hn hi =>
    simp only [hu, Option.some.injEq, Prod.mk.injEq] at hs
    obtain ⟨rfl, rfl⟩ := hs
    exact ⟨n, cs, rfl, hl, hn, hi⟩
  | other _ d hu ho =>
    simp only [hu] at hs
    cases d with
    | slice e' =>
      simp only [Option.some.injEq, Prod.mk.injEq] at hs
      obtain ⟨rfl, rfl⟩ := hs
      simp [otherOk] at ho; omega
    | _ => cases hs
  | _ => simp_all

theorem list_of_pcs {α : Type} {f : α → List V} {ok : α → Prop} {s : Nat} (hf : ∀ x, (f x).length = s) : ∀ (n : Nat) (cs : List V), cs.length = n * s → (∀ i, i < n → ∃ x, (cs.drop (i * s)).take s = f x ∧ ok x) →
    ∃ l : List α, l.length = n ∧ cs = l.flatMap f ∧ ∀ x ∈ l, ok x
  | 0, cs, hl, _ => ⟨[], rfl, List.eq_nil_of_length_eq_zero (by omega), fun x h => by cases h⟩
  | n + 1, cs, hl, h => by
    obtain ⟨x, hx, hox⟩ := h 0 (by omega)
    have hl' : (cs.drop s).length = n * s := by rw [List.length_drop, hl, Nat.add_mul]; omega
    obtain ⟨l, h1, h2, h3⟩ := list_of_pcs hf n (cs.drop s) hl' fun i hi => by
      obtain ⟨y, hy, hoy⟩ := h (i + 1) (by omega)
      refine ⟨y, ?_, hoy⟩
      rw [List.drop_drop, show s + i * s = (i + 1) * s by rw [Nat.add_mul]; omega]
      exact hy
    refine ⟨x :: l, by simp [h1], ?_, fun y hy => ?_⟩
    · simp only [Nat.zero_mul, List.drop_zero] at hx
      rw [List.flatMap_cons, ← h2, ← hx, List.take_append_drop]
    · rcases List.mem_cons.1 hy with rfl | hy
      · exact hox
      · exact h3 y hy

theorem isSl {t e : TypeId} {s : Nat} {α : Type} {f : α → List V} {ok : α → Prop} (h : slF P t = some (e, s)) (hp : 0 < s) (hf : ∀ x, (f x).length = s) (he : IsT P e f ok) :
    IsT P t (fun l : List α => [encL f l]) (fun l => l.length ≤ maxLen ∧ ∀ x ∈ l, ok x) := by
  intro xs hx
  obtain ⟨n, cs, rfl, hl, hn, hi⟩ := hx.sl h hp
  obtain ⟨l, h1, h2, h3⟩ := list_of_pcs hf n cs hl fun i h => he _ (hi i h)
  exact ⟨l, by simp only [encL]; rw [← h2, h1], by omega, h3⟩

/-- An array, as a list. -/
theorem isAr {t e : TypeId} {s n : Nat} {α : Type} {f : α → List V} {ok : α → Prop} (h : arF P t = some (n, e, s)) (ht : tileOk P t = true) (hf : ∀ x, (f x).length = s) (he : IsT P e f ok) :
    IsT P t (fun l : List α => l.flatMap f) (fun l => l.length = n ∧ ∀ x ∈ l, ok x) := by
  intro xs hx
  unfold arF at h
  cases hx with
  | array _ n' e' _ hu hl hi =>
    simp only [hu, Option.some.injEq, Prod.mk.injEq] at h
    obtain ⟨rfl, rfl, rfl⟩ := h
    simp only [tileOk, hu, beq_iff_eq] at ht
    obtain ⟨l, h1, h2, h3⟩ := list_of_pcs hf n' xs (by omega) fun i h => he _ (hi i h)
    exact ⟨l, h2, h1, h3⟩
  | other _ d hu ho => simp only [hu] at h; cases d <;> simp_all [otherOk]
  | _ => simp_all

/-! Reading lists of records. -/
theorem flat_len {α : Type} {f : α → List V} {s : Nat} (hf : ∀ x, (f x).length = s) : ∀ (l : List α), (l.flatMap f).length = l.length * s
  | [] => by simp
  | x :: l => by rw [List.flatMap_cons, List.length_append, flat_len hf l, hf, List.length_cons, Nat.add_mul]; omega

theorem flat_rec {α : Type} {f : α → List V} {s : Nat} (hf : ∀ x, (f x).length = s) : ∀ (l : List α) (i : Nat) (h : i < l.length), ((l.flatMap f).drop (i * s)).take s = f l[i]
  | x :: l, 0, _ => by
    rw [List.flatMap_cons, Nat.zero_mul, List.drop_zero, ← hf x, List.take_left]; rfl
  | x :: l, i + 1, h => by
    rw [List.flatMap_cons, Nat.add_mul, Nat.one_mul, Nat.add_comm, List.drop_append, hf, List.drop_eq_nil_of_le (by rw [hf]; omega), List.nil_append, Nat.add_sub_cancel_left]
    exact flat_rec hf l i (by simpa using h)

theorem flat_cell {α : Type} {f : α → List V} {s : Nat} (hf : ∀ x, (f x).length = s) : ∀ (l : List α) (i j : Nat) (h : i < l.length), j < s → (l.flatMap f)[i * s + j]? = (f l[i])[j]?
  | x :: l, 0, j, _, hj => by
    rw [List.flatMap_cons, Nat.zero_mul, Nat.zero_add, List.getElem?_append_left (by rw [hf]; exact hj)]; rfl
  | x :: l, i + 1, j, h, hj => by
    rw [List.flatMap_cons, List.getElem?_append_right (by rw [hf, Nat.add_mul]; omega), hf, show (i + 1) * s + j - s = i * s + j by rw [Nat.add_mul]; omega]
    exact flat_cell hf l i j (by simpa using h) hj

theorem flat_one {α : Type} {f : α → V} (l : List α) (i : Nat) : (l.flatMap fun x => [f x])[i]? = l[i]?.map f := by
  rw [← List.map_eq_flatMap, List.getElem?_map]

end
end Go.Lg
