/-
  The reckoning of regions whose operations touch memory in a drawn order: what each reads and turns is looked at.
-/
import Derived.Test.YtgpeaibhhonikaaGreatDoorEf
set_option linter.unusedSimpArgs false
set_option linter.unusedVariables false
namespace Go.Lg
open Go Go.RowKit

def keysV : V → List Key
  | .mp k _ _ | .msl k _ _ _ | .msv k _ _ _ _ | .mm k => [k]
  | _ => []
/-- Which objects an operation may read (those that it turns among them). -/
def rdK (op : IOp) (tm : Nat → V) : List Key := match op with
  | .load _ _ a => keysV (a.get tm)
  | .store _ a _ => keysV (a.get tm)
  | .mlk _ _ _ x _ => keysV (x.get tm)
  | .mset _ x _ _ => keysV (x.get tm)
  | .app _ _ x y | .appE _ _ x y => keysV (x.get tm) ++ keysV (y.get tm)
  | _ => []
/-- Which objects it turns. -/
def wrK (op : IOp) (tm : Nat → V) (s n : Nat) : List Key := match op with
  | .store _ a _ => keysV (a.get tm)
  | .mset _ x _ _ => keysV (x.get tm)
  | .app _ _ x _ | .appE _ _ x _ => (s, n) :: keysV (x.get tm)
  | op => if op.cls = .C then [(s, n)] else []
/-- It may stand in such a region. -/
def dynOp (op : IOp) : Bool := match op with
  | .load .. | .store .. | .mlk .. | .mset .. | .app .. | .appE .. => true
  | op => decide (op.cls = .A) || decide (op.cls = .C)

def SameL (kn : Key) (wk : List Key) (H H' : Heap) : LRes → LRes → Prop
  | .A pre v, l' => l' = .A pre v
  | .C pre o mk, l' => kn ∈ wk ∧ l' = .C pre o mk
  | .D pre v H1, l' => ∃ k o, k ∈ wk ∧ H1 = hupd H k o ∧ l' = .D pre v (hupd H' k o)
  | .call .., _ => False
  | .bad, _ => True
theorem sameL_A {kn : Key} {wk : List Key} {H H' : Heap} {l l' : LRes} (h : isA l = true) (e : l' = l) : SameL kn wk H H' l l' := by
  rw [e]
  cases l <;> first | rfl | exact trivial | cases h
theorem sameL_C {kn : Key} {wk : List Key} {H H' : Heap} {l l' : LRes} (h : isC l = true) (hk : kn ∈ wk) (e : l' = l) : SameL kn wk H H' l l' := by
  rw [e]
  cases l <;> first | exact ⟨hk, rfl⟩ | exact trivial | cases h

theorem src_same {H H' : Heap} {esz : Nat} {y : V} (h : ∀ k ∈ keysV y, H' k = H k) : srcOf H' esz y = srcOf H esz y := by
  cases y <;> try rfl
  simp only [srcOf, h _ (List.mem_singleton.2 rfl)]

theorem lop_same {op : IOp} {tm : Nat → V} {H H' : Heap} {s n : Nat} (hop : dynOp op = true) (h : ∀ k ∈ rdK op tm, H' k = H k) : SameL (s, n) (wrK op tm s n) H H' (lop op tm H) (lop op tm H') := by
  cases op <;> first
    | exact sameL_A (cls_A rfl tm H H').2 (cls_A rfl tm H H').1
    | exact sameL_C (cls_C rfl tm H H').2 (by simp [wrK, IOp.cls]) (cls_C rfl tm H H').1
    | (cases hop; done)
    | skip
  all_goals simp only [rdK, wrK, lop] at h ⊢
  case load agg n a =>
    generalize a.get tm = X at h ⊢
    cases X <;> simp only [lload] <;> try exact trivial
    · exact sameL_A (isA_ofOpt _) rfl
    · rename_i k g off
      rw [h k (by simp [keysV])]
      cases H k with
      | none => exact trivial
      | some o =>
        cases o with
        | map es => exact trivial
        | row g' e cs =>
          simp only []
          by_cases hg : g' = g
          · rw [if_pos hg]; exact sameL_A (isA_ofOpt _) rfl
          · rw [if_neg hg]; exact trivial
  case store n a x =>
    generalize a.get tm = X at h ⊢
    cases X <;> simp only [lstore] <;> try exact trivial
    rename_i k g off
    rw [h k (by simp [keysV])]
    cases H k with
    | none => exact trivial
    | some o =>
      cases o with
      | map es => exact trivial
      | row g' e cs =>
        simp only []
        by_cases hg : g' = g
        · rw [if_pos hg, if_pos hg]; exact ⟨k, _, by simp [keysV], rfl, rfl⟩
        · rw [if_neg hg]; exact trivial
  case mlk kt ok z x i =>
    generalize x.get tm = X at h ⊢
    cases X <;> simp only [lmlk] <;> try exact trivial
    · rename_i k
      rw [h k (by simp [keysV])]
      cases H k with
      | none => exact trivial
      | some o => cases o <;> first | exact trivial | rfl
    · rfl
  case mset kt x i v =>
    generalize x.get tm = X at h ⊢
    cases X <;> simp only [lmset] <;> try exact trivial
    rename_i k
    rw [h k (by simp [keysV])]
    cases H k with
    | none => exact trivial
    | some o =>
      cases o with
      | map es => exact ⟨k, _, by simp [keysV], rfl, rfl⟩
      | row g' e cs => exact trivial
  case app e b x y =>
    generalize x.get tm = X at h ⊢
    generalize y.get tm = Y at h ⊢
    simp only [lappx]
    rw [src_same fun k hk => h k (List.mem_append_right _ hk)]
    cases srcOf H e Y with
    | none => exact trivial
    | some src =>
      cases X <;> simp only [lapp] <;> try exact trivial
      · exact ⟨by simp, rfl⟩
      · rename_i k g off m
        rw [h k (by simp [keysV])]
        cases H k with
        | none => exact trivial
        | some o =>
          cases o with
          | map es => exact trivial
          | row g' e' cs => exact ⟨k, _, by simp [keysV], rfl, rfl⟩
  case appE e b x y =>
    generalize x.get tm = X at h ⊢
    generalize y.get tm = Y at h ⊢
    cases X <;> simp only [lappE] <;> try exact trivial
    simp only [lappx]
    rw [src_same fun k hk => h k (List.mem_append_right _ hk)]
    cases srcOf H e Y with
    | none => exact trivial
    | some src => exact ⟨by simp, rfl⟩

theorem isD_ofOpt {o : Option V} {pre : Prop} {v : V} {H1 : Heap} (h : LRes.ofOpt o = .D pre v H1) : False := by cases o <;> cases h
theorem lop_sameD {op : IOp} {tm : Nat → V} {H H1 : Heap} {s n : Nat} {pre : Prop} {v : V} (hl : lop op tm H = .D pre v H1) :
    ∃ k o, k ∈ wrK op tm s n ∧ H1 = hupd H k o ∧ ∀ H', (∀ k ∈ rdK op tm, H' k = H k) → lop op tm H' = .D pre v (hupd H' k o) := by
  by_cases hA : op.cls = .A
  · have := (cls_A hA tm H H).2
    rw [hl] at this; cases this
  by_cases hC : op.cls = .C
  · have := (cls_C hC tm H H).2
    rw [hl] at this; cases this
  cases op <;> first
    | exact absurd rfl hA
    | exact absurd rfl hC
    | skip
  case store m a x =>
    simp only [lop, rdK, wrK] at hl ⊢
    generalize a.get tm = X at hl ⊢
    cases X <;> simp only [lstore] at hl <;> try (cases hl; done)
    rename_i k g off
    cases hk : H k with
    | none => simp only [hk] at hl; cases hl
    | some o =>
      cases o with
      | map es => simp only [hk] at hl; cases hl
      | row g' e cs =>
        simp only [hk] at hl
        by_cases hg : g' = g
        · rw [if_pos hg] at hl
          cases hl
          refine ⟨k, _, by simp [keysV], rfl, fun H' h => ?_⟩
          simp only [lstore, h k (by simp [keysV]), hk, if_pos hg]
        · rw [if_neg hg] at hl; cases hl
  case mset kt x i w =>
    simp only [lop, rdK, wrK] at hl ⊢
    generalize x.get tm = X at hl ⊢
    cases X <;> simp only [lmset] at hl <;> try (cases hl; done)
    rename_i k
    cases hk : H k with
    | none => simp only [hk] at hl; cases hl
    | some o =>
      cases o with
      | row g' e cs => simp only [hk] at hl; cases hl
      | map es =>
        simp only [hk] at hl
        cases hl
        refine ⟨k, _, by simp [keysV], rfl, fun H' h => ?_⟩
        simp only [lmset, h k (by simp [keysV]), hk]
  case app e b x y =>
    simp only [lop, rdK, wrK] at hl ⊢
    generalize x.get tm = X at hl ⊢
    generalize y.get tm = Y at hl ⊢
    simp only [lappx] at hl ⊢
    cases hs : srcOf H e Y with
    | none => simp only [hs] at hl; cases hl
    | some src =>
      simp only [hs] at hl
      cases X <;> simp only [lapp] at hl <;> try (cases hl; done)
      rename_i k g off m
      cases hk : H k with
      | none => simp only [hk] at hl; cases hl
      | some o =>
        cases o with
        | map es => simp only [hk] at hl; cases hl
        | row g' e' cs =>
          simp only [hk] at hl
          cases hl
          refine ⟨k, _, by simp [keysV], rfl, fun H' h => ?_⟩
          rw [src_same fun k' hk' => h k' (List.mem_append_right _ hk'), hs]
          simp only [lapp, h k (by simp [keysV]), hk]
  case appE e b x y =>
    simp only [lop] at hl
    generalize x.get tm = X at hl
    generalize y.get tm = Y at hl
    cases X <;> simp only [lappE] at hl <;> try (cases hl; done)
    simp only [lappx] at hl
    cases hs : srcOf H e Y with
    | none => simp only [hs] at hl; cases hl
    | some src => simp only [hs, lapp] at hl; cases hl
  case load agg m a =>
    simp only [lop] at hl
    generalize a.get tm = X at hl
    cases X <;> simp only [lload] at hl <;> try (cases hl; done)
    · exact (isD_ofOpt hl).elim
    · rename_i k g off
      repeat' split at hl
      all_goals first | exact (isD_ofOpt hl).elim | cases hl
  case mlk kt ok z x i =>
    simp only [lop, lmlk] at hl
    repeat' split at hl
    all_goals cases hl
  case mlen x =>
    simp only [lop, lmlen] at hl
    repeat' split at hl
    all_goals cases hl
  case b2s x =>
    simp only [lop, lb2s] at hl
    repeat' split at hl
    all_goals cases hl
  case msb x =>
    simp only [lop, lmsb] at hl
    repeat' split at hl
    all_goals cases hl
  case call f args => cases hl
  case callv f args =>
    simp only [lop, lcallv] at hl
    repeat' split at hl
    all_goals cases hl
  case cpy => cases hl
  case bad => cases hl

/-! Two values that are one. -/
noncomputable def kdEq (a b : IntKind) : Bool := decide (a = b)
noncomputable def strQ (a b : ByteArray) : Bool := qBy a.data.toList b.data.toList
theorem strQ_ok {a b : ByteArray} (h : strQ a b = true) : a = b := by
  unfold strQ at h
  rw [qBy_eq] at h
  have h := eq_of_beq h
  obtain ⟨⟨a⟩⟩ := a
  obtain ⟨⟨b⟩⟩ := b
  have h : a = b := h
  rw [h]
noncomputable def lEq (f : V → V → Bool) (a : List V) : List V → Bool := List.rec (motive := fun _ => List V → Bool) (fun b => List.rec (motive := fun _ => Bool) true (fun _ _ _ => false) b) (fun x _ ih b => List.rec (motive := fun _ => Bool) false (fun y r _ => Bool.rec (motive := fun _ => Bool) false (ih r) (f x y)) b) a
theorem lEq_ok {f : V → V → Bool} (hf : ∀ a b, f a b = true → a = b) : ∀ {a b : List V}, lEq f a b = true → a = b
  | [], [], _ => rfl
  | [], _ :: _, h => by cases h
  | _ :: _, [], h => by cases h
  | x :: a, y :: b, h => by
    obtain ⟨h1, h2⟩ := bool_and (b := f x y) (c := lEq f a b) h
    rw [hf x y h1, lEq_ok hf h2]
noncomputable def vEq (d : Nat) : V → V → Bool := Nat.rec (motive := fun _ => V → V → Bool) (fun _ _ => false) (fun _ ih a => (V.rec (motive_1 := fun _ => V → Bool) (motive_2 := fun _ => Unit) (motive_3 := fun _ => Unit) (motive_4 := fun _ => Unit) (fun k n => fun b => (V.rec (motive_1 := fun _ => Bool) (motive_2 := fun _ => Unit) (motive_3 := fun _ => Unit) (motive_4 := fun _ => Unit) (fun k' n' => (Bool.rec (motive := fun _ => Bool) false (iEq n n') (kdEq k k'))) (fun _ => false) (fun _ => false) (fun _ _ => false) (fun _ _ => false) (fun _ _ _ => false) (false) (fun _ _ _ _ => false) (fun _ _ _ _ _ => false) (false) (fun _ _ _ => false) (fun _ _ _ => false) (fun _ _ _ => false) (false) (fun _ _ _ => false) (false) (false) (fun _ => false) (fun _ _ => false) (false) () (fun _ _ _ _ => ()) () (fun _ _ _ _ => ()) (fun _ _ _ _ => ()) b)) (fun x => fun b => (V.rec (motive_1 := fun _ => Bool) (motive_2 := fun _ => Unit) (motive_3 := fun _ => Unit) (motive_4 := fun _ => Unit) (fun _ _ => false) (fun y => bNot (bXor x y)) (fun _ => false) (fun _ _ => false) (fun _ _ => false) (fun _ _ _ => false) (false) (fun _ _ _ _ => false) (fun _ _ _ _ _ => false) (false) (fun _ _ _ => false) (fun _ _ _ => false) (fun _ _ _ => false) (false) (fun _ _ _ => false) (false) (false) (fun _ => false) (fun _ _ => false) (false) () (fun _ _ _ _ => ()) () (fun _ _ _ _ => ()) (fun _ _ _ _ => ()) b)) (fun s => fun b => (V.rec (motive_1 := fun _ => Bool) (motive_2 := fun _ => Unit) (motive_3 := fun _ => Unit) (motive_4 := fun _ => Unit) (fun _ _ => false) (fun _ => false) (fun s' => (strQ s s')) (fun _ _ => false) (fun _ _ => false) (fun _ _ _ => false) (false) (fun _ _ _ _ => false) (fun _ _ _ _ _ => false) (false) (fun _ _ _ => false) (fun _ _ _ => false) (fun _ _ _ => false) (false) (fun _ _ _ => false) (false) (false) (fun _ => false) (fun _ _ => false) (false) () (fun _ _ _ _ => ()) () (fun _ _ _ _ => ()) (fun _ _ _ _ => ()) b)) (fun cs _ => fun b => (V.rec (motive_1 := fun _ => Bool) (motive_2 := fun _ => Unit) (motive_3 := fun _ => Unit) (motive_4 := fun _ => Unit) (fun _ _ => false) (fun _ => false) (fun _ => false) (fun cs' _ => (lEq ih cs cs')) (fun _ _ => false) (fun _ _ _ => false) (false) (fun _ _ _ _ => false) (fun _ _ _ _ _ => false) (false) (fun _ _ _ => false) (fun _ _ _ => false) (fun _ _ _ => false) (false) (fun _ _ _ => false) (false) (false) (fun _ => false) (fun _ _ => false) (false) () (fun _ _ _ _ => ()) () (fun _ _ _ _ => ()) (fun _ _ _ _ => ()) b)) (fun cs _ => fun b => (V.rec (motive_1 := fun _ => Bool) (motive_2 := fun _ => Unit) (motive_3 := fun _ => Unit) (motive_4 := fun _ => Unit) (fun _ _ => false) (fun _ => false) (fun _ => false) (fun _ _ => false) (fun cs' _ => (lEq ih cs cs')) (fun _ _ _ => false) (false) (fun _ _ _ _ => false) (fun _ _ _ _ _ => false) (false) (fun _ _ _ => false) (fun _ _ _ => false) (fun _ _ _ => false) (false) (fun _ _ _ => false) (false) (false) (fun _ => false) (fun _ _ => false) (false) () (fun _ _ _ _ => ()) () (fun _ _ _ _ => ()) (fun _ _ _ _ => ()) b)) (fun n cs _ => fun b => (V.rec (motive_1 := fun _ => Bool) (motive_2 := fun _ => Unit) (motive_3 := fun _ => Unit) (motive_4 := fun _ => Unit) (fun _ _ => false) (fun _ => false) (fun _ => false) (fun _ _ => false) (fun _ _ => false) (fun n' cs' _ => (Bool.rec (motive := fun _ => Bool) false (lEq ih cs cs') (Nat.beq n n'))) (false) (fun _ _ _ _ => false) (fun _ _ _ _ _ => false) (false) (fun _ _ _ => false) (fun _ _ _ => false) (fun _ _ _ => false) (false) (fun _ _ _ => false) (false) (false) (fun _ => false) (fun _ _ => false) (false) () (fun _ _ _ _ => ()) () (fun _ _ _ _ => ()) (fun _ _ _ _ => ()) b)) (fun b => (V.rec (motive_1 := fun _ => Bool) (motive_2 := fun _ => Unit) (motive_3 := fun _ => Unit) (motive_4 := fun _ => Unit) (fun _ _ => false) (fun _ => false) (fun _ => false) (fun _ _ => false) (fun _ _ => false) (fun _ _ _ => false) (true) (fun _ _ _ _ => false) (fun _ _ _ _ _ => false) (false) (fun _ _ _ => false) (fun _ _ _ => false) (fun _ _ _ => false) (false) (fun _ _ _ => false) (false) (false) (fun _ => false) (fun _ _ => false) (false) () (fun _ _ _ _ => ()) () (fun _ _ _ _ => ()) (fun _ _ _ _ => ()) b)) (fun k g o n => fun b => (V.rec (motive_1 := fun _ => Bool) (motive_2 := fun _ => Unit) (motive_3 := fun _ => Unit) (motive_4 := fun _ => Unit) (fun _ _ => false) (fun _ => false) (fun _ => false) (fun _ _ => false) (fun _ _ => false) (fun _ _ _ => false) (false) (fun k' g' o' n' => (Bool.rec (motive := fun _ => Bool) false (Bool.rec (motive := fun _ => Bool) false (Bool.rec (motive := fun _ => Bool) false (Nat.beq n n') (Nat.beq o o')) (Nat.beq g g')) (keyEq k k'))) (fun _ _ _ _ _ => false) (false) (fun _ _ _ => false) (fun _ _ _ => false) (fun _ _ _ => false) (false) (fun _ _ _ => false) (false) (false) (fun _ => false) (fun _ _ => false) (false) () (fun _ _ _ _ => ()) () (fun _ _ _ _ => ()) (fun _ _ _ _ => ()) b)) (fun _ _ _ _ _ => fun _ => false) (fun b => (V.rec (motive_1 := fun _ => Bool) (motive_2 := fun _ => Unit) (motive_3 := fun _ => Unit) (motive_4 := fun _ => Unit) (fun _ _ => false) (fun _ => false) (fun _ => false) (fun _ _ => false) (fun _ _ => false) (fun _ _ _ => false) (false) (fun _ _ _ _ => false) (fun _ _ _ _ _ => false) (true) (fun _ _ _ => false) (fun _ _ _ => false) (fun _ _ _ => false) (false) (fun _ _ _ => false) (false) (false) (fun _ => false) (fun _ _ => false) (false) () (fun _ _ _ _ => ()) () (fun _ _ _ _ => ()) (fun _ _ _ _ => ()) b)) (fun cs o _ => fun b => (V.rec (motive_1 := fun _ => Bool) (motive_2 := fun _ => Unit) (motive_3 := fun _ => Unit) (motive_4 := fun _ => Unit) (fun _ _ => false) (fun _ => false) (fun _ => false) (fun _ _ => false) (fun _ _ => false) (fun _ _ _ => false) (false) (fun _ _ _ _ => false) (fun _ _ _ _ _ => false) (false) (fun cs' o' _ => (Bool.rec (motive := fun _ => Bool) false (lEq ih cs cs') (Nat.beq o o'))) (fun _ _ _ => false) (fun _ _ _ => false) (false) (fun _ _ _ => false) (false) (false) (fun _ => false) (fun _ _ => false) (false) () (fun _ _ _ _ => ()) () (fun _ _ _ _ => ()) (fun _ _ _ _ => ()) b)) (fun k g o => fun b => (V.rec (motive_1 := fun _ => Bool) (motive_2 := fun _ => Unit) (motive_3 := fun _ => Unit) (motive_4 := fun _ => Unit) (fun _ _ => false) (fun _ => false) (fun _ => false) (fun _ _ => false) (fun _ _ => false) (fun _ _ _ => false) (false) (fun _ _ _ _ => false) (fun _ _ _ _ _ => false) (false) (fun _ _ _ => false) (fun k' g' o' => (Bool.rec (motive := fun _ => Bool) false (Bool.rec (motive := fun _ => Bool) false (Nat.beq o o') (Nat.beq g g')) (keyEq k k'))) (fun _ _ _ => false) (false) (fun _ _ _ => false) (false) (false) (fun _ => false) (fun _ _ => false) (false) () (fun _ _ _ _ => ()) () (fun _ _ _ _ => ()) (fun _ _ _ _ => ()) b)) (fun t v _ => fun b => (V.rec (motive_1 := fun _ => Bool) (motive_2 := fun _ => Unit) (motive_3 := fun _ => Unit) (motive_4 := fun _ => Unit) (fun _ _ => false) (fun _ => false) (fun _ => false) (fun _ _ => false) (fun _ _ => false) (fun _ _ _ => false) (false) (fun _ _ _ _ => false) (fun _ _ _ _ _ => false) (false) (fun _ _ _ => false) (fun _ _ _ => false) (fun t' v' _ => (Bool.rec (motive := fun _ => Bool) false (ih v v') (Nat.beq t t'))) (false) (fun _ _ _ => false) (false) (false) (fun _ => false) (fun _ _ => false) (false) () (fun _ _ _ _ => ()) () (fun _ _ _ _ => ()) (fun _ _ _ _ => ()) b)) (fun b => (V.rec (motive_1 := fun _ => Bool) (motive_2 := fun _ => Unit) (motive_3 := fun _ => Unit) (motive_4 := fun _ => Unit) (fun _ _ => false) (fun _ => false) (fun _ => false) (fun _ _ => false) (fun _ _ => false) (fun _ _ _ => false) (false) (fun _ _ _ _ => false) (fun _ _ _ _ _ => false) (false) (fun _ _ _ => false) (fun _ _ _ => false) (fun _ _ _ => false) (true) (fun _ _ _ => false) (false) (false) (fun _ => false) (fun _ _ => false) (false) () (fun _ _ _ _ => ()) () (fun _ _ _ _ => ()) (fun _ _ _ _ => ()) b)) (fun _ _ _ => fun _ => false) (fun b => (V.rec (motive_1 := fun _ => Bool) (motive_2 := fun _ => Unit) (motive_3 := fun _ => Unit) (motive_4 := fun _ => Unit) (fun _ _ => false) (fun _ => false) (fun _ => false) (fun _ _ => false) (fun _ _ => false) (fun _ _ _ => false) (false) (fun _ _ _ _ => false) (fun _ _ _ _ _ => false) (false) (fun _ _ _ => false) (fun _ _ _ => false) (fun _ _ _ => false) (false) (fun _ _ _ => false) (true) (false) (fun _ => false) (fun _ _ => false) (false) () (fun _ _ _ _ => ()) () (fun _ _ _ _ => ()) (fun _ _ _ _ => ()) b)) (fun b => (V.rec (motive_1 := fun _ => Bool) (motive_2 := fun _ => Unit) (motive_3 := fun _ => Unit) (motive_4 := fun _ => Unit) (fun _ _ => false) (fun _ => false) (fun _ => false) (fun _ _ => false) (fun _ _ => false) (fun _ _ _ => false) (false) (fun _ _ _ _ => false) (fun _ _ _ _ _ => false) (false) (fun _ _ _ => false) (fun _ _ _ => false) (fun _ _ _ => false) (false) (fun _ _ _ => false) (false) (true) (fun _ => false) (fun _ _ => false) (false) () (fun _ _ _ _ => ()) () (fun _ _ _ _ => ()) (fun _ _ _ _ => ()) b)) (fun k => fun b => (V.rec (motive_1 := fun _ => Bool) (motive_2 := fun _ => Unit) (motive_3 := fun _ => Unit) (motive_4 := fun _ => Unit) (fun _ _ => false) (fun _ => false) (fun _ => false) (fun _ _ => false) (fun _ _ => false) (fun _ _ _ => false) (false) (fun _ _ _ _ => false) (fun _ _ _ _ _ => false) (false) (fun _ _ _ => false) (fun _ _ _ => false) (fun _ _ _ => false) (false) (fun _ _ _ => false) (false) (false) (fun k' => (keyEq k k')) (fun _ _ => false) (false) () (fun _ _ _ _ => ()) () (fun _ _ _ _ => ()) (fun _ _ _ _ => ()) b)) (fun _ _ => fun _ => false) (fun b => (V.rec (motive_1 := fun _ => Bool) (motive_2 := fun _ => Unit) (motive_3 := fun _ => Unit) (motive_4 := fun _ => Unit) (fun _ _ => false) (fun _ => false) (fun _ => false) (fun _ _ => false) (fun _ _ => false) (fun _ _ _ => false) (false) (fun _ _ _ _ => false) (fun _ _ _ _ _ => false) (false) (fun _ _ _ => false) (fun _ _ _ => false) (fun _ _ _ => false) (false) (fun _ _ _ => false) (false) (false) (fun _ => false) (fun _ _ => false) (true) () (fun _ _ _ _ => ()) () (fun _ _ _ _ => ()) (fun _ _ _ _ => ()) b)) () (fun _ _ _ _ => ()) () (fun _ _ _ _ => ()) (fun _ _ _ _ => ()) a)) d
theorem beq_ok {a b : Nat} (h : Nat.beq a b = true) : a = b := Nat.eq_of_beq_eq_true h
theorem keyEq_ok {a b : Key} (h : keyEq a b = true) : a = b := by rw [keyEq_eq] at h; exact of_decide_eq_true h
theorem vEq_ok : ∀ (d : Nat) (a b : V), vEq d a b = true → a = b
  | 0, a, b, h => by cases h
  | d + 1, a, b, h => by
    have ih : ∀ a b, vEq d a b = true → a = b := vEq_ok d
    cases a <;> cases b <;> first | rfl | (cases h; done) | skip
    case int.int k n k' n' =>
      obtain ⟨h1, h2⟩ := bool_and (b := kdEq k k') (c := iEq n n') h
      rw [iEq_eq] at h2
      have h1 : k = k' := of_decide_eq_true h1
      have h2 := eq_of_beq h2
      rw [h1, h2]
    case bool.bool x y => cases x <;> cases y <;> first | rfl | cases h
    case str.str s s' => rw [strQ_ok (a := s) (b := s') h]
    case agg.agg cs cs' => rw [lEq_ok ih (a := cs) (b := cs') h]
    case tup.tup cs cs' => rw [lEq_ok ih (a := cs) (b := cs') h]
    case sl.sl n cs n' cs' =>
      obtain ⟨h1, h2⟩ := bool_and (b := Nat.beq n n') (c := lEq (vEq d) cs cs') h
      rw [beq_ok h1, lEq_ok ih h2]
    case msl.msl k g o n k' g' o' n' =>
      obtain ⟨h1, h2⟩ := bool_and (b := keyEq k k') (c := Bool.rec (motive := fun _ => Bool) false (Bool.rec (motive := fun _ => Bool) false (Nat.beq n n') (Nat.beq o o')) (Nat.beq g g')) h
      obtain ⟨h2, h3⟩ := bool_and h2
      obtain ⟨h3, h4⟩ := bool_and h3
      rw [keyEq_ok h1, beq_ok h2, beq_ok h3, beq_ok h4]
    case ip.ip cs o cs' o' =>
      obtain ⟨h1, h2⟩ := bool_and (b := Nat.beq o o') (c := lEq (vEq d) cs cs') h
      rw [beq_ok h1, lEq_ok ih h2]
    case mp.mp k g o k' g' o' =>
      obtain ⟨h1, h2⟩ := bool_and (b := keyEq k k') (c := Bool.rec (motive := fun _ => Bool) false (Nat.beq o o') (Nat.beq g g')) h
      obtain ⟨h2, h3⟩ := bool_and h2
      rw [keyEq_ok h1, beq_ok h2, beq_ok h3]
    case ifc.ifc t v t' v' =>
      obtain ⟨h1, h2⟩ := bool_and (b := Nat.beq t t') (c := vEq d v v') h
      rw [beq_ok h1, ih _ _ h2]
    case mm.mm k k' => rw [keyEq_ok (a := k) (b := k') h]
noncomputable def obEq (a b : LObj) : Bool := LObj.rec (motive := fun _ => Bool) (fun g e cs => LObj.rec (motive := fun _ => Bool) (fun g' e' cs' => Bool.rec (motive := fun _ => Bool) false (Bool.rec (motive := fun _ => Bool) false (lEq (vEq 6) cs cs') (Nat.beq e e')) (Nat.beq g g')) (fun _ => false) b) (fun _ => false) a
theorem obEq_ok {a b : LObj} (h : obEq a b = true) : a = b := by
  cases a <;> cases b <;> try (cases h; done)
  rename_i g e cs g' e' cs'
  obtain ⟨h1, h2⟩ := bool_and (b := Nat.beq g g') (c := Bool.rec (motive := fun _ => Bool) false (lEq (vEq 6) cs cs') (Nat.beq e e')) h
  obtain ⟨h2, h3⟩ := bool_and h2
  rw [beq_ok h1, beq_ok h2, lEq_ok (vEq_ok 6) h3]

/-! What was read and turned, reckoned. -/
structure Fp where
  R : List (Key × LObj)
  W : List Key
  big : Option (Hq × Hq)
structure Kb where
  f : Tq V → List Key
noncomputable def keysQ (v : V) : List Key := (V.rec (motive_1 := fun _ => List Key) (motive_2 := fun _ => Unit) (motive_3 := fun _ => Unit) (motive_4 := fun _ => Unit) (fun _ _ => []) (fun _ => []) (fun _ => []) (fun _ _ => []) (fun _ _ => []) (fun _ _ _ => []) ([]) (fun k g o n => [k]) (fun k g o n e => [k]) ([]) (fun _ _ _ => []) (fun k g o => [k]) (fun _ _ _ => []) ([]) (fun _ _ _ => []) ([]) ([]) (fun k => [k]) (fun _ _ => []) ([]) () (fun _ _ _ _ => ()) () (fun _ _ _ _ => ()) (fun _ _ _ _ => ()) v)
theorem keysQ_eq (v : V) : keysQ v = keysV v := by cases v <;> rfl
noncomputable def kbR (op : IOp) : Kb := match op with
  | .load _ _ a => ⟨fun t => keysQ ((rbOf a).g t)⟩
  | .store _ a _ => ⟨fun t => keysQ ((rbOf a).g t)⟩
  | .mlk _ _ _ x _ => ⟨fun t => keysQ ((rbOf x).g t)⟩
  | .mset _ x _ _ => ⟨fun t => keysQ ((rbOf x).g t)⟩
  | .app _ _ x y => ⟨fun t => keysQ ((rbOf x).g t) ++ keysQ ((rbOf y).g t)⟩
  | .appE _ _ x y => ⟨fun t => keysQ ((rbOf x).g t) ++ keysQ ((rbOf y).g t)⟩
  | _ => ⟨fun _ => []⟩
noncomputable def kbW (op : IOp) (s : Nat) : Tq V → Nat → List Key := match op with
  | .store _ a _ => fun t _ => keysQ ((rbOf a).g t)
  | .mset _ x _ _ => fun t _ => keysQ ((rbOf x).g t)
  | .app _ _ x _ => fun t n => (s, n) :: keysQ ((rbOf x).g t)
  | .appE _ _ x _ => fun t n => (s, n) :: keysQ ((rbOf x).g t)
  | op => fun _ n => if op.cls = .C then [(s, n)] else []
noncomputable def dlo2 (op : IOp) : Bool := match op with
  | .load _ _ a => rlo a
  | .store _ a _ => rlo a
  | .mlk _ _ _ x _ => rlo x
  | .mset _ x _ _ => rlo x
  | .app _ _ x y => rlo x && rlo y
  | .appE _ _ x y => rlo x && rlo y
  | .call _ args => llo args
  | _ => true
theorem kbR_ok {op : IOp} (h : dlo2 op = true) (o : Nat → V) (t : Tq V) : (kbR op).f t = rdK op (tmQ o t) := by
  cases op <;> try rfl
  all_goals simp only [dlo2, Bool.and_eq_true] at h
  all_goals simp only [kbR, rdK, keysQ_eq]
  all_goals first
    | rw [rb_ok h o t]
    | rw [rb_ok h.1 o t, rb_ok h.2 o t]
theorem kbW_ok {op : IOp} (h : dlo2 op = true) (o : Nat → V) (t : Tq V) (s n : Nat) : kbW op s t n = wrK op (tmQ o t) s n := by
  cases op <;> try rfl
  all_goals simp only [dlo2, Bool.and_eq_true] at h
  all_goals simp only [kbW, wrK, keysQ_eq]
  all_goals first
    | rw [rb_ok h o t]
    | rw [rb_ok h.1 o t]
/-- The objects that stand under keys. -/
def there (H : Heap) (ks : List Key) : List (Key × LObj) := ks.filterMap fun k => (H k).map fun o => (k, o)
theorem there_mem {H : Heap} {ks : List Key} {p : Key × LObj} (h : p ∈ there H ks) : p.1 ∈ ks ∧ H p.1 = some p.2 := by
  simp only [there, List.mem_filterMap, Option.map_eq_some_iff] at h
  obtain ⟨k, hk, o, ho, rfl⟩ := h
  exact ⟨hk, ho⟩
theorem there_all {H H' : Heap} {ks : List Key} (hp : ∀ k ∈ ks, ∃ o, H k = some o) (h : ∀ p ∈ there H ks, H' p.1 = some p.2) : ∀ k ∈ ks, H' k = H k := by
  intro k hk
  obtain ⟨o, ho⟩ := hp k hk
  have := h (k, o) (by simp only [there, List.mem_filterMap, Option.map_eq_some_iff]; exact ⟨k, hk, o, ho, rfl⟩)
  rw [this, ho]
noncomputable def thereQ (h : Hq) (ks : List Key) : Option (List (Key × LObj)) := List.rec (motive := fun _ => Option (List (Key × LObj))) (some []) (fun k _ ih => Option.rec (motive := fun _ => Option (List (Key × LObj))) none (fun o => Option.rec (motive := fun _ => Option (List (Key × LObj))) none (fun r => some ((k, o) :: r)) ih) (hgetS h k)) ks
theorem thereQ_ok {h : Hq} : ∀ {ks : List Key} {l : List (Key × LObj)}, thereQ h ks = some l → l = there h.H ks ∧ ∀ k ∈ ks, ∃ o, h.H k = some o
  | [], l, e => by cases e; exact ⟨rfl, fun k hk => by cases hk⟩
  | k :: ks, l, e => by
    have e : Option.rec (motive := fun _ => Option (List (Key × LObj))) none (fun o => Option.rec (motive := fun _ => Option (List (Key × LObj))) none (fun r => some ((k, o) :: r)) (thereQ h ks)) (hgetS h k) = some l := e
    cases hk : hgetS h k with
    | none => rw [hk] at e; cases e
    | some o =>
      rw [hk] at e
      obtain ⟨r, h1, rfl⟩ := rec_some e
      obtain ⟨rfl, h3⟩ := thereQ_ok h1
      have ho := hgetS_ok hk
      refine ⟨by simp [there, ho], fun k' hk' => ?_⟩
      rcases List.mem_cons.1 hk' with rfl | hk'
      · exact ⟨o, ho⟩
      · exact h3 k' hk'
/-- An object is still this one. -/
noncomputable def stillQ (h : Hq) (l : List (Key × LObj)) : Bool := List.rec (motive := fun _ => Bool) true (fun p _ ih => Option.rec (motive := fun _ => Bool) false (fun o => Bool.rec (motive := fun _ => Bool) false ih (obEq o p.2)) (hgetS h p.1)) l
theorem stillQ_ok {h : Hq} : ∀ {l : List (Key × LObj)}, stillQ h l = true → ∀ p ∈ l, h.H p.1 = some p.2
  | [], _, p, hp => by cases hp
  | q :: l, e, p, hp => by
    have e : Option.rec (motive := fun _ => Bool) false (fun o => Bool.rec (motive := fun _ => Bool) false (stillQ h l) (obEq o q.2)) (hgetS h q.1) = true := e
    cases hk : hgetS h q.1 with
    | none => rw [hk] at e; cases e
    | some o =>
      rw [hk] at e
      obtain ⟨h1, h2⟩ := bool_and (b := obEq o q.2) (c := stillQ h l) e
      rcases List.mem_cons.1 hp with rfl | hp
      · rw [hgetS_ok hk, obEq_ok h1]
      · exact stillQ_ok h2 p hp
inductive Rd6 where
  | err (n : Nat)
  | ok (t : Tq V) (h : Hq) (f : List Fp)
end Go.Lg
