/-
  The reckoning's quick forms: literals, appending, maps, what stays as it is handed on.
-/
import Derived.Test.YtgpeaibhhonikaaGreatDoorEc
set_option linter.unusedSimpArgs false
set_option linter.unusedVariables false
namespace Go.Lg
open Go Go.RowKit

/-! Operands; where results go. -/
structure Rb where
  g : Tq V → V
structure Db where
  s : V → Tq V → Tq V
noncomputable def rbOf (x : Rd) : Rb := Rd.rec (motive := fun _ => Rb) (fun k => ⟨(acOf V.junk k).g⟩) (fun v => ⟨fun _ => v⟩) x
noncomputable def dbOf (d : Option Nat) : Db := Option.rec (motive := fun _ => Db) ⟨fun _ t => t⟩ (fun k => ⟨(acOf V.junk k).s⟩) d
noncomputable def rlo (x : Rd) : Bool := Rd.rec (motive := fun _ => Bool) (fun k => Nat.blt k 100000) (fun _ => true) x
noncomputable def dlo (d : Option Nat) : Bool := Option.rec (motive := fun _ => Bool) true (fun k => Nat.blt k 100000) d
noncomputable def tmQ (o : Nat → V) (t : Tq V) : Nat → V := fun k => if k < 100000 then t.get V.junk k else o k
noncomputable def denq (o : Nat → V) (t : Tq V) (h : Hq) : St := ⟨tmQ o t, h.H, h.c⟩
theorem rb_ok {x : Rd} (h : rlo x = true) (o : Nat → V) (t : Tq V) : (rbOf x).g t = x.get (tmQ o t) := by
  cases x with
  | tmp k =>
    have h : Nat.blt k 100000 = true := h
    rw [nblt, decide_eq_true_eq] at h
    show (acOf V.junk k).g t = tmQ o t k
    rw [acOf_g (by omega), tmQ, if_pos h]
  | con v => rfl
theorem db_ok {d : Option Nat} (h : dlo d = true) (o : Nat → V) (t : Tq V) (v : V) : tmQ o ((dbOf d).s v t) = dput (tmQ o t) d v := by
  cases d with
  | none => rfl
  | some k =>
    have h : Nat.blt k 100000 = true := h
    rw [nblt, decide_eq_true_eq] at h
    funext j
    simp only [dput, tupd, tmQ]
    show (if j < 100000 then ((acOf V.junk k).s v t).get V.junk j else o j) = _
    rw [acOf_s (by omega)]
    by_cases hj : j < 100000
    · rw [if_pos hj, if_pos hj]
    · rw [if_neg hj, if_neg hj, if_neg (by omega)]
theorem denq_put {d : Option Nat} (h : dlo d = true) (o : Nat → V) (t : Tq V) (v : V) (hp : Hq) : denq o ((dbOf d).s v t) hp = St.put ⟨tmQ o t, hp.H, hp.c⟩ d v := by
  unfold denq St.put
  rw [db_ok h]

/-! Parts of a literal. -/
structure Fl where
  f : Tq V → List V → Option (List V)
noncomputable def flOf (ps : List (Nat × Nat × Rd)) : Fl := List.rec (motive := fun _ => Fl) ⟨fun _ cs => some cs⟩ (fun p _ ih => Prod.rec (motive := fun _ => Fl) (fun off q => Prod.rec (motive := fun _ => Fl) (fun s x => ⟨fun t cs => Bool.rec (motive := fun _ => Option (List V)) none (Bool.rec (motive := fun _ => Option (List V)) none (scF off (cellsF ((rbOf x).g t)) cs fun cs' => ih.f t cs') (knownF ((rbOf x).g t))) (Nat.beq (lenA (cellsF ((rbOf x).g t)) 0) s)⟩) q) p) ps
noncomputable def plo (ps : List (Nat × Nat × Rd)) : Bool := List.rec (motive := fun _ => Bool) true (fun p _ ih => Bool.rec (motive := fun _ => Bool) false ih (rlo p.2.2)) ps
theorem flOf_ok (o : Nat → V) (t : Tq V) : ∀ (ps : List (Nat × Nat × Rd)) (cs r : List V), plo ps = true → (flOf ps).f t cs = some r → partsOk (tmQ o t) cs.length ps ∧ fillL (tmQ o t) cs ps = r ∧ r.length = cs.length
  | [], cs, r, _, h => by cases h; exact ⟨trivial, rfl, rfl⟩
  | (off, s, x) :: ps, cs, r, hl, h => by
    have hl : Bool.rec (motive := fun _ => Bool) false (plo ps) (rlo x) = true := hl
    cases hx : rlo x with
    | false => rw [hx] at hl; cases hl
    | true =>
      rw [hx] at hl
      have hl : plo ps = true := hl
      have h : Bool.rec (motive := fun _ => Option (List V)) none (Bool.rec (motive := fun _ => Option (List V)) none (scF off (cellsF ((rbOf x).g t)) cs fun cs' => (flOf ps).f t cs') (knownF ((rbOf x).g t))) (Nat.beq (lenA (cellsF ((rbOf x).g t)) 0) s) = some r := h
      rw [rb_ok hx o t, cellsF_eq, knownF_eq, lenA_eq, Nat.add_zero] at h
      cases h1 : Nat.beq (x.get (tmQ o t)).cells.length s with
      | false => rw [h1] at h; cases h
      | true =>
        rw [h1] at h
        have h1 := Nat.eq_of_beq_eq_true h1
        cases h2 : (x.get (tmQ o t)).known with
        | false => rw [h2] at h; cases h
        | true =>
          rw [h2] at h
          have h : scF off (x.get (tmQ o t)).cells cs (fun cs' => (flOf ps).f t cs') = some r := h
          rw [scF_eq] at h
          split at h
          case isFalse => cases h
          rename_i hle
          have hlen : (setCells cs off (x.get (tmQ o t)).cells).length = cs.length := setCells_length hle
          obtain ⟨e1, e2, e3⟩ := flOf_ok o t ps _ r hl h
          rw [hlen] at e1 e3
          exact ⟨⟨⟨h2, h1, by omega⟩, e1⟩, e2, e3⟩

/-! Values of a list of operands. -/
structure Lb where
  f : Tq V → List V
noncomputable def lbOf (l : List Rd) : Lb := List.rec (motive := fun _ => Lb) ⟨fun _ => []⟩ (fun x _ ih => ⟨fun t => (rbOf x).g t :: ih.f t⟩) l
noncomputable def llo (l : List Rd) : Bool := List.rec (motive := fun _ => Bool) true (fun x _ ih => Bool.rec (motive := fun _ => Bool) false ih (rlo x)) l
theorem lb_ok (o : Nat → V) (t : Tq V) : ∀ l : List Rd, llo l = true → (lbOf l).f t = l.map (Rd.get (tmQ o t))
  | [], _ => rfl
  | x :: l, h => by
    have h : Bool.rec (motive := fun _ => Bool) false (llo l) (rlo x) = true := h
    cases hx : rlo x with
    | false => rw [hx] at h; cases h
    | true =>
      rw [hx] at h
      show (rbOf x).g t :: (lbOf l).f t = _
      rw [rb_ok hx o t, lb_ok o t l h]; rfl

/-! Bounds. -/
structure Bn where
  f : Tq V → Nat → Option Nat
noncomputable def rdN (x : Rb) : Bn := ⟨fun t _ => N6.rec (motive := fun _ => Option Nat) none (fun _ n => some n) (asN (x.g t))⟩
noncomputable def bnLo (x : Option Rd) : Bn := Option.rec (motive := fun _ => Bn) ⟨fun _ _ => some 0⟩ (fun x => rdN (rbOf x)) x
noncomputable def bnHi (x : Option Rd) : Bn := Option.rec (motive := fun _ => Bn) ⟨fun _ n => some n⟩ (fun x => rdN (rbOf x)) x
noncomputable def olo (x : Option Rd) : Bool := Option.rec (motive := fun _ => Bool) true (fun x => rlo x) x
theorem rdN_ok {x : Rd} {o : Nat → V} {t : Tq V} {n m : Nat} (hl : rlo x = true) (h : (rdN (rbOf x)).f t n = some m) : (match x.get (tmQ o t) with | .int _ n => some n | _ => none) = some (m : Int) := by
  have h : N6.rec (motive := fun _ => Option Nat) none (fun _ n => some n) (asN ((rbOf x).g t)) = some m := h
  rw [rb_ok hl o t] at h
  cases ha : asN (x.get (tmQ o t)) with
  | no => rw [ha] at h; cases h
  | ok k n => rw [ha] at h; cases h; rw [asN_ok ha]
theorem bnLo_ok {x : Option Rd} {o : Nat → V} {t : Tq V} {n m : Nat} (hl : olo x = true) (h : (bnLo x).f t n = some m) : loOf (tmQ o t) x = some (m : Int) := by
  cases x with
  | none => cases h; rfl
  | some x => exact rdN_ok hl h
theorem bnHi_ok {x : Option Rd} {o : Nat → V} {t : Tq V} {n m : Nat} (hl : olo x = true) (h : (bnHi x).f t n = some m) : hiOf (tmQ o t) n x = some (m : Int) := by
  cases x with
  | none => cases h; rfl
  | some x => exact rdN_ok hl h

/-! Bools, pointers, interfaces. -/
noncomputable def bXor (a b : Bool) : Bool := Bool.rec (motive := fun _ => Bool) b (bNot b) a
noncomputable def qEqb (neg : Bool) (x y : V) : Option V := B6.rec (motive := fun _ => Option V) none (fun a => B6.rec (motive := fun _ => Option V) none (fun b => bF (Bool.rec (motive := fun _ => Bool) (bNot (bXor a b)) (bXor a b) neg)) (asB y)) (asB x)
theorem qEqb_ok {neg : Bool} {x y v : V} (e : qEqb neg x y = some v) : Ps (leqb neg x y) v := by
  unfold qEqb at e
  cases hx : asB x with
  | no => rw [hx] at e; cases e
  | ok a =>
    cases hy : asB y with
    | no => rw [hx, hy] at e; cases e
    | ok b =>
      rw [hx, hy] at e; rw [asB_ok hx, asB_ok hy]
      have e : bF (Bool.rec (motive := fun _ => Bool) (bNot (bXor a b)) (bXor a b) neg) = some v := e
      rw [bF_eq] at e; cases e
      refine ⟨True, ?_, trivial⟩
      cases neg <;> cases a <;> cases b <;> rfl
inductive Q6 where
  | no
  | nil
  | ptr
noncomputable def asQ (v : V) : Q6 := (V.rec (motive_1 := fun _ => Q6) (motive_2 := fun _ => Unit) (motive_3 := fun _ => Unit) (motive_4 := fun _ => Unit) (fun _ _ => .no) (fun _ => .no) (fun _ => .no) (fun _ _ => .no) (fun _ _ => .no) (fun _ _ _ => .no) (.no) (fun _ _ _ _ => .no) (fun _ _ _ _ _ => .no) (.nil) (fun _ _ _ => .ptr) (fun _ _ _ => .ptr) (fun _ _ _ => .no) (.no) (fun _ _ _ => .no) (.no) (.no) (fun _ => .no) (fun _ _ => .no) (.no) () (fun _ _ _ _ => ()) () (fun _ _ _ _ => ()) (fun _ _ _ _ => ()) v)
noncomputable def qEqp (neg : Bool) (x y : V) : Option V := Q6.rec (motive := fun _ => Option V) none (Q6.rec (motive := fun _ => Option V) none (bF (bNot neg)) (bF neg) (asQ y)) (Q6.rec (motive := fun _ => Option V) none (bF neg) none (asQ y)) (asQ x)
theorem qEqp_ok {neg : Bool} {x y v : V} (e : qEqp neg x y = some v) : Ps (leqp neg x y) v := by
  cases x <;> first
    | (cases e; done)
    | (cases y <;> first
        | (cases e; done)
        | (cases neg <;> cases e <;> exact ⟨_, rfl, trivial⟩)
        | (cases neg <;> cases e <;> exact ⟨_, rfl, rfl⟩))
noncomputable def qEqi (neg lit : Bool) (x y : V) : Option V := C6.rec (motive := fun _ => Option V) none (C6.rec (motive := fun _ => Option V) none (Bool.rec (motive := fun _ => Option V) none (bF (bNot neg)) lit) (fun _ _ => bF neg) (asC y)) (fun _ _ => C6.rec (motive := fun _ => Option V) none (bF neg) (fun _ _ => none) (asC y)) (asC x)
theorem qEqi_ok {neg lit : Bool} {x y v : V} (e : qEqi neg lit x y = some v) : Ps (leqi neg lit x y) v := by
  cases x <;> first
    | (cases e; done)
    | (cases y <;> first
        | (cases e; done)
        | (cases lit <;> cases neg <;> first | (cases e; done) | (cases e <;> first | exact ⟨_, rfl, trivial⟩ | exact ⟨_, rfl, rfl⟩)))
noncomputable def qTas (t : TypeId) (z x : V) : Option V := C6.rec (motive := fun _ => Option V) none (some (.tup [z, .bool false])) (fun t' v => Bool.rec (motive := fun _ => Option V) (some (.tup [z, .bool false])) (some (.tup [v, .bool true])) (Nat.beq t' t)) (asC x)
theorem qTas_ok {t : TypeId} {z x v : V} (e : qTas t z x = some v) : Ps (ltas t z x) v := by
  unfold qTas at e
  cases hx : asC x with
  | no => rw [hx] at e; cases e
  | nil => rw [hx] at e; rw [asC_nil hx]; cases e; exact ⟨_, rfl, trivial⟩
  | ifc t' u =>
    rw [hx] at e; rw [asC_ifc hx]
    simp only [nbeq] at e
    by_cases h : t' = t
    · rw [decide_eq_true h] at e; cases e; exact ⟨_, by simp only [ltas, if_pos h], trivial⟩
    · rw [decide_eq_false h] at e; cases e; exact ⟨_, by simp only [ltas, if_neg h], trivial⟩

/-! Sources of appending. -/
structure Sr where
  n : Nat
  cs : List V
noncomputable def u8V (l : List UInt8) : List V := List.rec (motive := fun _ => List V) [] (fun b _ ih => .int .u8 (.ofNat b.toNat) :: ih) l
theorem u8V_eq : ∀ l : List UInt8, u8V l = l.map fun b => .int .u8 b.toNat
  | [] => rfl
  | b :: l => by show V.int .u8 (.ofNat b.toNat) :: u8V l = _; rw [u8V_eq l]; rfl
noncomputable def qSrc (h : Hq) (esz : Nat) (y : V) : Option Sr := X6.rec (motive := fun _ => Option Sr) none
  (fun n cs => Bool.rec (motive := fun _ => Option Sr) none (some ⟨n, cs⟩) (Nat.beq (lenA cs 0) (n * esz)))
  (fun k g o n => rowK h k g fun e cs => Bool.rec (motive := fun _ => Option Sr) none (dropK o cs fun r => takeK (n * esz) r fun l => some ⟨n, l⟩) (Nat.beq e esz))
  (fun _ _ _ _ _ => none) (some ⟨0, []⟩)
  (fun l => Bool.rec (motive := fun _ => Option Sr) none (fN (lenA l 0) fun n => some ⟨n, u8V l⟩) (Nat.beq esz 1)) (asX y)
theorem qSrc_ok {h : Hq} {esz : Nat} {y : V} {r : Sr} (e : qSrc h esz y = some r) : srcOf h.H esz y = some (r.n, r.cs) := by
  unfold qSrc at e
  cases hy : asX y with
  | no => rw [hy] at e; cases e
  | mv => rw [hy] at e; cases e
  | e0 => rw [hy] at e; rw [asX_e0 hy]; cases e; rfl
  | sl n cs =>
    rw [hy] at e; rw [asX_sl hy]
    simp only [lenA_eq, Nat.add_zero, nbeq] at e
    by_cases h : cs.length = n * esz
    · rw [decide_eq_true h] at e; cases e; simp only [srcOf, if_pos h]
    · rw [decide_eq_false h] at e; cases e
  | ms k g o n =>
    rw [hy] at e; rw [asX_ms hy]
    obtain ⟨e', cs, h1, h2⟩ := rowK_ok e
    simp only [nbeq, dropK_eq, takeK_eq] at h2
    by_cases h : e' = esz
    · rw [decide_eq_true h] at h2
      have h2 : (if o ≤ cs.length then (if n * esz ≤ (cs.drop o).length then some (Sr.mk n ((cs.drop o).take (n * esz))) else none) else none) = some r := h2
      split at h2
      case isFalse => cases h2
      split at h2
      case isFalse => cases h2
      rename_i h3 h4
      rw [List.length_drop] at h4
      cases h2
      simp only [srcOf, h1, true_and]
      rw [if_pos ⟨h, by omega⟩]
    · rw [decide_eq_false h] at h2; cases h2
  | st l =>
    rw [hy] at e; rw [asX_st hy]
    simp only [nbeq, fN_eq, lenA_eq, Nat.add_zero, u8V_eq] at e
    by_cases h : esz = 1
    · rw [decide_eq_true h] at e; cases e; simp only [srcOf, if_pos h]; rfl
    · rw [decide_eq_false h] at e; cases e

/-! Maps. -/
noncomputable def eqKF (a b : V) : Bool := S6.rec (motive := fun _ => Bool) (I6.rec (motive := fun _ => Bool) (eqK a b) (fun m => I6.rec (motive := fun _ => Bool) (eqK a b) (fun n => iEq m n) (asI b)) (asI a)) (fun x => S6.rec (motive := fun _ => Bool) (eqK a b) (fun y => qBy x y) (asS b)) (asS a)
theorem eqKF_eq (a b : V) : eqKF a b = eqK a b := by
  unfold eqKF
  cases ha : asS a with
  | no =>
    cases hi : asI a with
    | no => rfl
    | ok m =>
      cases hj : asI b with
      | no => rfl
      | ok n =>
        rw [asI_ok hi, asI_ok hj]
        show iEq m n = (m == n)
        exact iEq_eq m n
  | ok x =>
    cases hb : asS b with
    | no => rfl
    | ok y =>
      rw [asS_ok ha, asS_ok hb]
      show qBy x y = ((ByteArray.mk ⟨x⟩) == ByteArray.mk ⟨y⟩)
      rw [qBy_eq, Bool.eq_iff_iff, beq_iff_eq]
      constructor
      · intro h; rw [h]; exact bytes_refl _
      · intro h
        have h := bytes_eq h
        injection h with h
        injection h
noncomputable def findF (k : V) (es : List (V × V)) : Option V := List.rec (motive := fun _ => Option V) none (fun e _ ih => Prod.rec (motive := fun _ => Option V) (fun k' v => Bool.rec (motive := fun _ => Option V) ih (some v) (eqKF k k')) e) es
theorem findF_eq (k : V) : ∀ es : List (V × V), findF k es = (findK k es).map (·.2)
  | [] => rfl
  | (k', v) :: es => by
    show Bool.rec (motive := fun _ => Option V) (findF k es) (some v) (eqKF k k') = _
    rw [findF_eq k es, eqKF_eq, findK]
    cases eqK k k' with
    | true => rfl
    | false => simp only [Bool.false_eq_true, if_false]; cases findK k es <;> rfl
noncomputable def setF (k v : V) (es : List (V × V)) : List (V × V) := List.rec (motive := fun _ => List (V × V)) [(k, v)] (fun e r ih => Prod.rec (motive := fun _ => List (V × V)) (fun k' v' => Bool.rec (motive := fun _ => List (V × V)) ((k', v') :: ih) ((k, v) :: r) (eqKF k k')) e) es
theorem setF_eq (k v : V) : ∀ es : List (V × V), setF k v es = setK es k v
  | [] => rfl
  | (k', v') :: es => by
    show Bool.rec (motive := fun _ => List (V × V)) ((k', v') :: setF k v es) ((k, v) :: es) (eqKF k k') = _
    rw [setF_eq k v es, eqKF_eq]
    unfold setK
    rw [findK]
    cases eqK k k' with
    | true => rfl
    | false =>
      simp only [Bool.false_eq_true, if_false]
      cases findK k es with
      | none => rfl
      | some p => rfl
noncomputable def keyF (kt : KT) (v : V) : Bool := KT.rec (motive := fun _ => Bool) (fun q => keyV (.int q) v) (S6.rec (motive := fun _ => Bool) false (fun _ => true) (asS v)) (keyV .bool v) (fun n q => keyV (.arr n q) v) kt
theorem keyF_eq (kt : KT) (v : V) : keyF kt v = keyV kt v := by
  cases kt <;> first | rfl | skip
  cases v <;> rfl
noncomputable def keysF (kt : KT) (es : List (V × V)) : Bool := List.rec (motive := fun _ => Bool) true (fun e _ ih => Prod.rec (motive := fun _ => Bool) (fun k _ => Bool.rec (motive := fun _ => Bool) false ih (keyF kt k)) e) es
theorem keysF_eq (kt : KT) : ∀ es : List (V × V), keysF kt es = es.all fun e => keyV kt e.1
  | [] => rfl
  | (k, v) :: es => by
    show Bool.rec (motive := fun _ => Bool) false (keysF kt es) (keyF kt k) = _
    rw [keysF_eq kt es, keyF_eq, List.all_cons]
    cases keyV kt k <;> rfl
noncomputable def lkF (kt : KT) (ok : Bool) (z i : V) (es : List (V × V)) : Option V := Bool.rec (motive := fun _ => Option V) none (Bool.rec (motive := fun _ => Option V) none (Bool.rec (motive := fun _ => Option V) (Option.rec (motive := fun _ => Option V) (some z) (fun v => some v) (findF i es)) (Option.rec (motive := fun _ => Option V) (some (.tup [z, .bool false])) (fun v => some (.tup [v, .bool true])) (findF i es)) ok) (keysF kt es)) (keyF kt i)
theorem lkF_ok {kt : KT} {ok : Bool} {z i v : V} {es : List (V × V)} (e : lkF kt ok z i es = some v) : (keyV kt i = true ∧ es.all (fun e => keyV kt e.1) = true) ∧ v = lkV ok z (findK i es) := by
  unfold lkF at e
  rw [keyF_eq, keysF_eq, findF_eq] at e
  cases h1 : keyV kt i with
  | false => rw [h1] at e; cases e
  | true =>
    cases h2 : es.all (fun e => keyV kt e.1) with
    | false => rw [h1, h2] at e; cases e
    | true =>
      rw [h1, h2] at e
      refine ⟨⟨rfl, rfl⟩, ?_⟩
      cases hf : findK i es with
      | none => rw [hf] at e; cases ok <;> cases e <;> rfl
      | some p => rw [hf] at e; cases ok <;> cases e <;> rfl
noncomputable def qMlk (kt : KT) (ok : Bool) (z : V) (h : Hq) (x i : V) : Option V := M6.rec (motive := fun _ => Option V) none (fun k => mapK h k fun es => lkF kt ok z i es) (fun es => lkF kt ok z i es) (asM x)
theorem qMlk_ok {kt : KT} {ok : Bool} {z x i v : V} {h : Hq} (e : qMlk kt ok z h x i = some v) : Ps (lmlk h.H kt ok z x i) v := by
  unfold qMlk at e
  cases hx : asM x with
  | no => rw [hx] at e; cases e
  | mm k =>
    rw [hx] at e; rw [asM_mm hx]
    obtain ⟨es, h1, h2⟩ := mapK_ok e
    obtain ⟨h3, rfl⟩ := lkF_ok h2
    simp only [lmlk, h1]
    exact ⟨_, rfl, h3⟩
  | im es =>
    rw [hx] at e; rw [asM_im hx]
    obtain ⟨h3, rfl⟩ := lkF_ok e
    exact ⟨_, rfl, h3⟩
noncomputable def qMset (kt : KT) (h : Hq) (x i v : V) : Option Hq := M6.rec (motive := fun _ => Option Hq) none (fun k => mapK h k fun es => Bool.rec (motive := fun _ => Option Hq) none (Bool.rec (motive := fun _ => Option Hq) none (setH k (.map (setF i v es)) h) (keysF kt es)) (keyF kt i)) (fun _ => none) (asM x)
theorem qMset_ok {kt : KT} {h h' : Hq} {x i v : V} (e : qMset kt h x i v = some h') : ∃ pre : Prop, ∃ H', lmset h.H kt x i v = .D pre .junk H' ∧ pre ∧ h'.H = H' ∧ h'.c = h.c := by
  unfold qMset at e
  cases hx : asM x with
  | no => rw [hx] at e; cases e
  | im es => rw [hx] at e; cases e
  | mm k =>
    rw [hx] at e; rw [asM_mm hx]
    obtain ⟨es, h1, h2⟩ := mapK_ok e
    rw [keyF_eq, keysF_eq, setF_eq] at h2
    simp only [lmset, h1]
    cases h3 : keyV kt i with
    | false => rw [h3] at h2; cases h2
    | true =>
      cases h4 : es.all (fun e => keyV kt e.1) with
      | false => rw [h3, h4] at h2; cases h2
      | true =>
        rw [h3, h4] at h2
        obtain ⟨e1, e2⟩ := setH_ok h2
        exact ⟨_, _, rfl, ⟨rfl, rfl⟩, e1, e2⟩

/-! What is handed on to a call of which only the result is kept: memory that never turns. -/
noncomputable def mapO (f : V → Option V) (l : List V) : Option (List V) := List.rec (motive := fun _ => Option (List V)) (some []) (fun x _ ih => Option.rec (motive := fun _ => Option (List V)) none (fun y => Option.rec (motive := fun _ => Option (List V)) none (fun r => some (y :: r)) ih) (f x)) l
theorem mapO_ok {f : V → Option V} {p : V → Bool} {g : V → V} (hf : ∀ x y, f x = some y → p x = true ∧ g x = y) : ∀ {l r : List V}, mapO f l = some r → l.all p = true ∧ l.map g = r
  | [], r, h => by cases h; exact ⟨rfl, rfl⟩
  | x :: l, r, h => by
    have h : Option.rec (motive := fun _ => Option (List V)) none (fun y => Option.rec (motive := fun _ => Option (List V)) none (fun r => some (y :: r)) (mapO f l)) (f x) = some r := h
    cases hx : f x with
    | none => rw [hx] at h; cases h
    | some y =>
      rw [hx] at h
      cases hl : mapO f l with
      | none => rw [hl] at h; cases h
      | some r' =>
        rw [hl] at h; cases h
        obtain ⟨h1, h2⟩ := mapO_ok hf hl
        obtain ⟨h3, h4⟩ := hf x y hx
        exact ⟨by rw [List.all_cons, h3, h1]; rfl, by rw [List.map_cons, h4, h2]⟩
noncomputable def mapE (f : V → Option V) (l : List (V × V)) : Option (List (V × V)) := List.rec (motive := fun _ => Option (List (V × V))) (some []) (fun e _ ih => Option.rec (motive := fun _ => Option (List (V × V))) none (fun a => Option.rec (motive := fun _ => Option (List (V × V))) none (fun b => Option.rec (motive := fun _ => Option (List (V × V))) none (fun r => some ((a, b) :: r)) ih) (f e.2)) (f e.1)) l
theorem mapE_ok {f : V → Option V} {p : V → Bool} {g : V → V} (hf : ∀ x y, f x = some y → p x = true ∧ g x = y) : ∀ {l r : List (V × V)}, mapE f l = some r → (l.all fun e => p e.1 && p e.2) = true ∧ l.map (fun e => (g e.1, g e.2)) = r
  | [], r, h => by cases h; exact ⟨rfl, rfl⟩
  | (x1, x2) :: l, r, h => by
    have h : Option.rec (motive := fun _ => Option (List (V × V))) none (fun a => Option.rec (motive := fun _ => Option (List (V × V))) none (fun b => Option.rec (motive := fun _ => Option (List (V × V))) none (fun r => some ((a, b) :: r)) (mapE f l)) (f x2)) (f x1) = some r := h
    cases hx : f x1 with
    | none => rw [hx] at h; cases h
    | some y1 =>
      rw [hx] at h
      cases hy : f x2 with
      | none => rw [hy] at h; cases h
      | some y2 =>
        rw [hy] at h
        cases hl : mapE f l with
        | none => rw [hl] at h; cases h
        | some r' =>
          rw [hl] at h; cases h
          obtain ⟨h1, h2⟩ := mapE_ok hf hl
          obtain ⟨h3, h4⟩ := hf _ _ hx
          obtain ⟨h5, h6⟩ := hf _ _ hy
          exact ⟨by rw [List.all_cons, h3, h5, h1]; rfl, by rw [List.map_cons, h4, h6, h2]⟩
noncomputable def snQ (d : Nat) : Hq → V → Option V := Nat.rec (motive := fun _ => Hq → V → Option V) (fun _ _ => none) (fun _ ih h v => (V.rec (motive_1 := fun _ => Option V) (motive_2 := fun _ => Unit) (motive_3 := fun _ => Unit) (motive_4 := fun _ => Unit) (fun _ _ => some v) (fun _ => some v) (fun _ => some v) (fun cs _ => Option.rec (motive := fun _ => Option V) none (fun l => some (.agg l)) (mapO (ih h) cs)) (fun cs _ => Option.rec (motive := fun _ => Option V) none (fun l => some (.tup l)) (mapO (ih h) cs)) (fun _ _ _ => some v) (some v) (fun k g o n => rowK h k g fun e cs => dropK o cs fun r => takeK (n * e) r fun l => Option.rec (motive := fun _ => Option V) none (fun l => some (.sl n l)) (mapO (ih h) l)) (fun k g o n e => rowK h k g fun _ cs => dropK o cs fun r => takeK (n * e) r fun l => Option.rec (motive := fun _ => Option V) none (fun l => some (.sl n l)) (mapO (ih h) l)) (some v) (fun _ _ _ => some v) (fun k g o => rowK h k g fun _ cs => Option.rec (motive := fun _ => Option V) none (fun l => some (.ip l o)) (mapO (ih h) cs)) (fun t u _ => Option.rec (motive := fun _ => Option V) none (fun u => some (.ifc t u)) (ih h u)) (some v) (fun f cs _ => Option.rec (motive := fun _ => Option V) none (fun l => some (.fn f l)) (mapO (ih h) cs)) (some v) (some v) (fun k => mapK h k fun es => Option.rec (motive := fun _ => Option V) none (fun l => some (.im l)) (mapE (ih h) es)) (fun _ _ => some v) (some v) () (fun _ _ _ _ => ()) () (fun _ _ _ _ => ()) (fun _ _ _ _ => ()) v)) d
theorem rec_some {α β : Type} {x : Option α} {F : α → β} {r : β} (h : Option.rec (motive := fun _ => Option β) none (fun a => some (F a)) x = some r) : ∃ a, x = some a ∧ F a = r := by
  cases x with
  | none => cases h
  | some a => cases h; exact ⟨a, rfl, rfl⟩
theorem dtK {β : Type} {o n : Nat} {cs : List V} {K : List V → Option β} {r : β} (h : dropK o cs (fun r => takeK n r K) = some r) : o + n ≤ cs.length ∧ K ((cs.drop o).take n) = some r := by
  rw [dropK_eq] at h
  split at h
  case isFalse => cases h
  rename_i h1
  simp only [takeK_eq, List.length_drop] at h
  split at h
  case isFalse => cases h
  exact ⟨by omega, h⟩
theorem snQ_ok : ∀ (d : Nat) (h : Hq) (v r : V), snQ d h v = some r → sok h.H d v = true ∧ snap h.H d v = r
  | 0, h, v, r, e => by cases e
  | d + 1, h, v, r, e => by
    have ih : ∀ x y, snQ d h x = some y → sok h.H d x = true ∧ snap h.H d x = y := fun x y => snQ_ok d h x y
    cases v <;> try (cases e; exact ⟨rfl, rfl⟩)
    case msl k g o n =>
      have e : rowK h k g (fun e cs => dropK o cs fun r => takeK (n * e) r fun l => Option.rec (motive := fun _ => Option V) none (fun l => some (.sl n l)) (mapO (snQ d h) l)) = some r := e
      obtain ⟨esz, cs, h1, h2⟩ := rowK_ok e
      obtain ⟨h3, h4⟩ := dtK h2
      obtain ⟨l, h5, rfl⟩ := rec_some h4
      obtain ⟨h6, h7⟩ := mapO_ok ih h5
      simp only [sok, snap, h1, beq_self_eq_true, h6, h7, h3, decide_true, Bool.and_self, if_true, and_self]
    case msv k g o n e0 =>
      have e : rowK h k g (fun _ cs => dropK o cs fun r => takeK (n * e0) r fun l => Option.rec (motive := fun _ => Option V) none (fun l => some (.sl n l)) (mapO (snQ d h) l)) = some r := e
      obtain ⟨esz, cs, h1, h2⟩ := rowK_ok e
      obtain ⟨h3, h4⟩ := dtK h2
      obtain ⟨l, h5, rfl⟩ := rec_some h4
      obtain ⟨h6, h7⟩ := mapO_ok ih h5
      simp only [sok, snap, h1, beq_self_eq_true, h6, h7, h3, decide_true, Bool.and_self, if_true, and_self]
    case mp k g o =>
      have e : rowK h k g (fun _ cs => Option.rec (motive := fun _ => Option V) none (fun l => some (.ip l o)) (mapO (snQ d h) cs)) = some r := e
      obtain ⟨esz, cs, h1, h2⟩ := rowK_ok e
      obtain ⟨l, h5, rfl⟩ := rec_some h2
      obtain ⟨h6, h7⟩ := mapO_ok ih h5
      simp only [sok, snap, h1, beq_self_eq_true, h6, h7, Bool.and_self, if_true, and_self]
    case agg cs =>
      have e : Option.rec (motive := fun _ => Option V) none (fun l => some (.agg l)) (mapO (snQ d h) cs) = some r := e
      obtain ⟨l, h5, rfl⟩ := rec_some e
      obtain ⟨h6, h7⟩ := mapO_ok ih h5
      simp only [sok, snap, h6, h7, and_self]
    case tup cs =>
      have e : Option.rec (motive := fun _ => Option V) none (fun l => some (.tup l)) (mapO (snQ d h) cs) = some r := e
      obtain ⟨l, h5, rfl⟩ := rec_some e
      obtain ⟨h6, h7⟩ := mapO_ok ih h5
      simp only [sok, snap, h6, h7, and_self]
    case ifc t u =>
      have e : Option.rec (motive := fun _ => Option V) none (fun u => some (.ifc t u)) (snQ d h u) = some r := e
      obtain ⟨l, h5, rfl⟩ := rec_some e
      obtain ⟨h6, h7⟩ := ih _ _ h5
      simp only [sok, snap, h6, h7, and_self]
    case fn f cs =>
      have e : Option.rec (motive := fun _ => Option V) none (fun l => some (.fn f l)) (mapO (snQ d h) cs) = some r := e
      obtain ⟨l, h5, rfl⟩ := rec_some e
      obtain ⟨h6, h7⟩ := mapO_ok ih h5
      simp only [sok, snap, h6, h7, and_self]
    case mm k =>
      have e : mapK h k (fun es => Option.rec (motive := fun _ => Option V) none (fun l => some (.im l)) (mapE (snQ d h) es)) = some r := e
      obtain ⟨es, h1, h2⟩ := mapK_ok e
      obtain ⟨l, h5, rfl⟩ := rec_some h2
      obtain ⟨h6, h7⟩ := mapE_ok ih h5
      simp only [sok, snap, h1, h6, h7, and_self]
end Go.Lg
