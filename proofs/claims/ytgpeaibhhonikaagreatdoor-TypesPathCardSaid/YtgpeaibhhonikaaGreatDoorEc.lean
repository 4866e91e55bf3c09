/-
  The reckoning's quick forms: memory, slices, structs, maps; each is what the plain logic says.
-/
import Derived.Test.YtgpeaibhhonikaaGreatDoorEb
set_option linter.unusedSimpArgs false
set_option linter.unusedVariables false
namespace Go.Lg
open Go Go.RowKit

theorem nble' (a b : Nat) : Nat.ble a b = decide (a ≤ b) := by
  cases h : Nat.ble a b
  · refine (decide_eq_false fun h' => ?_).symm
    rw [Nat.ble_eq_true_of_le h'] at h; cases h
  · exact (decide_eq_true (Nat.le_of_ble_eq_true h)).symm
/-! What a value is. -/
inductive B6 where
  | no
  | ok (b : Bool)
noncomputable def asB (v : V) : B6 := (V.rec (motive_1 := fun _ => B6) (motive_2 := fun _ => Unit) (motive_3 := fun _ => Unit) (motive_4 := fun _ => Unit) (fun _ _ => .no) (fun b => .ok b) (fun _ => .no) (fun _ _ => .no) (fun _ _ => .no) (fun _ _ _ => .no) (.no) (fun _ _ _ _ => .no) (fun _ _ _ _ _ => .no) (.no) (fun _ _ _ => .no) (fun _ _ _ => .no) (fun _ _ _ => .no) (.no) (fun _ _ _ => .no) (.no) (.no) (fun _ => .no) (fun _ _ => .no) (.no) () (fun _ _ _ _ => ()) () (fun _ _ _ _ => ()) (fun _ _ _ _ => ()) v)
theorem asB_ok {v : V} {b : Bool} (h : asB v = .ok b) : v = .bool b := by
  cases v <;> cases h
  rfl
inductive N6 where
  | no
  | ok (k : IntKind) (n : Nat)
noncomputable def asN (v : V) : N6 := (V.rec (motive_1 := fun _ => N6) (motive_2 := fun _ => Unit) (motive_3 := fun _ => Unit) (motive_4 := fun _ => Unit) (fun k z => Int.rec (motive := fun _ => N6) (fun n => .ok k n) (fun _ => .no) z) (fun _ => .no) (fun _ => .no) (fun _ _ => .no) (fun _ _ => .no) (fun _ _ _ => .no) (.no) (fun _ _ _ _ => .no) (fun _ _ _ _ _ => .no) (.no) (fun _ _ _ => .no) (fun _ _ _ => .no) (fun _ _ _ => .no) (.no) (fun _ _ _ => .no) (.no) (.no) (fun _ => .no) (fun _ _ => .no) (.no) () (fun _ _ _ _ => ()) () (fun _ _ _ _ => ()) (fun _ _ _ _ => ()) v)
theorem asN_ok {v : V} {k : IntKind} {n : Nat} (h : asN v = .ok k n) : v = .int k (n : Int) := by
  cases v <;> try cases h
  rename_i q z
  cases z <;> cases h
  rfl
inductive P6 where
  | no
  | ip (cs : List V) (off : Nat)
  | mp (key : Key) (g off : Nat)
noncomputable def asP (v : V) : P6 := (V.rec (motive_1 := fun _ => P6) (motive_2 := fun _ => Unit) (motive_3 := fun _ => Unit) (motive_4 := fun _ => Unit) (fun _ _ => .no) (fun _ => .no) (fun _ => .no) (fun _ _ => .no) (fun _ _ => .no) (fun _ _ _ => .no) (.no) (fun _ _ _ _ => .no) (fun _ _ _ _ _ => .no) (.no) (fun cs o _ => .ip cs o) (fun k g o => .mp k g o) (fun _ _ _ => .no) (.no) (fun _ _ _ => .no) (.no) (.no) (fun _ => .no) (fun _ _ => .no) (.no) () (fun _ _ _ _ => ()) () (fun _ _ _ _ => ()) (fun _ _ _ _ => ()) v)
theorem asP_ip {v : V} {cs : List V} {o : Nat} (h : asP v = .ip cs o) : v = .ip cs o := by
  cases v <;> cases h
  rfl
theorem asP_mp {v : V} {k : Key} {g o : Nat} (h : asP v = .mp k g o) : v = .mp k g o := by
  cases v <;> cases h
  rfl
inductive X6 where
  | no
  | sl (n : Nat) (cs : List V)
  | ms (key : Key) (g off n : Nat)
  | mv (key : Key) (g off n esz : Nat)
  | e0
  | st (l : List UInt8)
noncomputable def asX (v : V) : X6 := (V.rec (motive_1 := fun _ => X6) (motive_2 := fun _ => Unit) (motive_3 := fun _ => Unit) (motive_4 := fun _ => Unit) (fun _ _ => .no) (fun _ => .no) (fun s => ByteArray.rec (motive := fun _ => X6) (fun d => Array.rec (motive := fun _ => X6) (fun l => .st l) d) s) (fun _ _ => .no) (fun _ _ => .no) (fun n cs _ => .sl n cs) (.e0) (fun k g o n => .ms k g o n) (fun k g o n e => .mv k g o n e) (.no) (fun _ _ _ => .no) (fun _ _ _ => .no) (fun _ _ _ => .no) (.no) (fun _ _ _ => .no) (.no) (.no) (fun _ => .no) (fun _ _ => .no) (.no) () (fun _ _ _ _ => ()) () (fun _ _ _ _ => ()) (fun _ _ _ _ => ()) v)
theorem asX_sl {v : V} {n : Nat} {cs : List V} (h : asX v = .sl n cs) : v = .sl n cs := by
  cases v <;> cases h
  rfl
theorem asX_ms {v : V} {k : Key} {g o n : Nat} (h : asX v = .ms k g o n) : v = .msl k g o n := by
  cases v <;> cases h
  rfl
theorem asX_mv {v : V} {k : Key} {g o n e : Nat} (h : asX v = .mv k g o n e) : v = .msv k g o n e := by
  cases v <;> cases h
  rfl
theorem asX_e0 {v : V} (h : asX v = .e0) : v = .e0 := by
  cases v <;> cases h
  rfl
theorem asX_st {v : V} {l : List UInt8} (h : asX v = .st l) : v = .str ⟨⟨l⟩⟩ := by
  cases v <;> cases h
  rfl
inductive G6 where
  | no
  | ag (cs : List V)
  | tu (cs : List V)
noncomputable def asG (v : V) : G6 := (V.rec (motive_1 := fun _ => G6) (motive_2 := fun _ => Unit) (motive_3 := fun _ => Unit) (motive_4 := fun _ => Unit) (fun _ _ => .no) (fun _ => .no) (fun _ => .no) (fun cs _ => .ag cs) (fun cs _ => .tu cs) (fun _ _ _ => .no) (.no) (fun _ _ _ _ => .no) (fun _ _ _ _ _ => .no) (.no) (fun _ _ _ => .no) (fun _ _ _ => .no) (fun _ _ _ => .no) (.no) (fun _ _ _ => .no) (.no) (.no) (fun _ => .no) (fun _ _ => .no) (.no) () (fun _ _ _ _ => ()) () (fun _ _ _ _ => ()) (fun _ _ _ _ => ()) v)
theorem asG_ag {v : V} {cs : List V} (h : asG v = .ag cs) : v = .agg cs := by
  cases v <;> cases h
  rfl
theorem asG_tu {v : V} {cs : List V} (h : asG v = .tu cs) : v = .tup cs := by
  cases v <;> cases h
  rfl
noncomputable def cellsF (v : V) : List V := (V.rec (motive_1 := fun _ => List V) (motive_2 := fun _ => Unit) (motive_3 := fun _ => Unit) (motive_4 := fun _ => Unit) (fun _ _ => [v]) (fun _ => [v]) (fun _ => [v]) (fun cs _ => cs) (fun _ _ => [v]) (fun _ _ _ => [v]) ([v]) (fun _ _ _ _ => [v]) (fun _ _ _ _ _ => [v]) ([v]) (fun _ _ _ => [v]) (fun _ _ _ => [v]) (fun _ _ _ => [v]) ([v]) (fun _ _ _ => [v]) ([v]) ([v]) (fun _ => [v]) (fun _ _ => [v]) ([v]) () (fun _ _ _ _ => ()) () (fun _ _ _ _ => ()) (fun _ _ _ _ => ()) v)
theorem cellsF_eq (v : V) : cellsF v = v.cells := by cases v <;> rfl
noncomputable def oneF (v : V) : Bool := (V.rec (motive_1 := fun _ => Bool) (motive_2 := fun _ => Unit) (motive_3 := fun _ => Unit) (motive_4 := fun _ => Unit) (fun _ _ => true) (fun _ => true) (fun _ => true) (fun _ _ => false) (fun _ _ => false) (fun _ _ _ => true) (true) (fun _ _ _ _ => true) (fun _ _ _ _ _ => true) (true) (fun _ _ _ => true) (fun _ _ _ => true) (fun _ _ _ => true) (true) (fun _ _ _ => true) (true) (true) (fun _ => true) (fun _ _ => true) (false) () (fun _ _ _ _ => ()) () (fun _ _ _ _ => ()) (fun _ _ _ _ => ()) v)
theorem oneF_eq (v : V) : oneF v = v.one := by cases v <;> rfl
noncomputable def knownF (v : V) : Bool := (V.rec (motive_1 := fun _ => Bool) (motive_2 := fun _ => Unit) (motive_3 := fun _ => Unit) (motive_4 := fun _ => Unit) (fun _ _ => true) (fun _ => true) (fun _ => true) (fun _ _ => true) (fun _ _ => true) (fun _ _ _ => true) (true) (fun _ _ _ _ => true) (fun _ _ _ _ _ => true) (true) (fun _ _ _ => true) (fun _ _ _ => true) (fun _ _ _ => true) (true) (fun _ _ _ => true) (true) (true) (fun _ => true) (fun _ _ => true) (false) () (fun _ _ _ _ => ()) () (fun _ _ _ _ => ()) (fun _ _ _ _ => ()) v)
theorem knownF_eq (v : V) : knownF v = v.known := by cases v <;> rfl
inductive C6 where
  | no
  | nil
  | ifc (t : TypeId) (v : V)
noncomputable def asC (v : V) : C6 := (V.rec (motive_1 := fun _ => C6) (motive_2 := fun _ => Unit) (motive_3 := fun _ => Unit) (motive_4 := fun _ => Unit) (fun _ _ => .no) (fun _ => .no) (fun _ => .no) (fun _ _ => .no) (fun _ _ => .no) (fun _ _ _ => .no) (.no) (fun _ _ _ _ => .no) (fun _ _ _ _ _ => .no) (.no) (fun _ _ _ => .no) (fun _ _ _ => .no) (fun t v _ => .ifc t v) (.nil) (fun _ _ _ => .no) (.no) (.no) (fun _ => .no) (fun _ _ => .no) (.no) () (fun _ _ _ _ => ()) () (fun _ _ _ _ => ()) (fun _ _ _ _ => ()) v)
theorem asC_ifc {v u : V} {t : TypeId} (h : asC v = .ifc t u) : v = .ifc t u := by
  cases v <;> cases h
  rfl
theorem asC_nil {v : V} (h : asC v = .nil) : v = .nili := by
  cases v <;> cases h
  rfl
inductive M6 where
  | no
  | mm (k : Key)
  | im (es : List (V × V))
noncomputable def asM (v : V) : M6 := (V.rec (motive_1 := fun _ => M6) (motive_2 := fun _ => Unit) (motive_3 := fun _ => Unit) (motive_4 := fun _ => Unit) (fun _ _ => .no) (fun _ => .no) (fun _ => .no) (fun _ _ => .no) (fun _ _ => .no) (fun _ _ _ => .no) (.no) (fun _ _ _ _ => .no) (fun _ _ _ _ _ => .no) (.no) (fun _ _ _ => .no) (fun _ _ _ => .no) (fun _ _ _ => .no) (.no) (fun _ _ _ => .no) (.no) (.no) (fun k => .mm k) (fun es _ => .im es) (.no) () (fun _ _ _ _ => ()) () (fun _ _ _ _ => ()) (fun _ _ _ _ => ()) v)
theorem asM_mm {v : V} {k : Key} (h : asM v = .mm k) : v = .mm k := by
  cases v <;> cases h
  rfl
theorem asM_im {v : V} {es : List (V × V)} (h : asM v = .im es) : v = .im es := by
  cases v <;> cases h
  rfl
inductive F6 where
  | no
  | fn (f : FuncId) (cap : List V)
noncomputable def asF (v : V) : F6 := (V.rec (motive_1 := fun _ => F6) (motive_2 := fun _ => Unit) (motive_3 := fun _ => Unit) (motive_4 := fun _ => Unit) (fun _ _ => .no) (fun _ => .no) (fun _ => .no) (fun _ _ => .no) (fun _ _ => .no) (fun _ _ _ => .no) (.no) (fun _ _ _ _ => .no) (fun _ _ _ _ _ => .no) (.no) (fun _ _ _ => .no) (fun _ _ _ => .no) (fun _ _ _ => .no) (.no) (fun f c _ => .fn f c) (.no) (.no) (fun _ => .no) (fun _ _ => .no) (.no) () (fun _ _ _ _ => ()) () (fun _ _ _ _ => ()) (fun _ _ _ _ => ()) v)
theorem asF_fn {v : V} {f : FuncId} {c : List V} (h : asF v = .fn f c) : v = .fn f c := by
  cases v <;> cases h
  rfl
/-- Numbers within made plain. -/
noncomputable def frc (v : V) : Option V := (V.rec (motive_1 := fun _ => Option V) (motive_2 := fun _ => Unit) (motive_3 := fun _ => Unit) (motive_4 := fun _ => Unit) (fun k z => Int.rec (motive := fun _ => Option V) (fun n => fN n fun n => some (.int k (.ofNat n))) (fun n => fN n fun n => some (.int k (.negSucc n))) z) (fun b => bF b) (fun _ => some v) (fun _ _ => some v) (fun _ _ => some v) (fun _ _ _ => some v) (some v) (fun _ _ _ _ => some v) (fun _ _ _ _ _ => some v) (some v) (fun _ _ _ => some v) (fun _ _ _ => some v) (fun _ _ _ => some v) (some v) (fun _ _ _ => some v) (some v) (some v) (fun _ => some v) (fun _ _ => some v) (some v) () (fun _ _ _ _ => ()) () (fun _ _ _ _ => ()) (fun _ _ _ _ => ()) v)
theorem frc_eq (v : V) : frc v = some v := by
  cases v <;> try rfl
  · rename_i k z
    cases z with
    | ofNat n => exact fN_eq n fun n => some (V.int k (Int.ofNat n))
    | negSucc n => exact fN_eq n fun n => some (V.int k (Int.negSucc n))
  · exact bF_eq _

/-! Objects read. -/
noncomputable def hgetS (h : Hq) (k : Key) : Option LObj := Bool.rec (motive := fun _ => Option LObj) none (hget h k) (okK k)
theorem hgetS_ok {h : Hq} {k : Key} {o : LObj} (e : hgetS h k = some o) : h.H k = some o := by
  unfold hgetS at e
  cases hk : okK k with
  | false => rw [hk] at e; cases e
  | true => rw [hk] at e; rw [← hget_eq (okK_ok hk)]; exact e
/-- The cells of a row, of that generation. -/
noncomputable def rowK {β : Type} (h : Hq) (k : Key) (g : Nat) (K : Nat → List V → Option β) : Option β := Option.rec (motive := fun _ => Option β) none (fun o => LObj.rec (motive := fun _ => Option β) (fun g' e cs => Bool.rec (motive := fun _ => Option β) none (K e cs) (Nat.beq g' g)) (fun _ => none) o) (hgetS h k)
theorem rowK_ok {β : Type} {h : Hq} {k : Key} {g : Nat} {K : Nat → List V → Option β} {r : β} (e : rowK h k g K = some r) : ∃ esz cs, h.H k = some (.row g esz cs) ∧ K esz cs = some r := by
  unfold rowK at e
  cases hh : hgetS h k with
  | none => rw [hh] at e; cases e
  | some o =>
    rw [hh] at e
    cases o with
    | map es => cases e
    | row g' esz cs =>
      have e2 : Bool.rec (motive := fun _ => Option β) none (K esz cs) (Nat.beq g' g) = some r := e
      cases hg : Nat.beq g' g with
      | false => rw [hg] at e2; cases e2
      | true =>
        rw [hg] at e2
        have hg := Nat.eq_of_beq_eq_true hg
        subst hg
        exact ⟨esz, cs, hgetS_ok hh, e2⟩
noncomputable def mapK {β : Type} (h : Hq) (k : Key) (K : List (V × V) → Option β) : Option β := Option.rec (motive := fun _ => Option β) none (fun o => LObj.rec (motive := fun _ => Option β) (fun _ _ _ => none) (fun es => K es) o) (hgetS h k)
theorem mapK_ok {β : Type} {h : Hq} {k : Key} {K : List (V × V) → Option β} {r : β} (e : mapK h k K = some r) : ∃ es, h.H k = some (.map es) ∧ K es = some r := by
  unfold mapK at e
  cases hh : hgetS h k with
  | none => rw [hh] at e; cases e
  | some o =>
    rw [hh] at e
    cases o with
    | map es => exact ⟨es, hgetS_ok hh, e⟩
    | row g' esz cs => cases e

noncomputable def ldF (agg : Bool) (n : Nat) (cs : List V) (off : Nat) : Option V := Bool.rec (motive := fun _ => Option V) (nth cs off) (dropK off cs fun r => takeK n r fun l => some (.agg l)) agg
theorem ldF_eq (agg : Bool) (n : Nat) (cs : List V) (off : Nat) : ldF agg n cs off = ldV agg n cs off := by
  cases agg with
  | false => show nth cs off = _; rw [nth_eq]; rfl
  | true =>
    show dropK off cs (fun r => takeK n r fun l => some (V.agg l)) = _
    rw [dropK_eq]
    simp only [takeK_eq, List.length_drop, ldV, if_true]
    by_cases h1 : off + n ≤ cs.length
    · rw [if_pos h1, if_pos (by omega), if_pos (by omega)]
    · rw [if_neg h1]
      by_cases h2 : off ≤ cs.length
      · rw [if_pos h2, if_neg (by omega)]
      · rw [if_neg h2]
theorem ofOpt_Ps {o : Option V} {v : V} (h : o = some v) : Ps (LRes.ofOpt o) v := by subst h; exact ⟨_, rfl, trivial⟩
noncomputable def qLoad (agg : Bool) (n : Nat) (h : Hq) (a : V) : Option V := P6.rec (motive := fun _ => Option V) none (fun cs off => ldF agg n cs off) (fun k g off => rowK h k g fun _ cs => ldF agg n cs off) (asP a)
theorem qLoad_ok {agg : Bool} {n : Nat} {h : Hq} {a v : V} (e : qLoad agg n h a = some v) : Ps (lload agg n h.H a) v := by
  unfold qLoad at e
  cases ha : asP a with
  | no => rw [ha] at e; cases e
  | ip cs off => rw [ha] at e; rw [asP_ip ha]; exact ofOpt_Ps ((ldF_eq _ _ _ _).symm.trans e)
  | mp k g off =>
    rw [ha] at e; rw [asP_mp ha]
    obtain ⟨esz, cs, h1, h2⟩ := rowK_ok e
    simp only [lload, h1, if_true]
    exact ofOpt_Ps ((ldF_eq _ _ _ _).symm.trans h2)

/-! Cells set. -/
noncomputable def repK {β : Type} (xs : List V) : List V → (List V → Option β) → Option β := List.rec (motive := fun _ => List V → (List V → Option β) → Option β) (fun cs K => K cs) (fun x _ ih cs K => List.rec (motive := fun _ => Option β) none (fun _ r _ => ih r fun t => K (x :: t)) cs) xs
theorem repK_eq {β : Type} : ∀ (xs cs : List V) (K : List V → Option β), repK xs cs K = if xs.length ≤ cs.length then K (xs ++ cs.drop xs.length) else none
  | [], cs, K => by simp [repK]
  | x :: xs, [], K => by simp [repK]
  | x :: xs, c :: cs, K => by
    show repK xs cs (fun t => K (x :: t)) = _
    rw [repK_eq xs cs]
    simp only [List.length_cons, Nat.add_le_add_iff_right, List.drop_succ_cons, List.cons_append]
noncomputable def cpyK {β : Type} (G : List V → (List V → Option β) → Option β) (n : Nat) : List V → (List V → Option β) → Option β := Nat.rec (motive := fun _ => List V → (List V → Option β) → Option β) (fun cs K => G cs K) (fun _ ih cs K => List.rec (motive := fun _ => Option β) none (fun c r _ => ih r fun t => K (c :: t)) cs) n
noncomputable def scF {β : Type} (off : Nat) (xs cs : List V) (K : List V → Option β) : Option β := cpyK (repK xs) off cs K
theorem scF_eq {β : Type} (xs : List V) : ∀ (off : Nat) (cs : List V) (K : List V → Option β), scF off xs cs K = if off + xs.length ≤ cs.length then K (setCells cs off xs) else none
  | 0, cs, K => by
    show repK xs cs K = _
    rw [repK_eq]; simp [setCells]
  | off + 1, [], K => by
    show (none : Option β) = _
    rw [if_neg (by simp)]
  | off + 1, c :: cs, K => by
    show scF off xs cs (fun t => K (c :: t)) = _
    rw [scF_eq xs off cs]
    by_cases h : off + xs.length ≤ cs.length
    · rw [if_pos h, if_pos (by simp only [List.length_cons]; omega)]
      simp only [setCells, List.take_succ_cons, List.cons_append]
      rw [show off + 1 + xs.length = (off + xs.length) + 1 by omega, List.drop_succ_cons]
    · rw [if_neg h, if_neg (by simp only [List.length_cons]; omega)]
noncomputable def allF (p : V → Bool) (l : List V) : Bool := List.rec (motive := fun _ => Bool) true (fun x _ ih => Bool.rec (motive := fun _ => Bool) false ih (p x)) l
theorem allF_eq (p : V → Bool) : ∀ l : List V, allF p l = l.all p
  | [] => rfl
  | x :: l => by
    show Bool.rec (motive := fun _ => Bool) false (allF p l) (p x) = _
    rw [allF_eq p l, List.all_cons]
    cases p x <;> rfl
theorem oneF_fun : oneF = V.one := funext oneF_eq
noncomputable def qStore (n : Nat) (h : Hq) (a x : V) : Option Hq := P6.rec (motive := fun _ => Option Hq) none (fun _ _ => none) (fun k g off => rowK h k g fun esz cs => Bool.rec (motive := fun _ => Option Hq) none (Bool.rec (motive := fun _ => Option Hq) none (scF off (cellsF x) cs fun cs' => setH k (.row g esz cs') h) (allF oneF (cellsF x))) (Nat.beq (lenA (cellsF x) 0) n)) (asP a)
theorem qStore_ok {n : Nat} {h h' : Hq} {a x : V} (e : qStore n h a x = some h') : ∃ pre : Prop, ∃ H', lstore n h.H a x = .D pre .junk H' ∧ pre ∧ h'.H = H' ∧ h'.c = h.c := by
  unfold qStore at e
  cases ha : asP a with
  | no => rw [ha] at e; cases e
  | ip cs off => rw [ha] at e; cases e
  | mp k g off =>
    rw [ha] at e; rw [asP_mp ha]
    obtain ⟨esz, cs, h1, h2⟩ := rowK_ok e
    simp only [lstore, h1, if_true]
    cases hl : Nat.beq (lenA (cellsF x) 0) n with
    | false => rw [hl] at h2; cases h2
    | true =>
      rw [hl] at h2
      have hl := Nat.eq_of_beq_eq_true hl
      rw [lenA_eq, Nat.add_zero, cellsF_eq] at hl
      cases hone : allF oneF (cellsF x) with
      | false => rw [hone] at h2; cases h2
      | true =>
        rw [hone] at h2
        rw [allF_eq, oneF_fun, cellsF_eq] at hone
        have h2 : scF off (cellsF x) cs (fun cs' => setH k (.row g esz cs') h) = some h' := h2
        rw [scF_eq, cellsF_eq] at h2
        split at h2
        case isFalse => cases h2
        rename_i hle
        obtain ⟨e1, e2⟩ := setH_ok h2
        exact ⟨_, _, rfl, ⟨hl, by omega, hone⟩, e1, e2⟩

/-! Places. -/
noncomputable def qFad (off : Nat) (a : V) : Option V := P6.rec (motive := fun _ => Option V) none (fun cs o => fN (o + off) fun o => some (.ip cs o)) (fun k g o => fN (o + off) fun o => some (.mp k g o)) (asP a)
theorem qFad_ok {off : Nat} {a v : V} (e : qFad off a = some v) : Ps (lfad off a) v := by
  unfold qFad at e
  cases ha : asP a with
  | no => rw [ha] at e; cases e
  | ip cs o => rw [ha] at e; rw [asP_ip ha]; simp only [fN_eq] at e; cases e; exact ⟨_, rfl, trivial⟩
  | mp k g o => rw [ha] at e; rw [asP_mp ha]; simp only [fN_eq] at e; cases e; exact ⟨_, rfl, trivial⟩
noncomputable def qNil (a : V) : Option V := P6.rec (motive := fun _ => Option V) none (fun cs o => some (.ip cs o)) (fun k g o => some (.mp k g o)) (asP a)
theorem qNil_ok {a v : V} (e : qNil a = some v) : Ps (lnil a) v := by
  unfold qNil at e
  cases ha : asP a with
  | no => rw [ha] at e; cases e
  | ip cs o => rw [ha] at e; rw [asP_ip ha]; cases e; exact ⟨_, rfl, trivial⟩
  | mp k g o => rw [ha] at e; rw [asP_mp ha]; cases e; exact ⟨_, rfl, trivial⟩
noncomputable def qFld (agg : Bool) (n off : Nat) (a : V) : Option V := G6.rec (motive := fun _ => Option V) none (fun cs => ldF agg n cs off) (fun _ => none) (asG a)
theorem qFld_ok {agg : Bool} {n off : Nat} {a v : V} (e : qFld agg n off a = some v) : Ps (lfld agg n off a) v := by
  unfold qFld at e
  cases ha : asG a with
  | no => rw [ha] at e; cases e
  | ag cs => rw [ha] at e; rw [asG_ag ha]; exact ofOpt_Ps ((ldF_eq _ _ _ _).symm.trans e)
  | tu cs => rw [ha] at e; cases e
noncomputable def qExt (i : Nat) (a : V) : Option V := G6.rec (motive := fun _ => Option V) none (fun _ => none) (fun cs => nth cs i) (asG a)
theorem qExt_ok {i : Nat} {a v : V} (e : qExt i a = some v) : Ps (lext i a) v := by
  unfold qExt at e
  cases ha : asG a with
  | no => rw [ha] at e; cases e
  | ag cs => rw [ha] at e; cases e
  | tu cs => rw [ha] at e; rw [asG_tu ha]; exact ofOpt_Ps ((nth_eq _ _).symm.trans e)
noncomputable def qIaS (esz : Nat) (x i : V) : Option V := N6.rec (motive := fun _ => Option V) none (fun _ n => X6.rec (motive := fun _ => Option V) none (fun m cs => Bool.rec (motive := fun _ => Option V) none (fN (n * esz) fun o => some (.ip cs o)) (Nat.blt n m)) (fun k g o m => Bool.rec (motive := fun _ => Option V) none (fN (o + n * esz) fun o => some (.mp k g o)) (Nat.blt n m)) (fun k g o m _ => Bool.rec (motive := fun _ => Option V) none (fN (o + n * esz) fun o => some (.mp k g o)) (Nat.blt n m)) none (fun _ => none) (asX x)) (asN i)
theorem qIaS_ok {esz : Nat} {x i v : V} (e : qIaS esz x i = some v) : Ps (liaS esz x i) v := by
  unfold qIaS at e
  cases hi : asN i with
  | no => rw [hi] at e; cases e
  | ok k n =>
    rw [hi] at e; rw [asN_ok hi]
    cases hx : asX x with
    | no => rw [hx] at e; cases e
    | e0 => rw [hx] at e; cases e
    | st => rw [hx] at e; cases e
    | sl m cs =>
      rw [hx] at e; rw [asX_sl hx]
      simp only [fN_eq, nblt] at e
      by_cases h : n < m
      · rw [decide_eq_true h] at e; cases e
        exact ⟨_, rfl, by omega, by omega⟩
      · rw [decide_eq_false h] at e; cases e
    | ms key g o m =>
      rw [hx] at e; rw [asX_ms hx]
      simp only [fN_eq, nblt] at e
      by_cases h : n < m
      · rw [decide_eq_true h] at e; cases e
        exact ⟨_, rfl, by omega, by omega⟩
      · rw [decide_eq_false h] at e; cases e
    | mv key g o m e' =>
      rw [hx] at e; rw [asX_mv hx]
      simp only [fN_eq, nblt] at e
      by_cases h : n < m
      · rw [decide_eq_true h] at e; cases e
        exact ⟨_, rfl, by omega, by omega⟩
      · rw [decide_eq_false h] at e; cases e
noncomputable def qIaA (len esz : Nat) (x i : V) : Option V := N6.rec (motive := fun _ => Option V) none (fun _ n => Bool.rec (motive := fun _ => Option V) none (P6.rec (motive := fun _ => Option V) none (fun cs o => fN (o + n * esz) fun o => some (.ip cs o)) (fun k g o => fN (o + n * esz) fun o => some (.mp k g o)) (asP x)) (Nat.blt n len)) (asN i)
theorem qIaA_ok {len esz : Nat} {x i v : V} (e : qIaA len esz x i = some v) : Ps (liaA len esz x i) v := by
  unfold qIaA at e
  cases hi : asN i with
  | no => rw [hi] at e; cases e
  | ok k n =>
    rw [hi] at e; rw [asN_ok hi]
    simp only [fN_eq, nblt] at e
    by_cases h : n < len
    · rw [decide_eq_true h] at e
      cases hx : asP x with
      | no => rw [hx] at e; cases e
      | ip cs o => rw [hx] at e; rw [asP_ip hx]; cases e; exact ⟨_, rfl, by omega, by omega⟩
      | mp k g o => rw [hx] at e; rw [asP_mp hx]; cases e; exact ⟨_, rfl, by omega, by omega⟩
    · rw [decide_eq_false h] at e; cases e
noncomputable def qIxS (x i : V) : Option V := N6.rec (motive := fun _ => Option V) none (fun _ n => S6.rec (motive := fun _ => Option V) none (fun l => Option.rec (motive := fun _ => Option V) none (fun b => fN b.toNat fun m => some (.int .u8 (.ofNat m))) (nth l n)) (asS x)) (asN i)
theorem qIxS_ok {x i v : V} (e : qIxS x i = some v) : Ps (lixS x i) v := by
  unfold qIxS at e
  cases hi : asN i with
  | no => rw [hi] at e; cases e
  | ok k n =>
    rw [hi] at e; rw [asN_ok hi]
    cases hx : asS x with
    | no => rw [hx] at e; cases e
    | ok l =>
      rw [hx] at e; rw [asS_ok hx]
      simp only [fN_eq, nth_eq] at e
      cases hb : l[n]? with
      | none => rw [hb] at e; cases e
      | some b =>
        rw [hb] at e; cases e
        refine ⟨(0 : Int) ≤ (n : Int), ?_, by omega⟩
        simp only [lixS]
        have : (ByteArray.mk ⟨l⟩).data[(n : Int).toNat]? = some b := by simpa using hb
        rw [this]; rfl
noncomputable def qLen (isStr : Bool) (x : V) : Option V := X6.rec (motive := fun _ => Option V) none (fun n _ => Bool.rec (motive := fun _ => Option V) (some (.int .i64 (.ofNat n))) none isStr) (fun _ _ _ n => Bool.rec (motive := fun _ => Option V) (some (.int .i64 (.ofNat n))) none isStr) (fun _ _ _ n _ => Bool.rec (motive := fun _ => Option V) (some (.int .i64 (.ofNat n))) none isStr) (Bool.rec (motive := fun _ => Option V) (some (.int .i64 (.ofNat 0))) none isStr) (fun l => Bool.rec (motive := fun _ => Option V) none (fN (lenA l 0) fun n => some (.int .i64 (.ofNat n))) isStr) (asX x)
theorem qLen_ok {isStr : Bool} {x v : V} (e : qLen isStr x = some v) : Ps (llen isStr x) v := by
  unfold qLen at e
  cases hx : asX x with
  | no => rw [hx] at e; cases e
  | sl n cs => rw [hx] at e; rw [asX_sl hx]; cases isStr <;> cases e; exact ⟨_, rfl, trivial⟩
  | ms k g o n => rw [hx] at e; rw [asX_ms hx]; cases isStr <;> cases e; exact ⟨_, rfl, trivial⟩
  | mv k g o n e' => rw [hx] at e; rw [asX_mv hx]; cases isStr <;> cases e; exact ⟨_, rfl, trivial⟩
  | e0 => rw [hx] at e; rw [asX_e0 hx]; cases isStr <;> cases e; exact ⟨_, rfl, trivial⟩
  | st l =>
    rw [hx] at e; rw [asX_st hx]
    cases isStr with
    | false => cases e
    | true =>
      simp only [fN_eq, lenA_eq, Nat.add_zero] at e
      cases e
      exact ⟨_, rfl, trivial⟩

/-! Parts of slices. -/
noncomputable def qSlS (x : V) (lo : Nat) (hi : Nat → Option Nat) : Option V := S6.rec (motive := fun _ => Option V) none (fun l => Option.rec (motive := fun _ => Option V) none (fun h => Bool.rec (motive := fun _ => Option V) none (dropK lo l fun r => takeK (h - lo) r fun l => some (.str ⟨⟨l⟩⟩)) (Nat.ble lo h)) (hi (lenA l 0))) (asS x)
theorem extract_list (l : List UInt8) (a b : Nat) : (ByteArray.mk ⟨l⟩).extract a b = ⟨⟨(l.drop a).take (b - a)⟩⟩ := by
  apply ByteArray.ext
  apply Array.ext'
  simp [List.extract_eq_take_drop]
theorem qSlS_ok {x v : V} {lo : Nat} {hi : Nat → Option Nat} {hi' : Nat → Option Int} (hh' : ∀ n m, hi n = some m → hi' n = some (m : Int)) (e : qSlS x lo hi = some v) : Ps (lslSx (some (lo : Int)) hi' x) v := by
  unfold qSlS at e
  cases hx : asS x with
  | no => rw [hx] at e; cases e
  | ok l =>
    rw [hx] at e; rw [asS_ok hx]
    have hsz : (ByteArray.mk ⟨l⟩).size = l.length := rfl
    simp only [lenA_eq, Nat.add_zero] at e
    simp only [lslSx, hsz]
    cases hh : hi l.length with
    | none => rw [hh] at e; cases e
    | some h =>
      rw [hh] at e
      rw [hh' _ _ hh]
      simp only [nble', dropK_eq, takeK_eq] at e
      by_cases h1 : lo ≤ h
      · rw [decide_eq_true h1] at e
        have e : (if lo ≤ l.length then (if h - lo ≤ (l.drop lo).length then some (V.str ⟨⟨(l.drop lo).take (h - lo)⟩⟩) else none) else none) = some v := e
        split at e
        case isFalse => cases e
        split at e
        case isFalse => cases e
        rename_i h2 h3
        rw [List.length_drop] at h3
        cases e
        refine ⟨(0 : Int) ≤ (lo : Int) ∧ (lo : Int) ≤ (h : Int) ∧ (h : Int) ≤ (ByteArray.mk ⟨l⟩).size, ?_, by omega, by omega, by rw [hsz]; omega⟩
        simp only [lsl, lslS, Int.toNat_natCast, extract_list]
      · rw [decide_eq_false h1] at e; cases e
noncomputable def qSlV (esz : Nat) (x : V) (lo : Nat) (hi : Nat → Option Nat) : Option V := X6.rec (motive := fun _ => Option V) none
  (fun n cs => Option.rec (motive := fun _ => Option V) none (fun h => Bool.rec (motive := fun _ => Option V) none (Bool.rec (motive := fun _ => Option V) none (dropK (lo * esz) cs fun r => takeK (h * esz - lo * esz) r fun l => fN (h - lo) fun m => some (.sl m l)) (Nat.ble h n)) (Nat.ble lo h)) (hi n))
  (fun k g o n => Option.rec (motive := fun _ => Option V) none (fun h => Bool.rec (motive := fun _ => Option V) none (Bool.rec (motive := fun _ => Option V) none (fN (o + lo * esz) fun o => fN (h - lo) fun m => some (.msl k g o m)) (Nat.ble h n)) (Nat.ble lo h)) (hi n))
  (fun _ _ _ _ _ => none)
  (Option.rec (motive := fun _ => Option V) none (fun h => Bool.rec (motive := fun _ => Option V) none (some .e0) (Nat.beq (lo + h) 0)) (hi 0))
  (fun _ => none) (asX x)
theorem qSlV_ok {esz : Nat} {x v : V} {lo : Nat} {hi : Nat → Option Nat} {hi' : Nat → Option Int} (hh' : ∀ n m, hi n = some m → hi' n = some (m : Int)) (e : qSlV esz x lo hi = some v) : Ps (lslVx esz (some (lo : Int)) hi' x) v := by
  unfold qSlV at e
  cases hx : asX x with
  | no => rw [hx] at e; cases e
  | mv => rw [hx] at e; cases e
  | st => rw [hx] at e; cases e
  | e0 =>
    rw [hx] at e; rw [asX_e0 hx]
    dsimp only at e
    simp only [lslVx, lenV]
    cases hh : hi 0 with
    | none => rw [hh] at e; cases e
    | some h =>
      rw [hh] at e
      rw [hh' _ _ hh]
      simp only [nbeq] at e
      by_cases h0 : lo + h = 0
      · rw [decide_eq_true h0] at e; cases e
        exact ⟨_, rfl, by omega, by omega⟩
      · rw [decide_eq_false h0] at e; cases e
  | ms k g o n =>
    rw [hx] at e; rw [asX_ms hx]
    dsimp only at e
    simp only [lslVx, lenV]
    cases hh : hi n with
    | none => rw [hh] at e; cases e
    | some h =>
      rw [hh] at e
      rw [hh' _ _ hh]
      simp only [nble', fN_eq] at e
      by_cases h1 : lo ≤ h
      · rw [decide_eq_true h1] at e
        by_cases h2 : h ≤ n
        · rw [decide_eq_true h2] at e; cases e
          exact ⟨_, rfl, by omega, by omega, by omega⟩
        · rw [decide_eq_false h2] at e; cases e
      · rw [decide_eq_false h1] at e; cases e
  | sl n cs =>
    rw [hx] at e; rw [asX_sl hx]
    dsimp only at e
    simp only [lslVx, lenV]
    cases hh : hi n with
    | none => rw [hh] at e; cases e
    | some h =>
      rw [hh] at e
      rw [hh' _ _ hh]
      simp only [nble', fN_eq, dropK_eq, takeK_eq] at e
      by_cases h1 : lo ≤ h
      · rw [decide_eq_true h1] at e
        by_cases h2 : h ≤ n
        · rw [decide_eq_true h2] at e
          have hm : lo * esz ≤ h * esz := Nat.mul_le_mul_right _ h1
          have e : (if lo * esz ≤ cs.length then (if h * esz - lo * esz ≤ (cs.drop (lo * esz)).length then some (V.sl (h - lo) ((cs.drop (lo * esz)).take (h * esz - lo * esz))) else none) else none) = some v := e
          split at e
          case isFalse => cases e
          split at e
          case isFalse => cases e
          rename_i h3 h4
          rw [List.length_drop] at h4
          cases e
          refine ⟨(0 : Int) ≤ (lo : Int) ∧ (lo : Int) ≤ (h : Int) ∧ (h : Int) ≤ (n : Int) ∧ (h : Int).toNat * esz ≤ cs.length, ?_, by omega, by omega, by omega, by simp only [Int.toNat_natCast]; omega⟩
          simp only [lsl, lslV, Int.toNat_natCast]
          rw [List.drop_take]
        · rw [decide_eq_false h2] at e; cases e
      · rw [decide_eq_false h1] at e; cases e
end Go.Lg
