/-
  The reckoning: bodies made ready and run; calls by the callee's body; what comes out holds in the plain logic.
-/
import Derived.Test.YtgpeaibhhonikaaGreatDoorEl
set_option linter.unusedSimpArgs false
set_option linter.unusedVariables false
namespace Go.Lg
open Go Go.RowKit

/-! Bodies. -/
noncomputable def tick (f : Tq V → Hq → Rs) (t : Tq V) (h : Hq) : Rs := f t h
noncomputable def cdSeq (x y : Cd) : Cd := ⟨fun cl t h => Rs.rec (motive := fun _ => Rs) (fun n => .err n) (fun t h => y.run cl t h) (fun i t h => .ex i t h) (fun t h => .rt t h) (x.run cl t h)⟩
noncomputable def cdCond (c : Rb) (x y : Cd) : Cd := ⟨fun cl t h => B6.rec (motive := fun _ => Rs) (.err 0) (fun b => Bool.rec (motive := fun _ => Rs) (y.run cl t h) (x.run cl t h) b) (asB (c.g t))⟩
noncomputable def cdBlock (id : Nat) (x : Cd) : Cd := ⟨fun cl t h => Rs.rec (motive := fun _ => Rs) (fun n => .err n) (fun t h => .nm t h) (fun i t h => Bool.rec (motive := fun _ => Rs) (.ex i t h) (.nm t h) (Nat.beq i id)) (fun t h => .rt t h) (x.run cl t h)⟩
noncomputable def lpR (x : Tq V → Hq → Rs) (n : Nat) : Tq V → Hq → Rs := Nat.rec (motive := fun _ => Tq V → Hq → Rs) (fun _ _ => .err 1) (fun _ ih t h => Rs.rec (motive := fun _ => Rs) (fun n => .err n) (fun t h => tick ih t h) (fun i t h => .ex i t h) (fun t h => .rt t h) (x t h)) n
def lpFuel : Nat := 1000000
noncomputable def cdLoop (x : Cd) : Cd := ⟨fun cl t h => lpR (x.run cl) lpFuel t h⟩
theorem loop_run (x : Cd) (cl : Cl) (t : Tq V) (h : Hq) : (cdLoop x).run cl t h = lpR (x.run cl) lpFuel t h := rfl
noncomputable def cdErr : Cd := ⟨fun _ _ _ => .err 2⟩
noncomputable def comp (c : LC) : Cd := LC.rec (motive := fun _ => Cd) cdNil (fun rid ops => cdD rid ops 0) (fun _ _ => cdErr) (fun _ _ x y => cdSeq x y) (fun c _ _ x y => Bool.rec (motive := fun _ => Cd) cdErr (cdCond (rbOf c) x y) (rlo c)) (fun id _ x => cdBlock id x) (fun _ x => cdLoop x) (fun id => ⟨fun _ t h => .ex id t h⟩) ⟨fun _ t h => .rt t h⟩ cdErr (fun _ _ _ => cdErr) (fun _ _ _ _ => cdErr) (fun _ _ => cdErr) (fun rid ops => cdC rid ops 0) (fun rid bs ops => cdE rid bs ops) (fun rid _ ops => cdD rid ops 0) (fun rid bs ops => cdE rid bs ops) (fun _ _ _ => cdErr) c

theorem comp_loop (x : LC) : comp (.loop x) = cdLoop (comp x) := rfl
/-- All literals' kinds fit. -/
def LC.kinds : LC → Prop
  | .regc _ ops => kOk ops
  | .seq x y => x.kinds ∧ y.kinds
  | .cond _ x y => x.kinds ∧ y.kinds
  | .block _ x => x.kinds
  | .loop x => x.kinds
  | _ => True

/-- What came out of a body, as the logic's end. -/
def endsQ (o : Nat → V) (Q : Exit → St → Prop) : Rs → Prop
  | .err _ => False
  | .nm t h => Q .normal (denq o t h)
  | .ex i t h => Q (.exit i) (denq o t h)
  | .rt t h => Q .ret (denq o t h)

def loopN (body : (Exit → St → Prop) → St → Prop) (Q : Exit → St → Prop) : Nat → St → Prop
  | 0, _ => False
  | k + 1, σ => body (thenQ (loopN body Q k) Q) σ
theorem loop_of_N {P : Program} {x : LC} {Q : Exit → St → Prop} {k : Nat} {σ : St} (h : loopN (vcg P x) Q k σ) : vcg P (.loop x) Q σ := by
  refine ⟨fun n σ1 => loopN (vcg P x) Q n σ1, ⟨k, σ, Ent.refl _, h⟩, ?_⟩
  intro n σ1 hI
  cases n with
  | zero => exact hI.elim
  | succ n =>
    refine vcg_mono (c := x) ?_ hI
    intro e σ2 h2
    cases e with
    | normal => exact ⟨n, σ2, Nat.lt_succ_self n, Ent.refl _, h2⟩
    | _ => exact h2

section
variable {P : Program} {cl : Cl}
theorem lpR_ok {x : LC} {f : Tq V → Hq → Rs} {o : Nat → V} (hf : ∀ t h Q, endsQ o Q (f t h) → vcg P x Q (denq o t h)) : ∀ (n : Nat) (t : Tq V) (h : Hq) (Q : Exit → St → Prop), endsQ o Q (lpR f n t h) → loopN (vcg P x) Q n (denq o t h)
  | 0, t, h, Q, e => e
  | n + 1, t, h, Q, e => by
    have e : endsQ o Q (Rs.rec (motive := fun _ => Rs) (fun n => .err n) (fun t h => tick (lpR f n) t h) (fun i t h => .ex i t h) (fun t h => .rt t h) (f t h)) := e
    refine hf t h _ ?_
    cases hr : f t h with
    | err n => rw [hr] at e; exact e
    | nm t' h' => rw [hr] at e; exact lpR_ok hf n t' h' Q e
    | ex i t' h' => rw [hr] at e; exact e
    | rt t' h' => rw [hr] at e; exact e
theorem comp_ok {cl : Cl} (hcl : ClOk P cl) : ∀ (c : LC), c.kinds → ∀ (o : Nat → V) (t : Tq V) (h : Hq) (Q : Exit → St → Prop), endsQ o Q ((comp c).run cl t h) → vcg P c Q (denq o t h)
  | .skip, _, o, t, h, Q, e => e
  | .reg rid ops, _, o, t, h, Q, e => by
    rcases cdD_ok hcl (rid := rid) o ops 0 t h _ rfl with ⟨n, he⟩ | ⟨t', h', he, hK⟩
    · have e : endsQ o Q ((cdD rid ops 0).run cl t h) := e
      rw [he] at e; exact e.elim
    · have e : endsQ o Q ((cdD rid ops 0).run cl t h) := e
      rw [he] at e; exact hK (Q .normal) e
  | .regc rid ops, hk, o, t, h, Q, e => by
    rcases cdC_ok hcl (rid := rid) o ops 0 t h _ hk rfl with ⟨n, he⟩ | ⟨t', h', he, hK⟩
    · have e : endsQ o Q ((cdC rid ops 0).run cl t h) := e
      rw [he] at e; exact e.elim
    · have e : endsQ o Q ((cdC rid ops 0).run cl t h) := e
      rw [he] at e; exact hK (Q .normal) e
  | .rego rid ops, _, o, t, h, Q, e => e.elim
  | .seq x y, hk, o, t, h, Q, e => by
    have e : endsQ o Q (Rs.rec (motive := fun _ => Rs) (fun n => .err n) (fun t h => (comp y).run cl t h) (fun i t h => .ex i t h) (fun t h => .rt t h) ((comp x).run cl t h)) := e
    refine comp_ok hcl x hk.1 o t h _ ?_
    cases hr : (comp x).run cl t h with
    | err n => rw [hr] at e; exact e
    | nm t' h' => rw [hr] at e; exact comp_ok hcl y hk.2 o t' h' Q e
    | ex i t' h' => rw [hr] at e; exact e
    | rt t' h' => rw [hr] at e; exact e
  | .cond c x y, hk, o, t, h, Q, e => by
    have e : endsQ o Q ((Bool.rec (motive := fun _ => Cd) cdErr (cdCond (rbOf c) (comp x) (comp y)) (rlo c) : Cd).run cl t h) := e
    cases hc : rlo c with
    | false => rw [hc] at e; exact e.elim
    | true =>
      rw [hc] at e
      have e : endsQ o Q (B6.rec (motive := fun _ => Rs) (.err 0) (fun b => Bool.rec (motive := fun _ => Rs) ((comp y).run cl t h) ((comp x).run cl t h) b) (asB ((rbOf c).g t))) := e
      rw [rb_ok hc o t] at e
      show condV (c.get (tmQ o t)) (vcg P x Q) (vcg P y Q) (denq o t h)
      cases hb : asB (c.get (tmQ o t)) with
      | no => rw [hb] at e; exact e.elim
      | ok b =>
        rw [hb] at e; rw [asB_ok hb]
        cases b with
        | false => exact comp_ok hcl y hk.2 o t h Q e
        | true => exact comp_ok hcl x hk.1 o t h Q e
  | .block id x, hk, o, t, h, Q, e => by
    have e : endsQ o Q (Rs.rec (motive := fun _ => Rs) (fun n => .err n) (fun t h => .nm t h) (fun i t h => Bool.rec (motive := fun _ => Rs) (.ex i t h) (.nm t h) (Nat.beq i id)) (fun t h => .rt t h) ((comp x).run cl t h)) := e
    refine comp_ok hcl x hk o t h _ ?_
    cases hr : (comp x).run cl t h with
    | err n => rw [hr] at e; exact e
    | nm t' h' => rw [hr] at e; exact e
    | ex i t' h' =>
      rw [hr] at e
      have e : endsQ o Q (Bool.rec (motive := fun _ => Rs) (.ex i t' h') (.nm t' h') (Nat.beq i id)) := e
      rw [nbeq] at e
      show blockQ id Q (.exit i) (denq o t' h')
      by_cases hi : i = id
      · rw [decide_eq_true hi] at e; simp only [blockQ, if_pos hi]; exact e
      · rw [decide_eq_false hi] at e; simp only [blockQ, if_neg hi]; exact e
    | rt t' h' => rw [hr] at e; exact e
  | .loop x, hk, o, t, h, Q, e => by
    rw [comp_loop, loop_run] at e
    exact loop_of_N (lpR_ok (fun t h Q e => comp_ok hcl x hk o t h Q e) lpFuel t h Q e)
  | .exit id, _, o, t, h, Q, e => e
  | .ret, _, o, t, h, Q, e => e
  | .bad, _, o, t, h, Q, e => e.elim
  | .keep ls x, _, o, t, h, Q, e => e.elim
  | .join x y, _, o, t, h, Q, e => e.elim
  | .regb rid ops, _, o, t, h, Q, e => e.elim
  | .regg rid bs ops, _, o, t, h, Q, e => e.elim
  | .regd rid bs ops, _, o, t, h, Q, e => by
    rcases cdE_ok hcl (rid := rid) (bs := bs) o ops t h _ rfl with ⟨n, he⟩ | ⟨t', h', he, hK⟩
    · have e : endsQ o Q ((cdE rid bs ops).run cl t h) := e
      rw [he] at e; exact e.elim
    · have e : endsQ o Q ((cdE rid bs ops).run cl t h) := e
      rw [he] at e; exact hK (Q .normal) e
  | .rege rid bs ops, _, o, t, h, Q, e => by
    rcases cdE_ok hcl (rid := rid) (bs := bs) o ops t h _ rfl with ⟨n, he⟩ | ⟨t', h', he, hK⟩
    · have e : endsQ o Q ((cdE rid bs ops).run cl t h) := e
      rw [he] at e; exact e.elim
    · have e : endsQ o Q ((cdE rid bs ops).run cl t h) := e
      rw [he] at e; exact hK (Q .normal) e
  | .regf rid bs ops, _, o, t, h, Q, e => by
    rcases cdD_ok hcl (rid := rid) o ops 0 t h _ rfl with ⟨n, he⟩ | ⟨t', h', he, hK⟩
    · have e : endsQ o Q ((cdD rid ops 0).run cl t h) := e
      rw [he] at e; exact e.elim
    · have e : endsQ o Q ((cdD rid ops 0).run cl t h) := e
      rw [he] at e; exact hK (Q .normal) e
end

/-! Which literals are objects. -/
def usesT (k : Nat) : IOp → Bool
  | .app _ _ _ (.tmp j) | .appE _ _ _ (.tmp j) => Nat.beq j k
  | _ => false
def kindOf (ops : List LOp) (o : LOp) : Nat := match o.guard, o.op, o.dst with
  | none, .bsl n _ _, some k => if n = 0 then 2 else if ops.any (fun p => usesT k p.op) then 3 else 4
  | _, _, _ => 2
/-- Bodies as they are reckoned. -/
def LC.lit : LC → LC
  | .rego rid ops => .regc rid (ops.map fun o => (kindOf ops o, o))
  | .seq x y => .seq x.lit y.lit
  | .cond c x y => .cond c x.lit y.lit
  | .block id x => .block id x.lit
  | .loop x => .loop x.lit
  | .keep _ x => x.lit
  | .join x y => .seq x.lit y.lit
  | .regb rid ops => .regc rid (ops.map fun o => (kindOf (ops.map (·.2)) o.2, o.2))
  | .regc rid ops => .regc rid (ops.map fun o => (kindOf (ops.map (·.2)) o.2, o.2))
  | .regf rid bs ops => .rege rid bs ops
  | c => c
theorem kindOf_ge (ops : List LOp) (o : LOp) : 2 ≤ kindOf ops o := by
  unfold kindOf
  repeat' split
  all_goals omega
theorem kOk_map {α : Type} (f : α → Nat × LOp) (h : ∀ a, 2 ≤ (f a).1) : ∀ l : List α, kOk (l.map f)
  | [] => trivial
  | a :: l => ⟨h a, kOk_map f h l⟩
theorem lit_kinds : ∀ c : LC, c.lit.kinds
  | .rego rid ops => kOk_map _ (fun o => kindOf_ge ops o) ops
  | .regb rid ops => kOk_map _ (fun o => kindOf_ge (ops.map (·.2)) o.2) ops
  | .regc rid ops => kOk_map _ (fun o => kindOf_ge (ops.map (·.2)) o.2) ops
  | .seq x y => ⟨lit_kinds x, lit_kinds y⟩
  | .cond c x y => ⟨lit_kinds x, lit_kinds y⟩
  | .block id x => lit_kinds x
  | .loop x => lit_kinds x
  | .keep _ x => lit_kinds x
  | .join x y => ⟨lit_kinds x, lit_kinds y⟩
  | .skip | .reg _ _ | .exit _ | .ret | .bad | .regd _ _ _ | .regf _ _ _ | .rege _ _ _ | .regg _ _ _ => trivial
theorem erase_lit : ∀ c : LC, c.lit.erase = c.erase
  | .rego rid ops => by simp [LC.lit, LC.erase, List.map_map, Function.comp_def]
  | .seq x y => by simp only [LC.lit, LC.erase, erase_lit x, erase_lit y]
  | .cond c x y => by simp only [LC.lit, LC.erase, erase_lit x, erase_lit y]
  | .block id x => by simp only [LC.lit, LC.erase, erase_lit x]
  | .loop x => by simp only [LC.lit, LC.erase, erase_lit x]
  | .keep _ x => by simp only [LC.lit, LC.erase, erase_lit x]
  | .join x y => by simp only [LC.lit, LC.erase, erase_lit x, erase_lit y]
  | .regb rid ops => by simp [LC.lit, LC.erase, List.map_map, Function.comp_def]
  | .regc rid ops => by simp [LC.lit, LC.erase, List.map_map, Function.comp_def]
  | .skip | .reg _ _ | .exit _ | .ret | .bad | .regd _ _ _ | .regf _ _ _ | .rege _ _ _ | .regg _ _ _ => rfl

/-! Functions. -/
structure Rv where
  f : Tq V → Hq → Option V
noncomputable def rv1 (x : LRV) : Rv := LRV.rec (motive := fun _ => Rv) (fun k => ⟨fun t _ => some ((acOf V.junk k).g t)⟩) (fun k agg n => ⟨fun t h => qLoad agg n h ((acOf V.junk k).g t)⟩) x
noncomputable def rvL (xs : List LRV) : Tq V → Hq → Option (List V) := List.rec (motive := fun _ => Tq V → Hq → Option (List V)) (fun _ _ => some []) (fun x _ ih t h => Option.rec (motive := fun _ => Option (List V)) none (fun v => Option.rec (motive := fun _ => Option (List V)) none (fun r => some (v :: r)) (ih t h)) ((rv1 x).f t h)) xs
noncomputable def rvT (xs : List LRV) : Rv := ⟨fun t h => Option.rec (motive := fun _ => Option V) none (fun l => some (.tup l)) (rvL xs t h)⟩
noncomputable def rvOf (xs : List LRV) : Rv := List.rec (motive := fun _ => Rv) (rvT []) (fun x r _ => List.rec (motive := fun _ => Rv) (rv1 x) (fun _ _ _ => rvT (x :: r)) r) xs
noncomputable def lrvLo (x : LRV) : Bool := LRV.rec (motive := fun _ => Bool) (fun k => Nat.blt k 100000) (fun k _ _ => Nat.blt k 100000) x
noncomputable def rvLo (xs : List LRV) : Bool := List.rec (motive := fun _ => Bool) true (fun x _ ih => Bool.rec (motive := fun _ => Bool) false ih (lrvLo x)) xs
theorem slot_g {k : Nat} (h : Nat.blt k 100000 = true) (o : Nat → V) (t : Tq V) : (acOf V.junk k).g t = tmQ o t k := by
  rw [nblt, decide_eq_true_eq] at h
  rw [acOf_g (by omega), tmQ, if_pos h]
theorem rv1_ok {x : LRV} {o : Nat → V} {t : Tq V} {h : Hq} {v : V} (hl : lrvLo x = true) (e : (rv1 x).f t h = some v) : rval (denq o t h) x = some v := by
  cases x with
  | tmp k =>
    have e : some ((acOf V.junk k).g t) = some v := e
    rw [slot_g hl o t] at e
    exact e
  | cell k agg n =>
    have e : qLoad agg n h ((acOf V.junk k).g t) = some v := e
    rw [slot_g hl o t] at e
    obtain ⟨pre, h1, h2⟩ := qLoad_ok e
    show (match lload agg n h.H (tmQ o t k) with | .A _ v => some v | _ => none) = some v
    rw [h1]
theorem rvL_ok {o : Nat → V} {t : Tq V} {h : Hq} : ∀ {xs : List LRV} {r : List V}, rvLo xs = true → rvL xs t h = some r → xs.mapM (rval (denq o t h)) = some r
  | [], r, _, e => by cases e; rfl
  | x :: xs, r, hl, e => by
    have hl : Bool.rec (motive := fun _ => Bool) false (rvLo xs) (lrvLo x) = true := hl
    obtain ⟨h1, h2⟩ := bool_and hl
    have e : Option.rec (motive := fun _ => Option (List V)) none (fun v => Option.rec (motive := fun _ => Option (List V)) none (fun r => some (v :: r)) (rvL xs t h)) ((rv1 x).f t h) = some r := e
    cases hx : (rv1 x).f t h with
    | none => rw [hx] at e; cases e
    | some v =>
      rw [hx] at e
      obtain ⟨r', h3, rfl⟩ := rec_some e
      rw [List.mapM_cons, rv1_ok h1 hx, rvL_ok h2 h3]; rfl
theorem rvOf_ok {xs : List LRV} {o : Nat → V} {t : Tq V} {h : Hq} {v : V} (hl : rvLo xs = true) (e : (rvOf xs).f t h = some v) : rvals (denq o t h) xs = some v := by
  have many : ∀ xs : List LRV, rvLo xs = true → (rvT xs).f t h = some v → (xs.mapM (rval (denq o t h))).map V.tup = some v := by
    intro xs hl e
    have e : Option.rec (motive := fun _ => Option V) none (fun l => some (.tup l)) (rvL xs t h) = some v := e
    obtain ⟨l, h1, rfl⟩ := rec_some e
    rw [rvL_ok hl h1]; rfl
  cases xs with
  | nil => exact many [] hl e
  | cons x r =>
    cases r with
    | nil => exact rv1_ok (bool_and hl).1 e
    | cons y r => exact many _ hl e

/-- A frame for a call. -/
noncomputable def frF (args : List V) : Nat → Tq V → Tq V := List.rec (motive := fun _ => Nat → Tq V → Tq V) (fun _ t => t) (fun v _ ih i t => ih (Nat.succ i) ((acOf V.junk i).s v t)) args
theorem frF_get : ∀ (args : List V) (i : Nat) (t : Tq V) (k : Nat), i + args.length < 100000 → (frF args i t).get V.junk k = if i ≤ k ∧ k < i + args.length then args.getD (k - i) .junk else t.get V.junk k
  | [], i, t, k, h => by rw [if_neg (by simp)]; rfl
  | v :: r, i, t, k, h => by
    simp only [List.length_cons] at h
    show (frF r (i + 1) ((acOf V.junk i).s v t)).get V.junk k = _
    rw [frF_get r (i + 1) _ k (by omega), acOf_s (by omega)]
    simp only [List.length_cons]
    by_cases e : k = i
    · subst e
      rw [if_neg (by omega), if_pos rfl, if_pos (by omega), Nat.sub_self]; rfl
    · by_cases h1 : i + 1 ≤ k ∧ k < i + 1 + r.length
      · rw [if_pos h1, if_pos (by omega), show k - i = (k - (i + 1)) + 1 by omega]; rfl
      · rw [if_neg h1, if_neg e, if_neg (by omega)]
/-- A function made ready. -/
inductive Fx where
  | no
  | fn (N : Nat) (cd : Cd) (rv : Rv)
  | ext (run : List V → Hq → Rc)
noncomputable def outC (f : FuncId) (rv : Rv) (r : Rs) : Rc := Rs.rec (motive := fun _ => Rc) (fun n => .err (Bool.rec (motive := fun _ => Nat) n (n + f * 100000000) (Nat.blt n 100000000))) (fun t h => Option.rec (motive := fun _ => Rc) (.err 3) (fun v => .ok v h) (rv.f t h)) (fun _ _ _ => .err 4) (fun t h => Option.rec (motive := fun _ => Rc) (.err 3) (fun v => .ok v h) (rv.f t h)) r
noncomputable def clStep (tb : Tq Fx) (cl : Cl) : Cl := fun f args h => Bool.rec (motive := fun _ => Rc) (.err 7) (Fx.rec (motive := fun _ => Rc) (.err (900000000000 + f)) (fun N cd rv => Bool.rec (motive := fun _ => Rc) (.err 5) (Bool.rec (motive := fun _ => Rc) (.err 5) (outC f rv (cd.run cl (frF args 0 .nil) h)) (Nat.blt (lenA args 0) 100000)) (Nat.ble (lenA args 0) N)) (fun run => run args h) ((acOf Fx.no f).g tb)) (Nat.blt f 1099511627775)
noncomputable def clN (tb : Tq Fx) (n : Nat) : Cl := Nat.rec (motive := fun _ => Cl) (fun _ _ _ => .err 6) (fun _ ih => clStep tb ih) n

def FxOk (P : Program) (f : FuncId) : Fx → Prop
  | .no => True
  | .fn N cd rv => ∃ lc rs, fnData P f = some (N, lc.erase, rs) ∧ cd = comp lc ∧ lc.kinds ∧ rv = rvOf rs ∧ rvLo rs = true
  | .ext run => ∀ args h v h', run args h = .ok v h' → ∀ tm, PSt P f args ⟨tm, h.H, h.c⟩ fun v1 σ1 => v1 = v ∧ σ1 = ⟨tm, h'.H, h'.c⟩
def TbOk (P : Program) (tb : Tq Fx) : Prop := ∀ f, f < 1099511627775 → FxOk P f (tb.get Fx.no f)

theorem outC_ok {f : FuncId} {rv : Rv} {r : Rs} {v : V} {h' : Hq} (e : outC f rv r = .ok v h') : ∃ t, (r = .nm t h' ∨ r = .rt t h') ∧ rv.f t h' = some v := by
  cases r with
  | err n => cases e
  | ex i t h => cases e
  | nm t h =>
    have e : Option.rec (motive := fun _ => Rc) (.err 3) (fun v => .ok v h) (rv.f t h) = .ok v h' := e
    cases hr : rv.f t h with
    | none => rw [hr] at e; cases e
    | some u => rw [hr] at e; cases e; exact ⟨t, .inl rfl, hr⟩
  | rt t h =>
    have e : Option.rec (motive := fun _ => Rc) (.err 3) (fun v => .ok v h) (rv.f t h) = .ok v h' := e
    cases hr : rv.f t h with
    | none => rw [hr] at e; cases e
    | some u => rw [hr] at e; cases e; exact ⟨t, .inr rfl, hr⟩

theorem tmQ_app (o : Nat → V) (t : Tq V) (k : Nat) : tmQ o t k = if k < 100000 then t.get V.junk k else o k := rfl
theorem back_tmQ (args : List V) (tm : Nat → V) (t : Tq V) : backTm (tmQ (callTm args tm) t) = tm := by
  have key1 : ∀ j k, ¬ j < 100000 → (j - 100000) % 2 = 0 → (j - 100000) / 2 = k → k < 100000 → tmQ (callTm args tm) t j = tm k := by
    intro j k h1 h2 h3 h4
    rw [tmQ_app, if_neg h1, callTm_app, if_neg h1, if_pos h2, h3, if_pos h4]
  have key2 : ∀ j k, ¬ j < 100000 → ¬ (j - 100000) % 2 = 0 → 100000 + (j - 100000) / 2 = k → tmQ (callTm args tm) t j = tm k := by
    intro j k h1 h2 h3
    rw [tmQ_app, if_neg h1, callTm_app, if_neg h1, if_neg h2, h3]
  generalize tmQ (callTm args tm) t = f at key1 key2
  funext k
  rw [backTm_app]
  by_cases hk : k < 100000
  · rw [if_pos hk]
    exact key1 _ k (by omega) (by omega) (by omega) hk
  · rw [if_neg hk]
    exact key2 _ k (by omega) (by omega) (by omega)
theorem back_den (args : List V) (tm : Nat → V) (t : Tq V) (h : Hq) : (denq (callTm args tm) t h).back = ⟨tm, h.H, h.c⟩ := by
  show (⟨backTm (tmQ (callTm args tm) t), h.H, h.c⟩ : St) = ⟨tm, h.H, h.c⟩
  rw [back_tmQ]
theorem call_den (args : List V) (tm : Nat → V) (h : Hq) (hl : args.length < 100000) : (⟨tm, h.H, h.c⟩ : St).call args = denq (callTm args tm) (frF args 0 .nil) h := by
  have e : callTm args tm = tmQ (callTm args tm) (frF args 0 .nil) := by
    funext k
    rw [tmQ_app]
    by_cases hk : k < 100000
    · rw [if_pos hk, callTm_app, if_pos hk, frF_get _ _ _ _ (by omega)]
      by_cases h1 : k < args.length
      · rw [if_pos (by omega), Nat.sub_zero]
      · rw [if_neg (by omega), Tq.get_nil, List.getD_eq_getElem?_getD, List.getElem?_eq_none (by omega)]; rfl
    · rw [if_neg hk]
  show (⟨callTm args tm, h.H, h.c⟩ : St) = ⟨tmQ (callTm args tm) (frF args 0 .nil), h.H, h.c⟩
  rw [← e]

theorem fBool {b : Bool} {x : Rc} {n : Nat} {v : V} {h : Hq} (e : Bool.rec (motive := fun _ => Rc) (.err n) x b = .ok v h) : b = true ∧ x = .ok v h := by
  cases b with
  | false => cases e
  | true => exact ⟨rfl, e⟩
theorem clStep_ok {P : Program} {tb : Tq Fx} (hT : TbOk P tb) {cl : Cl} (hcl : ClOk P cl) : ClOk P (clStep tb cl) := by
  intro f args h v h' e tm
  obtain ⟨hf, e⟩ := fBool (n := 7) (x := Fx.rec (motive := fun _ => Rc) (.err (900000000000 + f)) (fun N cd rv => Bool.rec (motive := fun _ => Rc) (.err 5) (Bool.rec (motive := fun _ => Rc) (.err 5) (outC f rv (cd.run cl (frF args 0 .nil) h)) (Nat.blt (lenA args 0) 100000)) (Nat.ble (lenA args 0) N)) (fun run => run args h) ((acOf Fx.no f).g tb)) e
  rw [nblt, decide_eq_true_eq] at hf
  have e : Fx.rec (motive := fun _ => Rc) (.err (900000000000 + f)) (fun N cd rv => Bool.rec (motive := fun _ => Rc) (.err 5) (Bool.rec (motive := fun _ => Rc) (.err 5) (outC f rv (cd.run cl (frF args 0 .nil) h)) (Nat.blt (lenA args 0) 100000)) (Nat.ble (lenA args 0) N)) (fun run => run args h) ((acOf Fx.no f).g tb) = .ok v h' := e
  rw [acOf_g hf] at e
  have ht := hT f hf
  cases hx : tb.get Fx.no f with
  | no => rw [hx] at e; cases e
  | ext run => rw [hx] at e ht; exact ht args h v h' e tm
  | fn N cd rv =>
    rw [hx] at e ht
    obtain ⟨lc, rs, hd, rfl, hk, rfl, hr⟩ := ht
    obtain ⟨c1, e⟩ := fBool e
    obtain ⟨c2, e⟩ := fBool e
    rw [lenA_eq, Nat.add_zero] at c1 c2
    have c1 := nble_le c1
    rw [nblt, decide_eq_true_eq] at c2
    obtain ⟨t, hrs, hv⟩ := outC_ok e
    refine pst_intro hd c1 ?_
    rw [call_den args tm h c2]
    refine comp_ok hcl lc hk _ _ _ _ ?_
    have hv := rvOf_ok (o := callTm args tm) hr hv
    rcases hrs with hrs | hrs
    · rw [hrs]; exact ⟨v, hv, rfl, back_den _ _ _ _⟩
    · rw [hrs]; exact ⟨v, hv, rfl, back_den _ _ _ _⟩
theorem clN_ok {P : Program} {tb : Tq Fx} (hT : TbOk P tb) : ∀ n, ClOk P (clN tb n)
  | 0 => fun _ _ _ _ _ e => by cases e
  | n + 1 => clStep_ok hT (clN_ok hT n)

/-- The table of functions. -/
noncomputable def tbPut (f : FuncId) (x : Fx) (tb : Tq Fx) : Tq Fx := (acOf Fx.no f).s x tb
noncomputable def fxOf (N : Nat) (lc : LC) (rs : List LRV) : Fx := .fn N (comp lc.lit) (rvOf rs)
theorem tb_nil {P : Program} : TbOk P .nil := fun _ _ => trivial
theorem tb_put {P : Program} {f : FuncId} {x : Fx} {tb : Tq Fx} (hT : TbOk P tb) (hf : Nat.blt f 1099511627775 = true) (hx : FxOk P f x) : TbOk P (tbPut f x tb) := by
  intro g hg
  rw [nblt, decide_eq_true_eq] at hf
  unfold tbPut
  rw [acOf_s hf]
  split
  · rename_i e; subst e; exact hx
  · exact hT g hg
theorem fx_fn {P : Program} {f N : Nat} {lc : LC} {rs : List LRV} (hd : fnData P f = some (N, lc.erase, rs)) (hr : rvLo rs = true) : FxOk P f (fxOf N lc rs) := ⟨lc.lit, rs, by rw [erase_lit]; exact hd, rfl, lit_kinds lc, rfl, hr⟩

/-- What a function hands back, reckoned. -/
noncomputable def retQ (r : Rc) : Option V := Rc.rec (motive := fun _ => Option V) (fun _ => none) (fun v h => snQ 8 h v) r
theorem ret_of_cl {P : Program} {cl : Cl} (hcl : ClOk P cl) {f : FuncId} {args : List V} {r : V} (e : retQ (cl f args .nil) = some r) : PRet P f args r := by
  cases hc : cl f args .nil with
  | err n => rw [hc] at e; cases e
  | ok u h2 =>
    rw [hc] at e
    have e : snQ 8 h2 u = some r := e
    have hp := hcl f _ _ u h2 hc fun _ => .junk
    rw [nilH, nilC] at hp
    exact pret_of_pst hp (by rintro v σ ⟨rfl, rfl⟩; exact (snQ_ok 8 h2 _ r e).2)
noncomputable def isTrue (r : Option V) : Bool := Option.rec (motive := fun _ => Bool) false (fun v => B6.rec (motive := fun _ => Bool) false (fun b => b) (asB v)) r
theorem isTrue_ok {r : Option V} (h : isTrue r = true) : r = some (.bool true) := by
  cases r with
  | none => cases h
  | some v =>
    have h : B6.rec (motive := fun _ => Bool) false (fun b => b) (asB v) = true := h
    cases hb : asB v with
    | no => rw [hb] at h; cases h
    | ok b => rw [hb] at h; rw [asB_ok hb]; cases h; rfl
theorem true_of_cl {P : Program} {tb : Tq Fx} (hT : TbOk P tb) (n : Nat) {f : FuncId} {args : List V} (e : isTrue (retQ (clN tb n f args .nil)) = true) : PRet P f args (.bool true) := ret_of_cl (clN_ok hT n) (isTrue_ok e)
end Go.Lg
