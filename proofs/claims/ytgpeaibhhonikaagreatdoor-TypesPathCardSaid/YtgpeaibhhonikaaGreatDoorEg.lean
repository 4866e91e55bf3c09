/-
  The reckoning: steps of regions, regions.
-/
import Derived.Test.YtgpeaibhhonikaaGreatDoorEk
set_option linter.unusedSimpArgs false
set_option linter.unusedVariables false
namespace Go.Lg
open Go Go.RowKit

inductive Rs where
  | err (n : Nat)
  | nm (t : Tq V) (h : Hq)
  | ex (i : Nat) (t : Tq V) (h : Hq)
  | rt (t : Tq V) (h : Hq)
structure Cd where
  run : Cl → Tq V → Hq → Rs

/-- A step of a region that is run in the text's order. -/
noncomputable def obC0 (s : Nat) (d : Option Nat) (op : IOp) : Ob := match op with
  | .call f args => ck (llo args) (obCl (dbOf d) f (lbOf args))
  | .callv x args => ck (rlo x && llo args) (obCv (dbOf d) (rbOf x) (lbOf args))
  | .app esz bytes x y => ck (rlo x && rlo y) (obAp (dbOf d) s esz bytes (rbOf x) (rbOf y))
  | op => obP s d op
/-- A step of a region whose order is drawn. -/
noncomputable def obD0 (s : Nat) (d : Option Nat) (op : IOp) : Ob := match op with
  | .call f args => ck (llo args) (obPc (dbOf d) f (lbOf args))
  | .callv x args => ck (rlo x && llo args) (obPv (dbOf d) (rbOf x) (lbOf args))
  | op => obP s d op
section
variable {P : Program} {s : Nat} {d : Option Nat}
theorem obC0_ok (hd : dlo d = true) (op : IOp) : ObOkC P s d op (obC0 s d op) := by
  cases op <;> simp only [obC0] <;> try (exact okC_of (obP_ok hd _))
  case call f args => exact ckC fun hl => obCl_ok hd hl
  case callv x args =>
    refine ckC fun hl => ?_
    simp only [Bool.and_eq_true] at hl
    exact obCv_ok hd hl.1 hl.2
  case app esz bytes x y =>
    refine ckC fun hl => ?_
    simp only [Bool.and_eq_true] at hl
    exact obAp_ok hd hl.1 hl.2
theorem obD0_ok (hd : dlo d = true) (op : IOp) : ObOkD P s d op (obD0 s d op) := by
  cases op <;> simp only [obD0] <;> try (exact okD_of (obP_ok hd _))
  case call f args => exact ckD fun hl => obPc_ok hd hl
  case callv x args =>
    refine ckD fun hl => ?_
    simp only [Bool.and_eq_true] at hl
    exact obPv_ok hd hl.1 hl.2
end

/-- A step with its guard; which literals are objects of the call's own: 1: this one; 3: this one, if it has to be. -/
noncomputable def obLit (s : Nat) (o : LOp) : Ob := match o.guard, o.op with
  | none, .bsl n zs ps => ck (plo ps && bNot (Nat.beq n 0)) (obLi (dbOf o.dst) s n zs (flOf ps))
  | _, _ => obErr
noncomputable def obN (s : Nat) (o : LOp) : Ob := obG o.guard o.dst (obC0 s o.dst o.op)
noncomputable def obOr (a b : Ob) : Ob := ⟨fun cl t h => Ro.rec (motive := fun _ => Ro) (fun _ => b.run cl t h) (fun t h => .ok t h) (a.run cl t h)⟩
noncomputable def obW (s : Nat) (k : Nat) (o : LOp) : Ob := match k with
  | 0 => obErr
  | 1 => obLit s o
  | 2 => obN s o
  | 3 => obOr (obN s o) (obLit s o)
  | _ => obLit s o
noncomputable def obK (s : Nat) (k : Nat) (o : LOp) : Ob := Bool.rec (motive := fun _ => Ob) obErr (obW s k o) (dlo o.dst)
noncomputable def obQ (s : Nat) (o : LOp) : Ob := ck (dlo o.dst) (obG o.guard o.dst (obD0 s o.dst o.op))
noncomputable def cdCons (s : Nat) (b : Ob) (k : Cd) : Cd := ⟨fun cl t h => Ro.rec (motive := fun _ => Rs) (fun n => .err (Nat.rec (motive := fun _ => Nat) s (fun _ _ => n) n)) (fun t h => k.run cl t h) (b.run cl t h)⟩
noncomputable def cdNil : Cd := ⟨fun _ t h => .nm t h⟩
noncomputable def cdC (rid : Nat) (ops : List (Nat × LOp)) : Nat → Cd := List.rec (motive := fun _ => Nat → Cd) (fun _ => cdNil) (fun p _ ih i => cdCons (siteOf rid i) (obK (siteOf rid i) p.1 p.2) (ih (i + 1))) ops
noncomputable def cdD (rid : Nat) (ops : List LOp) : Nat → Cd := List.rec (motive := fun _ => Nat → Cd) (fun _ => cdNil) (fun o _ ih i => cdCons (siteOf rid i) (obQ (siteOf rid i) o) (ih (i + 1))) ops

section
variable {P : Program} {cl : Cl}
theorem cons_ok {s : Nat} {b : Ob} {k : Cd} {t : Tq V} {h : Hq} {r : Rs} (e : (cdCons s b k).run cl t h = r) : (∃ n, r = .err n) ∨ ∃ t1 h1, b.run cl t h = .ok t1 h1 ∧ k.run cl t1 h1 = r := by
  have e : Ro.rec (motive := fun _ => Rs) (fun n => .err (Nat.rec (motive := fun _ => Nat) s (fun _ _ => n) n)) (fun t h => k.run cl t h) (b.run cl t h) = r := e
  cases hb : b.run cl t h with
  | err n => rw [hb] at e; exact .inl ⟨_, e.symm⟩
  | ok t1 h1 => rw [hb] at e; exact .inr ⟨t1, h1, rfl, e⟩
theorem obLit_ok {s : Nat} {p : LOp} (hd : dlo p.dst = true) (o : Nat → V) (t : Tq V) (h : Hq) (t' : Tq V) (h' : Hq) (e : (obLit s p).run cl t h = .ok t' h') (K : St → Prop) (hK : K (denq o t' h')) : vstepL P s p K (denq o t h) := by
  obtain ⟨d, op, g⟩ := p
  cases g with
  | some g => cases op <;> cases e
  | none =>
    cases op <;> try (cases e; done)
    rename_i n zs ps
    have e : (ck (plo ps && bNot (Nat.beq n 0)) (obLi (dbOf d) s n zs (flOf ps))).run cl t h = .ok t' h' := e
    cases hc : (plo ps && bNot (Nat.beq n 0)) with
    | false => rw [hc] at e; cases e
    | true =>
      rw [hc] at e
      simp only [Bool.and_eq_true, bNot_eq, Bool.not_eq_true'] at hc
      exact obLi_ok hd hc.1 (Nat.ne_of_beq_eq_false hc.2) cl o t h t' h' e K hK
theorem obK_ok {cl : Cl} (hcl : ClOk P cl) {s k : Nat} {p : LOp} (o : Nat → V) (t : Tq V) (h : Hq) (t' : Tq V) (h' : Hq) (e : (obK s k p).run cl t h = .ok t' h') (K : St → Prop) (hK : K (denq o t' h')) : vstepC P s p K (denq o t h) := by
  have e : (Bool.rec (motive := fun _ => Ob) obErr (obW s k p) (dlo p.dst) : Ob).run cl t h = .ok t' h' := e
  cases hd : dlo p.dst with
  | false => rw [hd] at e; cases e
  | true =>
    rw [hd] at e
    have e : (obW s k p).run cl t h = .ok t' h' := e
    have lit : ∀ t' h', (obLit s p).run cl t h = .ok t' h' → K (denq o t' h') → vstepC P s p K (denq o t h) := fun t' h' e hK => ⟨_, Ent.refl _, .inr (.inr (obLit_ok hd o t h t' h' e K hK))⟩
    have nrm : ∀ t' h', (obN s p).run cl t h = .ok t' h' → K (denq o t' h') → vstepC P s p K (denq o t h) := fun t' h' e hK => gdC hd (obC0_ok hd p.op) cl hcl o t h t' h' e K hK
    unfold obW at e
    split at e
    · cases e
    · exact lit t' h' e hK
    · exact nrm t' h' e hK
    · have e : Ro.rec (motive := fun _ => Ro) (fun _ => (obLit s p).run cl t h) (fun t h => .ok t h) ((obN s p).run cl t h) = .ok t' h' := e
      cases hn : (obN s p).run cl t h with
      | err n => rw [hn] at e; exact lit t' h' e hK
      | ok t1 h1 => rw [hn] at e; cases e; exact nrm _ _ hn hK
    · exact lit t' h' e hK
theorem obQ_ok {cl : Cl} (hcl : ClOk P cl) {s : Nat} {p : LOp} (o : Nat → V) (t : Tq V) (h : Hq) (t' : Tq V) (h' : Hq) (e : (obQ s p).run cl t h = .ok t' h') (K : St → Prop) (hK : K (denq o t' h')) : vstep P s p K (denq o t h) := by
  have e : (ck (dlo p.dst) (obG p.guard p.dst (obD0 s p.dst p.op))).run cl t h = .ok t' h' := e
  cases hd : dlo p.dst with
  | false => rw [hd] at e; cases e
  | true => rw [hd] at e; exact gdD hd (obD0_ok hd p.op) cl hcl o t h t' h' e K hK
/-- Each literal's kind is 2 or more for 'regc'. -/
def kOk : List (Nat × LOp) → Prop
  | [] => True
  | p :: r => 2 ≤ p.1 ∧ kOk r
theorem cdC_ok {cl : Cl} (hcl : ClOk P cl) {rid : Nat} (o : Nat → V) : ∀ (ops : List (Nat × LOp)) (i : Nat) (t : Tq V) (h : Hq) (r : Rs), kOk ops → (cdC rid ops i).run cl t h = r → (∃ n, r = .err n) ∨ ∃ t' h', r = .nm t' h' ∧ ∀ K : St → Prop, K (denq o t' h') → vopsC P rid ops i K (denq o t h)
  | [], i, t, h, r, _, e => .inr ⟨t, h, e.symm, fun K hK => hK⟩
  | (k, p) :: ops, i, t, h, r, hk, e => by
    have e : (cdCons (siteOf rid i) (obK (siteOf rid i) k p) (cdC rid ops (i + 1))).run cl t h = r := e
    rcases cons_ok e with he | ⟨t1, h1, e1, e2⟩
    · exact .inl he
    · rcases cdC_ok hcl o ops (i + 1) t1 h1 r hk.2 e2 with he | ⟨t', h', rfl, h3⟩
      · exact .inl he
      · refine .inr ⟨t', h', rfl, fun K hK => ?_⟩
        obtain ⟨k, rfl⟩ : ∃ j, k = j + 2 := ⟨k - 2, by have := hk.1; simp only at this; omega⟩
        exact obK_ok hcl o t h t1 h1 e1 _ (h3 K hK)
theorem cdD_ok {cl : Cl} (hcl : ClOk P cl) {rid : Nat} (o : Nat → V) : ∀ (ops : List LOp) (i : Nat) (t : Tq V) (h : Hq) (r : Rs), (cdD rid ops i).run cl t h = r → (∃ n, r = .err n) ∨ ∃ t' h', r = .nm t' h' ∧ ∀ K : St → Prop, K (denq o t' h') → vops P rid ops i K (denq o t h)
  | [], i, t, h, r, e => .inr ⟨t, h, e.symm, fun K hK => hK⟩
  | p :: ops, i, t, h, r, e => by
    have e : (cdCons (siteOf rid i) (obQ (siteOf rid i) p) (cdD rid ops (i + 1))).run cl t h = r := e
    rcases cons_ok e with he | ⟨t1, h1, e1, e2⟩
    · exact .inl he
    · rcases cdD_ok hcl o ops (i + 1) t1 h1 r e2 with he | ⟨t', h', rfl, h3⟩
      · exact .inl he
      · refine .inr ⟨t', h', rfl, fun K hK => ?_⟩
        exact obQ_ok hcl o t h t1 h1 e1 _ (h3 K hK)
end

end Go.Lg
