/-
  The reckoning of regions whose operations touch memory in a drawn order.
-/
import Derived.Test.YtgpeaibhhonikaaGreatDoorEg
set_option linter.unusedSimpArgs false
set_option linter.unusedVariables false
namespace Go.Lg
open Go Go.RowKit

inductive D6 where
  | err (n : Nat)
  | ok (t : Tq V) (h : Hq) (f : Fp)
noncomputable def d6Of (f : Fp) (r : Ro) : D6 := Ro.rec (motive := fun _ => D6) (fun n => .err n) (fun t h => .ok t h f) r
/-- Is it a call? -/
def isCall : IOp → Bool
  | .call .. | .callv .. => true
  | _ => false
/-! A call that works on no object: what is read, told alone. -/
def hL (L : List (Key × LObj)) : Heap := fun k => (L.find? fun p => Nat.beq p.1.1 k.1 && Nat.beq p.1.2 k.2).map (·.2)
theorem hL_sub {L : List (Key × LObj)} {H : Heap} (h : ∀ p ∈ L, H p.1 = some p.2) : Heap.sub (hL L) H := by
  intro k o ho
  simp only [hL, Option.map_eq_some_iff] at ho
  obtain ⟨p, hp, rfl⟩ := ho
  have h1 := List.find?_some hp
  simp only [Bool.and_eq_true] at h1
  have h2 : p.1 = k := Prod.ext (Nat.eq_of_beq_eq_true h1.1) (Nat.eq_of_beq_eq_true h1.2)
  rw [← h2]
  exact h p (List.mem_of_find?_eq_some hp)
noncomputable def rchQ (h : Hq) : Nat → V → List Key
  | 0, _ => []
  | d + 1, .msl key _ _ _ => key :: Option.rec (motive := fun _ => List Key) [] (fun o => match o with | .row _ _ cs => cs.flatMap (rchQ h d) | .map es => es.flatMap fun e => rchQ h d e.1 ++ rchQ h d e.2) (hgetS h key)
  | d + 1, .mp key _ _ => key :: Option.rec (motive := fun _ => List Key) [] (fun o => match o with | .row _ _ cs => cs.flatMap (rchQ h d) | .map es => es.flatMap fun e => rchQ h d e.1 ++ rchQ h d e.2) (hgetS h key)
  | d + 1, .mm key => key :: Option.rec (motive := fun _ => List Key) [] (fun o => match o with | .row _ _ cs => cs.flatMap (rchQ h d) | .map es => es.flatMap fun e => rchQ h d e.1 ++ rchQ h d e.2) (hgetS h key)
  | d + 1, .agg cs => cs.flatMap (rchQ h d)
  | d + 1, .tup cs => cs.flatMap (rchQ h d)
  | d + 1, .fn _ cs => cs.flatMap (rchQ h d)
  | d + 1, .ifc _ v => rchQ h d v
  | _ + 1, _ => []
noncomputable def cOk : IOp → Bool
  | .call _ a => llo a
  | .callv x a => rlo x && llo a
  | _ => false
noncomputable def caQ (op : IOp) (t : Tq V) : List V := match op with
  | .call _ a => (lbOf a).f t
  | .callv x a => F6.rec (motive := fun _ => List V) [] (fun _ cap => (lbOf a).f t ++ cap) (asF ((rbOf x).g t))
  | _ => []
noncomputable def dynP (s : Nat) (p : LOp) (cl : Cl) (t : Tq V) (h : Hq) : D6 := Bool.rec (motive := fun _ => D6) (.err 13) (Option.rec (motive := fun _ => D6) (.err 14) (fun L => Bool.rec (motive := fun _ => D6) (.err 15) (Ro.rec (motive := fun _ => D6) (fun n => .err n) (fun t' h' => .ok t' h' ⟨L, [], none⟩) ((obQ s p).run cl t h)) (allF (sok (hL L) 8) (caQ p.op t))) (thereQ h ((caQ p.op t).flatMap (rchQ h 8)))) (cOk p.op)
/-- append to a slice that was cut: the object's later cells are forgotten. -/
noncomputable def dynA (s : Nat) (p : LOp) (cl : Cl) (t : Tq V) (h : Hq) : D6 := match p.guard, p.op with
  | none, .app esz bytes x y => Bool.rec (motive := fun _ => D6) (.err 17) (Option.rec (motive := fun _ => D6) (.err 18) (fun R => Ro.rec (motive := fun _ => D6) (fun n => .err n) (fun t' h' => .ok t' h' ⟨R, kbW p.op s t (h.c s), none⟩) ((obAp (dbOf p.dst) s esz bytes (rbOf x) (rbOf y)).run cl t h)) (thereQ h ((kbR p.op).f t))) (dlo p.dst && (rlo x && rlo y))
  | _, _ => .err 19
noncomputable def d6Or (a b : D6) : D6 := D6.rec (motive := fun _ => D6) (fun _ => b) (fun t h f => .ok t h f) a
/-- One step, and what it read and turned. -/
noncomputable def dynS (m : Bool) (s : Nat) (p : LOp) (cl : Cl) (t : Tq V) (h : Hq) : D6 := Bool.rec (motive := fun _ => D6)
  (Option.rec (motive := fun _ => D6) (.err 12) (fun R => Ro.rec (motive := fun _ => D6) (fun n => d6Or (d6Of ⟨[], [(s, h.c s)], none⟩ ((ck (dlo p.dst) (obLit s p)).run cl t h)) (dynA s p cl t h)) (fun t' h' => .ok t' h' ⟨R, kbW p.op s t (h.c s), none⟩) ((obQ s p).run cl t h)) (thereQ h ((kbR p.op).f t)))
  (Bool.rec (motive := fun _ => D6) (Ro.rec (motive := fun _ => D6) (fun n => .err n) (fun t' h' => .ok t' h' ⟨[], [], some (h, h')⟩) ((ck (dlo p.dst) (obN s p)).run cl t h)) (dynP s p cl t h) m) (isCall p.op)
noncomputable def dynR (m : Bool) (rid : Nat) (ops : List LOp) : Nat → Cl → Tq V → Hq → Rd6 := List.rec (motive := fun _ => Nat → Cl → Tq V → Hq → Rd6) (fun _ _ t h => .ok t h [])
  (fun p _ ih i cl t h => D6.rec (motive := fun _ => Rd6) (fun n => .err (Nat.rec (motive := fun _ => Nat) (siteOf rid i) (fun _ _ => n) n)) (fun t' h' f => Rd6.rec (motive := fun _ => Rd6) (fun n => .err n) (fun t'' h'' fs => .ok t'' h'' (f :: fs)) (ih (i + 1) cl t' h')) (dynS m (siteOf rid i) p cl t h)) ops
def fpAt (fs : List Fp) (i : Nat) : Fp := fs.getD i ⟨[], [], none⟩
def disjK (a b : List Key) : Bool := a.all fun k => b.all fun k' => !(Nat.beq k.1 k'.1 && Nat.beq k.2 k'.2)
def calmF (f : Fp) : Bool := f.big.isNone && (f.R.isEmpty && f.W.isEmpty)
noncomputable def stillF (a b : Fp) : Bool := Option.rec (motive := fun _ => Bool) false (fun p => b.big.isNone && (b.W.isEmpty && (stillQ p.1 b.R && stillQ p.2 b.R))) a.big
noncomputable def fpOk (a b : Fp) : Bool := calmF a || (calmF b || (stillF a b || (stillF b a || (a.big.isNone && (b.big.isNone && (disjK a.W (b.R.map (·.1)) && (disjK a.W b.W && disjK b.W (a.R.map (·.1)))))))))
noncomputable def dpOk (bs : List Nat) (ops : List LOp) (fs : List Fp) : Bool := (List.range ops.length).all fun i => (List.range i).all fun j => (bs.getD i 0).testBit j || (apartO (loAt ops j) (loAt ops i) && fpOk (fpAt fs j) (fpAt fs i))
noncomputable def dynAll (ops : List LOp) : Bool := List.rec (motive := fun _ => Bool) true (fun p _ ih => Bool.rec (motive := fun _ => Bool) false ih ((isCall p.op || dynOp p.op) && dlo2 p.op)) ops
noncomputable def cdF (rid : Nat) (bs : List Nat) (ops : List LOp) (no : Cl → Tq V → Hq → Rs) (m : Bool) (cl : Cl) (t : Tq V) (h : Hq) : Rs := Rd6.rec (motive := fun _ => Rs) (fun n => .err n) (fun t' h' fs => Bool.rec (motive := fun _ => Rs) (no cl t h) (.nm t' h') (dpOk bs ops fs)) (dynR m rid ops 0 cl t h)
noncomputable def cdE (rid : Nat) (bs : List Nat) (ops : List LOp) : Cd := Bool.rec (motive := fun _ => Cd) ⟨fun _ _ _ => .err (siteOf rid 4000)⟩ ⟨fun cl t h => cdF rid bs ops (fun cl t h => cdF rid bs ops (fun _ _ _ => .err (siteOf rid 4001)) true cl t h) false cl t h⟩ (dynAll ops)

theorem disjK_ok {a b : List Key} (h : disjK a b = true) : ∀ k ∈ a, k ∉ b := by
  intro k hk hb
  have := List.all_eq_true.1 (List.all_eq_true.1 h k hk) k hb
  simp [nbeq] at this
theorem runE_congr {rid : Nat} {lo : Nat → LOp} {ev ev' : Nat → Ev} : ∀ {l : List Nat} {σ σ' : St}, (∀ i ∈ l, ev' i = ev i) → RunE rid lo ev l σ σ' → RunE rid lo ev' l σ σ'
  | [], _, _, _, h => h
  | i :: l, σ, σ', he, h => by
    have hi := he i (List.mem_cons_self ..)
    refine ⟨by rw [hi]; exact h.1, ?_⟩
    rw [hi]
    exact runE_congr (fun j hj => he j (List.mem_cons_of_mem _ hj)) h.2

section
variable {P : Program}
theorem vstepC_of_LStep {s : Nat} {o : LOp} {σ σ' : St} (h : LStep P s o σ σ') {K : St → Prop} (hK : K σ') : vstepC P s o K σ := by
  have h1 : vstep P s o K σ := vstep_iff.2 ⟨σ', h, hK⟩
  refine ⟨σ, Ent.refl _, .inl ?_⟩
  unfold vstep at h1
  unfold vstepM
  cases hg : gd σ.tm o.guard with
  | none => rw [hg] at h1; exact h1.elim
  | some b =>
    rw [hg] at h1
    cases b with
    | true => exact vresM_of_vres h1
    | false => exact h1

/-- What is known of an event. -/
def EvFp (e : Ev) (f : Fp) : Prop := e.rd = f.R ∧ (∀ k ∈ kw e, k ∈ f.W) ∧ (f.big = none → e.big = none) ∧ (e.w = none → e.nw = false) ∧ ∀ p, f.big = some p → (f.R = [] ∧ f.W = []) ∧ (e.big = none ∨ e.big = some ⟨p.1.H, p.1.c, p.2.H, p.2.c⟩)
/-- One step as an event. -/
theorem ev_of_step {s : Nat} {p : LOp} {σ0 σ1 : St} {R W : List Key} (hop : dynOp p.op = true) (hnc : isCall p.op = false) (hR : R = rdK p.op σ0.tm) (hW : W = wrK p.op σ0.tm s (σ0.cnt s)) (hp : ∀ k ∈ R, ∃ o, σ0.H k = some o)
    (h : LStep P s p σ0 σ1) :
    ∃ e : Ev, EvOk P s p e ∧ rdyE s p e σ0 ∧ apE s p.dst e σ0 = σ1 ∧ EvFp e ⟨there σ0.H R, W, none⟩ := by
  have hrr : ∀ q ∈ there σ0.H R, σ0.H q.1 = some q.2 := fun q hq => (there_mem hq).2
  rcases h with ⟨hg, v, σ', hr, rfl⟩ | ⟨hg, rfl⟩
  · have key : ∀ σ : St, (∀ t ∈ p.slots, σ.tm t = σ0.tm t) → (∀ q ∈ there σ0.H R, σ.H q.1 = some q.2) → gd σ.tm p.guard = some true ∧ SameL (s, σ0.cnt s) W σ0.H σ.H (lop p.op σ0.tm σ0.H) (lop p.op σ.tm σ.H) := by
      intro σ t1 t2
      refine ⟨by rw [gd_congr t1]; exact hg, ?_⟩
      rw [op_congr t1, hW]
      exact lop_same hop fun k hk => there_all hp t2 k (hR ▸ hk)
    cases hl : lop p.op σ0.tm σ0.H with
    | bad => rw [hl] at hr; exact hr.elim
    | call pre f a b =>
      have := (key σ0 (fun _ _ => rfl) hrr).2
      rw [hl] at this; exact this.elim
    | A pre u =>
      rw [hl] at hr
      obtain ⟨r1, rfl, rfl⟩ := hr
      refine ⟨⟨v, there σ'.H R, none, false, σ'.tm, none⟩, ?_, ⟨⟨fun _ _ => rfl, hrr, fun h => (by cases h)⟩, fun b h => (by cases h)⟩, rfl, rfl, fun k h => (by cases h), fun _ => rfl, fun _ => rfl, fun _ h => (by cases h)⟩
      rintro σ ⟨⟨t1, t2, t3⟩, _⟩ K hK
      obtain ⟨k1, k2⟩ := key σ t1 t2
      rw [hl] at k2
      have k2 : lop p.op σ.tm σ.H = .A pre v := k2
      exact vstepC_of_LStep (.inl ⟨k1, v, σ, by rw [k2]; exact ⟨r1, rfl, rfl⟩, rfl⟩) hK
    | C pre ob mk =>
      rw [hl] at hr
      obtain ⟨r1, rfl, rfl⟩ := hr
      have kw0 : (s, σ0.cnt s) ∈ W := by
        have := (key σ0 (fun _ _ => rfl) hrr).2
        rw [hl] at this; exact this.1
      refine ⟨⟨mk (s, σ0.cnt s), there σ0.H R, some ((s, σ0.cnt s), ob), true, σ0.tm, none⟩, ?_, ⟨⟨fun _ _ => rfl, hrr, fun _ p hp => (by cases hp; rfl)⟩, fun b h => (by cases h)⟩, rfl, rfl, fun k h => ?_, fun _ => rfl, fun h => (by cases h), fun _ h => (by cases h)⟩
      · rintro σ ⟨⟨t1, t2, t3⟩, _⟩ K hK
        obtain ⟨k1, k2⟩ := key σ t1 t2
        rw [hl] at k2
        have k2 : lop p.op σ.tm σ.H = .C pre ob mk := k2.2
        have hk : (s, σ0.cnt s) = (s, σ.cnt s) := t3 rfl _ rfl
        refine vstepC_of_LStep (.inl ⟨k1, mk (s, σ.cnt s), _, by rw [k2]; exact ⟨r1, rfl, rfl⟩, rfl⟩) ?_
        have hK : K (St.put ⟨σ.tm, hupd σ.H (s, σ0.cnt s) ob, cupd σ.cnt s⟩ p.dst (mk (s, σ0.cnt s))) := hK
        rw [hk] at hK
        exact hK
      · simp only [kw, List.mem_singleton] at h
        rw [h]; exact kw0
    | D pre u H1 =>
      rw [hl] at hr
      obtain ⟨r1, rfl, rfl⟩ := hr
      obtain ⟨k, ob, hk, rfl, hall⟩ := lop_sameD (s := s) (n := σ0.cnt s) hl
      rw [← hW] at hk
      refine ⟨⟨v, there σ0.H R, some (k, ob), false, σ0.tm, none⟩, ?_, ⟨⟨fun _ _ => rfl, hrr, fun h => (by cases h)⟩, fun b h => (by cases h)⟩, rfl, rfl, fun k' h => ?_, fun _ => rfl, fun h => (by cases h), fun _ h => (by cases h)⟩
      · rintro σ ⟨⟨t1, t2, t3⟩, _⟩ K hK
        obtain ⟨k1, _⟩ := key σ t1 t2
        have k2 : lop p.op σ.tm σ.H = .D pre v (hupd σ.H k ob) := by
          rw [op_congr t1]
          exact hall σ.H fun k' hk' => there_all hp t2 k' (hR ▸ hk')
        exact vstepC_of_LStep (.inl ⟨k1, v, _, by rw [k2]; exact ⟨r1, rfl, rfl⟩, rfl⟩) hK
      · simp only [kw, List.mem_singleton] at h
        rw [h]; exact hk
  · refine ⟨⟨.tup [], there σ0.H R, none, false, σ0.tm, none⟩, ?_, ⟨⟨fun _ _ => rfl, hrr, fun h => (by cases h)⟩, fun b h => (by cases h)⟩, rfl, rfl, fun k h => (by cases h), fun _ => rfl, fun _ => rfl, fun _ h => (by cases h)⟩
    rintro σ ⟨⟨t1, t2, t3⟩, _⟩ K hK
    exact vstepC_of_LStep (.inr ⟨by rw [gd_congr t1]; exact hg, rfl⟩) hK
/-- A call that is walked into, as an event. -/
theorem ev_of_call {s : Nat} {p : LOp} {o : Nat → V} {t t' : Tq V} {h h' : Hq} {cl : Cl} (hcl : ClOk P cl) {f : FuncId} {args sargs : List V} {pre : Prop} {v : V} (hd : dlo p.dst = true) (hg : gd (tmQ o t) p.guard = some true)
    (hl : lop p.op (tmQ o t) h.H = .call pre f args sargs) (hc : cl f args h = .ok v h') (ht : t' = (dbOf p.dst).s v t) :
    ∃ e : Ev, EvOk P s p e ∧ rdyE s p e (denq o t h) ∧ apE s p.dst e (denq o t h) = denq o t' h' ∧ EvFp e ⟨[], [], some (h, h')⟩ := by
  subst ht
  refine ⟨⟨v, [], none, false, tmQ o t, some ⟨h.H, h.c, h'.H, h'.c⟩⟩, ?_, ⟨⟨fun _ _ => rfl, fun _ h => (by cases h), fun h => (by cases h)⟩, fun b hb => (by cases hb; exact ⟨rfl, rfl⟩)⟩, (denq_put hd o t v h').symm, rfl, fun k h => (by cases h), fun h => (by cases h), fun _ => rfl, fun p hp => (by cases hp; exact ⟨⟨rfl, rfl⟩, .inr rfl⟩)⟩
  rintro ⟨tm, H, c⟩ ⟨⟨t1, _, _⟩, t4⟩ K hK
  obtain ⟨e1, e2⟩ := t4 _ rfl
  have e1 : H = h.H := e1
  have e2 : c = h.c := e2
  subst e1 e2
  have t1 : ∀ t' ∈ p.slots, tm t' = tmQ o t t' := t1
  refine ⟨_, Ent.refl _, .inr (.inl ⟨?_, pre, f, args, sargs, ?_, _, hcl f args h v h' hc tm, ?_⟩)⟩
  · show gd tm p.guard = some true
    rw [gd_congr t1]; exact hg
  · show lop p.op tm h.H = _
    rw [op_congr t1]; exact hl
  · rintro v1 σ1 ⟨rfl, rfl⟩; exact hK
theorem litR_congr {op : IOp} {tm tm' : Nat → V} (h : ∀ t ∈ op.slots, tm' t = tm t) : litR op tm' = litR op tm := by
  cases op <;> try rfl
  case bsl n zs ps => simp only [litR, (parts_congr (cs := zs) (n := 0) h).1, (parts_congr (cs := zs) (n := zs.length) h).2]
/-- A literal of the call's own, as an event. -/
theorem ev_of_lit {s : Nat} {p : LOp} {cl : Cl} {o : Nat → V} {t t' : Tq V} {h h' : Hq} (hd : dlo p.dst = true) (e : (obLit s p).run cl t h = .ok t' h') :
    ∃ e : Ev, EvOk P s p e ∧ rdyE s p e (denq o t h) ∧ apE s p.dst e (denq o t h) = denq o t' h' ∧ EvFp e ⟨[], [(s, h.c s)], none⟩ := by
  have hv : vstepL P s p (fun σ => σ = denq o t' h') (denq o t h) := obLit_ok (P := P) hd o t h t' h' e _ rfl
  obtain ⟨d, op, g⟩ := p
  cases g with
  | some g => exact hv.elim
  | none =>
    have hv : vres P (denq o t h) s d (fun σ => σ = denq o t' h') (litR op (tmQ o t)) := hv
    have hcg : ∀ tm : Nat → V, (∀ t' ∈ (⟨d, op, none⟩ : LOp).slots, tm t' = tmQ o t t') → litR op tm = litR op (tmQ o t) := by
      intro tm ht
      exact litR_congr fun t' h' => ht t' (by simp only [LOp.slots, List.mem_append]; exact .inr h')
    cases hl : litR op (tmQ o t) with
    | bad => rw [hl] at hv; exact hv.elim
    | A pre u => unfold litR at hl; repeat' split at hl
                 all_goals cases hl
    | D pre u H => unfold litR at hl; repeat' split at hl
                   all_goals cases hl
    | call pre f a b => exact absurd hl litR_nocall
    | C pre ob mk =>
      rw [hl] at hv
      obtain ⟨hpre, hv⟩ := hv
      refine ⟨⟨mk (s, h.c s), [], some ((s, h.c s), ob), true, tmQ o t, none⟩, ?_, ⟨⟨fun _ _ => rfl, fun _ h => (by cases h), fun _ p hp => (by cases hp; rfl)⟩, fun b h => (by cases h)⟩, hv, rfl, fun k h => ?_, fun _ => rfl, fun h => (by cases h), fun _ h => (by cases h)⟩
      · rintro σ ⟨⟨t1, _, t3⟩, _⟩ K hK
        have hk : (s, h.c s) = (s, σ.cnt s) := t3 rfl _ rfl
        refine ⟨σ, Ent.refl _, .inr (.inr ?_)⟩
        show vres P σ s d K (litR op σ.tm)
        rw [hcg σ.tm t1, hl]
        refine ⟨hpre, ?_⟩
        have hK : K (St.put ⟨σ.tm, hupd σ.H (s, h.c s) ob, cupd σ.cnt s⟩ d (mk (s, h.c s))) := hK
        rw [hk] at hK
        exact hK
      · simp only [kw, List.mem_singleton] at h
        rw [h]; exact List.mem_singleton.2 rfl

theorem d6Of_ok {f g : Fp} {r : Ro} {t : Tq V} {h : Hq} (e : d6Of f r = .ok t h g) : r = .ok t h ∧ g = f := by
  cases r with
  | err n => cases e
  | ok t1 h1 => cases e; exact ⟨rfl, rfl⟩
theorem ck_run {b : Bool} {x : Ob} {cl : Cl} {t t' : Tq V} {h h' : Hq} (e : (ck b x).run cl t h = .ok t' h') : b = true ∧ x.run cl t h = .ok t' h' := by
  cases b with
  | false => cases e
  | true => exact ⟨rfl, e⟩
theorem obG_any {g : Option (Nat × Bool)} {d : Option Nat} {b : Ob} {cl : Cl} {o : Nat → V} {t t' : Tq V} {h h' : Hq} (e : (obG g d b).run cl t h = .ok t' h') :
    (gd (tmQ o t) g = some true ∧ b.run cl t h = .ok t' h') ∨ (gd (tmQ o t) g = some false ∧ t' = (dbOf d).s (.tup []) t ∧ h' = h) := by
  cases g with
  | none => exact .inl ⟨rfl, e⟩
  | some p => exact obG_run e
def carg (op : IOp) (tm : Nat → V) : List V := match op with
  | .call _ a => a.map (Rd.get tm)
  | .callv x a => match x.get tm with
    | .fn _ cap => a.map (Rd.get tm) ++ cap
    | _ => []
  | _ => []
theorem call_lop {op : IOp} (hc : isCall op = true) (tm : Nat → V) : (∃ f, ∀ H, lop op tm H = .call ((carg op tm).all (sok H 8) = true) f (carg op tm) ((carg op tm).map (snap H 8))) ∨ ∀ H, lop op tm H = .bad := by
  cases op <;> try (cases hc; done)
  · rename_i f a; exact .inl ⟨f, fun H => rfl⟩
  · rename_i x a
    simp only [carg]
    cases hx : x.get tm with
    | fn f cap => exact .inl ⟨f, fun H => by simp only [lop, hx, lcallv]⟩
    | _ => exact .inr fun H => by simp only [lop, hx, lcallv]
theorem caQ_ok {op : IOp} (h : cOk op = true) (o : Nat → V) (t : Tq V) : caQ op t = carg op (tmQ o t) ∨ caQ op t = [] ∧ ∀ H, lop op (tmQ o t) H = .bad := by
  cases op <;> try (cases h; done)
  · rename_i f a; exact .inl (lb_ok o t a h)
  · rename_i x a
    simp only [cOk, Bool.and_eq_true] at h
    simp only [caQ, carg, rb_ok h.1 o t, lb_ok o t a h.2]
    cases hf : asF (x.get (tmQ o t)) with
    | fn f cap => rw [asF_fn hf]; exact .inl rfl
    | no =>
      refine .inr ⟨rfl, fun H => ?_⟩
      cases hx : x.get (tmQ o t) with
      | fn f cap => rw [hx] at hf; cases hf
      | _ => simp only [lop, hx, lcallv]
theorem dynP_ok {s : Nat} {p : LOp} {cl : Cl} (hcl : ClOk P cl) {o : Nat → V} {t t' : Tq V} {h h' : Hq} {f : Fp} (hc : isCall p.op = true) (e : dynP s p cl t h = .ok t' h' f) :
    ∃ e : Ev, EvOk P s p e ∧ rdyE s p e (denq o t h) ∧ apE s p.dst e (denq o t h) = denq o t' h' ∧ EvFp e f := by
  unfold dynP at e
  cases h1 : cOk p.op with
  | false => rw [h1] at e; cases e
  | true =>
  rw [h1] at e
  have e : Option.rec (motive := fun _ => D6) (.err 14) (fun L => Bool.rec (motive := fun _ => D6) (.err 15) (Ro.rec (motive := fun _ => D6) (fun n => .err n) (fun t' h' => .ok t' h' ⟨L, [], none⟩) ((obQ s p).run cl t h)) (allF (sok (hL L) 8) (caQ p.op t))) (thereQ h ((caQ p.op t).flatMap (rchQ h 8))) = .ok t' h' f := e
  cases h2 : thereQ h ((caQ p.op t).flatMap (rchQ h 8)) with
  | none => rw [h2] at e; cases e
  | some L =>
  rw [h2] at e
  have e : Bool.rec (motive := fun _ => D6) (.err 15) (Ro.rec (motive := fun _ => D6) (fun n => .err n) (fun t' h' => .ok t' h' ⟨L, [], none⟩) ((obQ s p).run cl t h)) (allF (sok (hL L) 8) (caQ p.op t)) = .ok t' h' f := e
  cases h3 : allF (sok (hL L) 8) (caQ p.op t) with
  | false => rw [h3] at e; cases e
  | true =>
  rw [h3] at e
  have e : Ro.rec (motive := fun _ => D6) (fun n => .err n) (fun t' h' => .ok t' h' ⟨L, [], none⟩) ((obQ s p).run cl t h) = .ok t' h' f := e
  cases h4 : (obQ s p).run cl t h with
  | err n => rw [h4] at e; cases e
  | ok t1 h5 =>
  rw [h4] at e
  cases e
  obtain ⟨hL', _⟩ := thereQ_ok h2
  have hin : ∀ q ∈ L, h.H q.1 = some q.2 := fun q hq => (there_mem (hL' ▸ hq)).2
  have hstep : LStep P s p (denq o t h) (denq o t' h') := by
    obtain ⟨σ', q1, q2⟩ := vstep_iff.1 (obQ_ok hcl o t h t' h' h4 (fun σ => σ = denq o t' h') rfl)
    exact q2 ▸ q1
  rcases hstep with ⟨hg, v, σ1, hr, he⟩ | ⟨hg, he⟩
  · rcases call_lop hc (tmQ o t) with ⟨g, hl⟩ | hb
    · have hr : RStep P (denq o t h) s (lop p.op (tmQ o t) h.H) v σ1 := hr
      rw [hl] at hr
      obtain ⟨r1, r2, r3, rfl⟩ := hr
      have ha : caQ p.op t = carg p.op (tmQ o t) := by
        rcases caQ_ok h1 o t with ha | ⟨_, hb⟩
        · exact ha
        · have := (hl h.H).symm.trans (hb h.H); cases this
      rw [allF_eq, ha] at h3
      have k1 := soks_mono (hL_sub hin) h3
      refine ⟨⟨v, L, none, false, tmQ o t, none⟩, ?_, ⟨⟨fun _ _ => rfl, hin, fun h => (by cases h)⟩, fun b h => (by cases h)⟩, (apE_still rfl rfl rfl _).trans he.symm, rfl, fun k h => (by cases h), fun _ => rfl, fun _ => rfl, fun _ h => (by cases h)⟩
      rintro σ ⟨⟨t1, t2, t3⟩, _⟩ K hK
      have k2 := soks_mono (hL_sub t2) h3
      have hl2 : lop p.op σ.tm σ.H = .call ((carg p.op (tmQ o t)).all (sok σ.H 8) = true) g (carg p.op (tmQ o t)) ((carg p.op (tmQ o t)).map (snap h.H 8)) := by
        rw [op_congr t1, hl σ.H, k2.2, k1.2]
      rw [apE_still rfl rfl rfl] at hK
      exact vstepC_of_LStep (.inl ⟨by rw [gd_congr t1]; exact hg, v, σ, by rw [hl2]; exact ⟨k2.1, r2, r3, rfl⟩, rfl⟩) hK
    · have hr : RStep P (denq o t h) s (lop p.op (tmQ o t) h.H) v σ1 := hr
      rw [hb] at hr; exact hr.elim
  · refine ⟨⟨.tup [], L, none, false, tmQ o t, none⟩, ?_, ⟨⟨fun _ _ => rfl, hin, fun h => (by cases h)⟩, fun b h => (by cases h)⟩, (apE_still rfl rfl rfl _).trans he.symm, rfl, fun k h => (by cases h), fun _ => rfl, fun _ => rfl, fun _ h => (by cases h)⟩
    rintro σ ⟨⟨t1, _, _⟩, _⟩ K hK
    rw [apE_still rfl rfl rfl] at hK
    exact vstepC_of_LStep (.inr ⟨by rw [gd_congr t1]; exact hg, rfl⟩) hK
theorem dynA_ok {s : Nat} {p : LOp} {cl : Cl} (hcl : ClOk P cl) {o : Nat → V} {t t' : Tq V} {h h' : Hq} {f : Fp} (hnc : isCall p.op = false) (e : dynA s p cl t h = .ok t' h' f) :
    ∃ e : Ev, EvOk P s p e ∧ rdyE s p e (denq o t h) ∧ apE s p.dst e (denq o t h) = denq o t' h' ∧ EvFp e f := by
  obtain ⟨d, op, g⟩ := p
  cases g with
  | some g => cases e
  | none =>
  cases op <;> try (cases e; done)
  rename_i esz bytes x y
  have e : Bool.rec (motive := fun _ => D6) (.err 17) (Option.rec (motive := fun _ => D6) (.err 18) (fun R => Ro.rec (motive := fun _ => D6) (fun n => .err n) (fun t' h' => .ok t' h' ⟨R, kbW (.app esz bytes x y) s t (h.c s), none⟩) ((obAp (dbOf d) s esz bytes (rbOf x) (rbOf y)).run cl t h)) (thereQ h ((kbR (.app esz bytes x y)).f t))) (dlo d && (rlo x && rlo y)) = .ok t' h' f := e
  cases hb : dlo d && (rlo x && rlo y) with
  | false => rw [hb] at e; cases e
  | true =>
  rw [hb] at e
  simp only [Bool.and_eq_true] at hb
  obtain ⟨hd, hx, hy⟩ := hb
  have hl2 : dlo2 (.app esz bytes x y) = true := by show (rlo x && rlo y) = true; rw [hx, hy]; rfl
  cases ha : thereQ h ((kbR (.app esz bytes x y)).f t) with
  | none => rw [ha] at e; cases e
  | some R =>
  rw [ha] at e
  obtain ⟨hR, hall⟩ := thereQ_ok ha
  rw [kbR_ok hl2 o t] at hR hall
  subst hR
  have e : Ro.rec (motive := fun _ => D6) (fun n => .err n) (fun t' h' => .ok t' h' ⟨there h.H (rdK (.app esz bytes x y) (tmQ o t)), kbW (.app esz bytes x y) s t (h.c s), none⟩) ((obAp (dbOf d) s esz bytes (rbOf x) (rbOf y)).run cl t h) = .ok t' h' f := e
  cases hc : (obAp (dbOf d) s esz bytes (rbOf x) (rbOf y)).run cl t h with
  | err n => rw [hc] at e; cases e
  | ok t1 h1 =>
  rw [hc] at e
  cases e
  have hc' := hc
  have e : Option.rec (motive := fun _ => Ro) (.err 0) (fun r => X6.rec (motive := fun _ => Ro) (.err 0) (fun _ _ => .err 0) (fun k g o n => Bool.rec (motive := fun _ => Ro) (.err 0) (Bool.rec (motive := fun _ => Ro) (.err 0) (retR (dbOf d) t (appF esz bytes h k g n r)) (srcNe k ((rbOf y).g t))) (Nat.beq o 0)) (fun _ _ _ _ _ => (.err 0))
    (Sr.rec (motive := fun _ => Ro) (fun m ys => Bool.rec (motive := fun _ => Ro) (.err 0) (newR (dbOf d) (fun k => .msl k 0 0 m) s t h (.row 0 esz ys)) (Bool.rec (motive := fun _ => Bool) false (Bool.rec (motive := fun _ => Bool) false (allF oneF ys) (Nat.ble m 4611686018427387904)) (Nat.ble (m * bytes) 140737488355328))) r)
    (fun _ => (.err 0)) (asX ((rbOf x).g t))) (qSrc h esz ((rbOf y).g t)) = .ok t' h' := hc
  rw [rb_ok hx o t, rb_ok hy o t] at e
  cases hs : qSrc h esz (y.get (tmQ o t)) with
  | none => rw [hs] at e; cases e
  | some r =>
    rw [hs] at e
    have hs := qSrc_ok hs
    cases hX : asX (x.get (tmQ o t)) with
    | no => rw [hX] at e; cases e
    | sl => rw [hX] at e; cases e
    | mv => rw [hX] at e; cases e
    | st => rw [hX] at e; cases e
    | e0 =>
      have hstep : LStep P s ⟨d, .app esz bytes x y, none⟩ (denq o t h) (denq o t' h') := by
        rw [hX] at e
        obtain ⟨m, ys⟩ := r
        obtain ⟨hc, e⟩ := bool_err e
        obtain ⟨h1, hc⟩ := bool_and hc
        obtain ⟨h2, h3⟩ := bool_and hc
        have h1 := nble_le h1
        have h2 := nble_le h2
        rw [allF_eq, oneF_fun] at h3
        have hl : lop (.app esz bytes x y) (tmQ o t) h.H = .C (m * bytes ≤ 140737488355328 ∧ m ≤ 4611686018427387904 ∧ ys.all V.one = true) (.row 0 esz ys) fun k => .msl k 0 0 m := by
          simp only [lop, lappx, hs, asX_e0 hX, lapp]
        have hv : vstep P s ⟨d, .app esz bytes x y, none⟩ (fun σ => σ = denq o t' h') (denq o t h) := by
          rw [vstep_none]
          show vres P (denq o t h) s d (fun σ => σ = denq o t' h') (lop (.app esz bytes x y) (tmQ o t) h.H)
          rw [hl]
          exact ⟨⟨h1, h2, h3⟩, newR_ok (K := fun σ => σ = denq o t' h') (mk := fun k => .msl k 0 0 m) hd e rfl⟩
        obtain ⟨σ', q1, q2⟩ := vstep_iff.1 hv
        exact q2 ▸ q1
      exact ev_of_step (p := ⟨d, .app esz bytes x y, none⟩) rfl rfl rfl (kbW_ok hl2 o t _ _) hall hstep
    | ms k g' of n =>
      rw [hX] at e
      obtain ⟨h0, e⟩ := bool_err e
      have h0 := Nat.eq_of_beq_eq_true h0
      subst h0
      obtain ⟨hne, e⟩ := bool_err e
      obtain ⟨v, h1, rfl⟩ := retR_ok e
      obtain ⟨cs, q1, q2, q3, rfl, q5, q6⟩ := appF_ok h1
      have hkin : k ∈ rdK (.app esz bytes x y) (tmQ o t) := by
        simp only [rdK, asX_ms hX, keysV]
        exact List.mem_append_left _ (List.mem_singleton.2 rfl)
      refine ⟨⟨.msl k (g' + 1) 0 (n + r.n), there h.H (rdK (.app esz bytes x y) (tmQ o t)), some (k, .row (g' + 1) esz (cs.take (n * esz) ++ r.cs)), false, tmQ o t, none⟩, ?_, ⟨⟨fun _ _ => rfl, fun q hq => (there_mem hq).2, fun h => (by cases h)⟩, fun b h => (by cases h)⟩, ?_, rfl, fun k' h => ?_, fun _ => rfl, fun h => (by cases h), fun _ h => (by cases h)⟩
      · rintro σ ⟨⟨t1, t2, t3⟩, _⟩ K hK
        have hsame := there_all hall t2
        have hkσ : σ.H k = some (.row g' esz cs) := (hsame k hkin).trans q1
        have hsσ : srcOf σ.H esz (y.get (tmQ o t)) = some (r.n, r.cs) := by
          rw [src_same (H := h.H) fun k' hk' => hsame k' (List.mem_append_right _ hk')]
          exact hs
        refine ⟨_, shrink_ent σ.tm σ.H σ.cnt k (n * esz) hkσ, .inl ?_⟩
        have hk : hupd σ.H k (.row g' esz (cs.take (n * esz))) k = some (.row g' esz (cs.take (n * esz))) := by simp [hupd]
        have hl : lop (.app esz bytes x y) σ.tm (hupd σ.H k (.row g' esz (cs.take (n * esz)))) = .D ((g' = g' ∧ esz = esz ∧ 0 = 0 ∧ (cs.take (n * esz)).length = n * esz) ∧ (n + r.n) * bytes ≤ 140737488355328 ∧ n + r.n ≤ 4611686018427387904 ∧ r.cs.all V.one = true)
            (.msl k (g' + 1) 0 (n + r.n)) (hupd (hupd σ.H k (.row g' esz (cs.take (n * esz)))) k (.row (g' + 1) esz (cs.take (n * esz) ++ r.cs))) := by
          rw [show lop (.app esz bytes x y) σ.tm (hupd σ.H k (.row g' esz (cs.take (n * esz)))) = lop (.app esz bytes x y) (tmQ o t) (hupd σ.H k (.row g' esz (cs.take (n * esz)))) from op_congr (o := ⟨d, .app esz bytes x y, none⟩) t1]
          simp only [lop, lappx, srcNe_ok hne, hsσ, asX_ms hX, lapp, hk]
        show vresM P ⟨σ.tm, hupd σ.H k (.row g' esz (cs.take (n * esz))), σ.cnt⟩ s d K (lop (.app esz bytes x y) σ.tm (hupd σ.H k (.row g' esz (cs.take (n * esz)))))
        rw [hl]
        refine ⟨⟨⟨rfl, rfl, rfl, by rw [List.length_take]; omega⟩, q3⟩, ?_⟩
        have hh : hupd (hupd σ.H k (.row g' esz (cs.take (n * esz)))) k (.row (g' + 1) esz (cs.take (n * esz) ++ r.cs)) = hupd σ.H k (.row (g' + 1) esz (cs.take (n * esz) ++ r.cs)) := by
          funext x
          simp only [hupd]
          split <;> rfl
        rw [hh]
        exact hK
      · rw [denq_put hd]
        show St.put ⟨tmQ o t, hupd h.H k _, h.c⟩ d _ = _
        rw [q5, q6]
      · simp only [kw, List.mem_singleton] at h
        rw [h]
        show k ∈ kbW (.app esz bytes x y) s t _
        rw [kbW_ok hl2 o t]
        simp only [wrK, asX_ms hX, keysV]
        exact List.mem_cons_of_mem _ (List.mem_singleton.2 rfl)
theorem dynS_ok {m : Bool} {s : Nat} {p : LOp} {cl : Cl} (hcl : ClOk P cl) {o : Nat → V} {t t' : Tq V} {h h' : Hq} {f : Fp} (hop : (isCall p.op || dynOp p.op) = true) (hl2 : dlo2 p.op = true) (e : dynS m s p cl t h = .ok t' h' f) :
    ∃ e : Ev, EvOk P s p e ∧ rdyE s p e (denq o t h) ∧ apE s p.dst e (denq o t h) = denq o t' h' ∧ EvFp e f := by
  unfold dynS at e
  cases hc : isCall p.op with
  | true =>
    rw [hc] at e
    cases m with
    | true => exact dynP_ok hcl hc e
    | false =>
    have e : Ro.rec (motive := fun _ => D6) (fun n => .err n) (fun t' h' => .ok t' h' ⟨[], [], some (h, h')⟩) ((ck (dlo p.dst) (obN s p)).run cl t h) = .ok t' h' f := e
    obtain ⟨e1, hf⟩ : (ck (dlo p.dst) (obN s p)).run cl t h = .ok t' h' ∧ f = ⟨[], [], some (h, h')⟩ := by
      cases hq : (ck (dlo p.dst) (obN s p)).run cl t h with
      | err n => rw [hq] at e; cases e
      | ok t1 h1 => rw [hq] at e; cases e; exact ⟨rfl, rfl⟩
    subst hf
    obtain ⟨hd, e2⟩ := ck_run e1
    clear e e1
    have e : (obG p.guard p.dst (obC0 s p.dst p.op)).run cl t h = .ok t' h' := e2
    rcases obG_any (o := o) e with ⟨hg, e⟩ | ⟨hg, rfl, rfl⟩
    · cases hp : p.op <;> rw [hp] at hc e <;> try (cases hc; done)
      · rename_i g args
        obtain ⟨hl, e⟩ := ck_run (b := llo args) e
        obtain ⟨v, h1, h2⟩ := retC_ok e
        rw [lb_ok o t args hl] at h1
        exact ev_of_call hcl hd hg (by rw [hp]; rfl) h1 h2
      · rename_i x args
        obtain ⟨hl, e⟩ := ck_run (b := rlo x && llo args) e
        simp only [Bool.and_eq_true] at hl
        have e : F6.rec (motive := fun _ => Ro) (.err 0) (fun f cap => retC (dbOf p.dst) t (cl f ((lbOf args).f t ++ cap) h)) (asF ((rbOf x).g t)) = .ok t' h' := e
        rw [rb_ok hl.1 o t] at e
        cases hf : asF (x.get (tmQ o t)) with
        | no => rw [hf] at e; cases e
        | fn g cap =>
          rw [hf] at e
          obtain ⟨v, h1, h2⟩ := retC_ok e
          rw [lb_ok o t args hl.2] at h1
          have hl3 : lop p.op (tmQ o t) h.H = .call ((args.map (Rd.get (tmQ o t)) ++ cap).all (sok h.H 8) = true) g (args.map (Rd.get (tmQ o t)) ++ cap) ((args.map (Rd.get (tmQ o t)) ++ cap).map (snap h.H 8)) := by
            rw [hp]
            show lcallv _ (x.get (tmQ o t)) _ = _
            rw [asF_fn hf]; rfl
          exact ev_of_call hcl hd hg hl3 h1 h2
    · refine ⟨⟨.tup [], [], none, false, tmQ o t, none⟩, ?_, ⟨⟨fun _ _ => rfl, fun _ h => (by cases h), fun h => (by cases h)⟩, fun b h => (by cases h)⟩, (denq_put hd o t _ h').symm, rfl, fun k h => (by cases h), fun h => (by cases h), fun _ => rfl, fun p hp => ⟨⟨rfl, rfl⟩, .inl rfl⟩⟩
      rintro σ ⟨⟨t1, _, _⟩, _⟩ K hK
      exact vstepC_of_LStep (.inr ⟨by rw [gd_congr t1]; exact hg, rfl⟩) hK
  | false =>
    rw [hc] at e hop
    have hop : dynOp p.op = true := hop
    cases ha : thereQ h ((kbR p.op).f t) with
    | none => rw [ha] at e; cases e
    | some R =>
      rw [ha] at e
      obtain ⟨hR, hall⟩ := thereQ_ok ha
      subst hR
      have e : Ro.rec (motive := fun _ => D6) (fun n => d6Or (d6Of ⟨[], [(s, h.c s)], none⟩ ((ck (dlo p.dst) (obLit s p)).run cl t h)) (dynA s p cl t h)) (fun t' h' => .ok t' h' ⟨there h.H ((kbR p.op).f t), kbW p.op s t (h.c s), none⟩) ((obQ s p).run cl t h) = .ok t' h' f := e
      cases hb : (obQ s p).run cl t h with
      | err n =>
        rw [hb] at e
        have e : d6Or (d6Of ⟨[], [(s, h.c s)], none⟩ ((ck (dlo p.dst) (obLit s p)).run cl t h)) (dynA s p cl t h) = .ok t' h' f := e
        cases hz : d6Of ⟨[], [(s, h.c s)], none⟩ ((ck (dlo p.dst) (obLit s p)).run cl t h) with
        | err n =>
          rw [hz] at e
          exact dynA_ok hcl hc e
        | ok t1 h1 f1 =>
        rw [hz] at e
        cases e
        obtain ⟨e1, rfl⟩ := d6Of_ok hz
        obtain ⟨hd, e2⟩ := ck_run e1
        exact ev_of_lit hd e2
      | ok t1 h1 =>
        rw [hb] at e
        cases e
        have hstep : LStep P s p (denq o t h) (denq o t' h') := by
          obtain ⟨σ', q1, q2⟩ := vstep_iff.1 (obQ_ok hcl o t h t' h' hb (fun σ => σ = denq o t' h') rfl)
          exact q2 ▸ q1
        exact ev_of_step hop hc (kbR_ok hl2 o t) (kbW_ok hl2 o t _ _) hall hstep

theorem dynR_ok {m : Bool} {cl : Cl} (hcl : ClOk P cl) {rid : Nat} {ops0 : List LOp} (o : Nat → V) : ∀ (ops : List LOp) (i : Nat), ops = ops0.drop i → i + ops.length = ops0.length → dynAll ops = true → ∀ (t : Tq V) (h : Hq) (t' : Tq V) (h' : Hq) (fs : List Fp), dynR m rid ops i cl t h = .ok t' h' fs →
    ∃ ev : Nat → Ev, (∀ k, i ≤ k → k < ops0.length → EvOk P (siteOf rid k) (loAt ops0 k) (ev k) ∧ EvFp (ev k) (fpAt fs (k - i))) ∧ RunE rid (loAt ops0) ev (List.range' i ops.length) (denq o t h) (denq o t' h')
  | [], i, hd, hn, _, t, h, t', h', fs, e => by
    cases e
    exact ⟨fun _ => ⟨.junk, [], none, false, fun _ => .junk, none⟩, fun k h1 h2 => by simp at hn; omega, rfl⟩
  | p :: ops, i, hd, hn, ha, t, h, t', h', fs, e => by
    have ha : Bool.rec (motive := fun _ => Bool) false (dynAll ops) ((isCall p.op || dynOp p.op) && dlo2 p.op) = true := ha
    obtain ⟨ha1, ha2⟩ := bool_and ha
    rw [Bool.and_eq_true] at ha1
    have e : D6.rec (motive := fun _ => Rd6) (fun n => .err (Nat.rec (motive := fun _ => Nat) (siteOf rid i) (fun _ _ => n) n)) (fun t' h' f => Rd6.rec (motive := fun _ => Rd6) (fun n => .err n) (fun t'' h'' fs => .ok t'' h'' (f :: fs)) (dynR m rid ops (i + 1) cl t' h')) (dynS m (siteOf rid i) p cl t h) = .ok t' h' fs := e
    cases hb : dynS m (siteOf rid i) p cl t h with
    | err n => rw [hb] at e; cases e
    | ok t1 h1 f1 =>
      rw [hb] at e
      have e : Rd6.rec (motive := fun _ => Rd6) (fun n => .err n) (fun t'' h'' fs => .ok t'' h'' (f1 :: fs)) (dynR m rid ops (i + 1) cl t1 h1) = .ok t' h' fs := e
      cases hr : dynR m rid ops (i + 1) cl t1 h1 with
      | err n => rw [hr] at e; cases e
      | ok t2 h2 fs2 =>
        rw [hr] at e
        cases e
        obtain ⟨ev0, v1, v2, v3, v4⟩ := dynS_ok (P := P) hcl (o := o) ha1.1 ha1.2 hb
        have hd1 : ops = ops0.drop (i + 1) := by rw [← List.tail_drop, ← hd]; rfl
        have hlo : loAt ops0 i = p := by
          have := congrArg (fun l => l[0]?) hd
          simp only [List.getElem?_cons_zero, List.getElem?_drop, Nat.add_zero] at this
          simp only [loAt, List.getD_eq_getElem?_getD, ← this, Option.getD_some]
        obtain ⟨ev, w1, w2⟩ := dynR_ok hcl o ops (i + 1) hd1 (by simp only [List.length_cons] at hn; omega) ha2 t1 h1 t' h' fs2 hr
        refine ⟨fun k => if k = i then ev0 else ev k, fun k k1 k2 => ?_, ?_⟩
        · by_cases hk : k = i
          · subst hk
            simp only [if_true, hlo, Nat.sub_self]
            exact ⟨v1, v4⟩
          · simp only [if_neg hk]
            obtain ⟨x1, x2⟩ := w1 k (by omega) k2
            have hs : k - i = (k - (i + 1)) + 1 := by omega
            rw [hs]
            exact ⟨x1, x2⟩
        · rw [List.length_cons, List.range'_succ]
          refine ⟨?_, ?_⟩
          · simp only [if_true, hlo]; exact v2
          · simp only [if_true, hlo, v3]
            refine runE_congr (fun j hj => ?_) w2
            have := (List.mem_range'_1.1 hj).1
            rw [if_neg (by omega)]
theorem still_of {e : Ev} {f : Fp} (hf : EvFp e f) (hw : f.W = []) : e.w = none ∧ e.nw = false := by
  obtain ⟨f1, f2, f3, f4, f5⟩ := hf
  have hw : e.w = none := by
    cases hw' : e.w with
    | none => rfl
    | some q =>
      have := f2 q.1 (by simp [kw, hw'])
      rw [hw] at this; cases this
  exact ⟨hw, f4 hw⟩
theorem calmF_ok {e : Ev} {f : Fp} (hf : EvFp e f) (h : calmF f = true) : calm e := by
  simp only [calmF, Bool.and_eq_true, Option.isNone_iff_eq_none, List.isEmpty_iff] at h
  obtain ⟨h1, h2, h3⟩ := h
  obtain ⟨hw, hn⟩ := still_of hf h3
  exact ⟨by rw [hf.1, h2], hw, hn, hf.2.2.1 h1⟩
theorem stillF_ok {e f : Ev} {a b : Fp} (he : EvFp e a) (hf : EvFp f b) (h : stillF a b = true) : calm e ∨ calmB e f := by
  unfold stillF at h
  cases hb : a.big with
  | none => rw [hb] at h; cases h
  | some p =>
    rw [hb] at h
    have h : (b.big.isNone && (b.W.isEmpty && (stillQ p.1 b.R && stillQ p.2 b.R))) = true := h
    simp only [Bool.and_eq_true, Option.isNone_iff_eq_none, List.isEmpty_iff] at h
    obtain ⟨h1, h2, h3, h4⟩ := h
    obtain ⟨hw, hn⟩ := still_of hf h2
    obtain ⟨⟨r1, r2⟩, r3⟩ := he.2.2.2.2 p hb
    obtain ⟨ew, en⟩ := still_of he r2
    rcases r3 with r3 | r3
    · exact .inl ⟨by rw [he.1, r1], ew, en, r3⟩
    · refine .inr ⟨_, r3, hw, hn, hf.2.2.1 h1, fun q hq => ?_⟩
      rw [hf.1] at hq
      exact ⟨stillQ_ok h3 q hq, stillQ_ok h4 q hq⟩
theorem cdF_ok {m : Bool} {no : Cl → Tq V → Hq → Rs} {cl : Cl} (hcl : ClOk P cl) {rid : Nat} {bs : List Nat} (o : Nat → V) (ops : List LOp) (ha : dynAll ops = true) (t : Tq V) (h : Hq) (r : Rs) (e : cdF rid bs ops no m cl t h = r)
    (hno : ∀ r, no cl t h = r → (∃ n, r = .err n) ∨ ∃ t' h', r = .nm t' h' ∧ ∀ K : St → Prop, K (denq o t' h') → vregd P rid bs ops K (denq o t h)) : (∃ n, r = .err n) ∨ ∃ t' h', r = .nm t' h' ∧ ∀ K : St → Prop, K (denq o t' h') → vregd P rid bs ops K (denq o t h) := by
    have e : Rd6.rec (motive := fun _ => Rs) (fun n => .err n) (fun t' h' fs => Bool.rec (motive := fun _ => Rs) (no cl t h) (.nm t' h') (dpOk bs ops fs)) (dynR m rid ops 0 cl t h) = r := e
    cases hr : dynR m rid ops 0 cl t h with
    | err n => rw [hr] at e; exact .inl ⟨_, e.symm⟩
    | ok t' h' fs =>
      rw [hr] at e
      have e : Bool.rec (motive := fun _ => Rs) (no cl t h) (.nm t' h') (dpOk bs ops fs) = r := e
      cases hp : dpOk bs ops fs with
      | false => rw [hp] at e; exact hno r e
      | true =>
        rw [hp] at e
        refine .inr ⟨t', h', e.symm, fun K hK => ?_⟩
        obtain ⟨ev, w1, w2⟩ := dynR_ok hcl (rid := rid) (ops0 := ops) o ops 0 rfl (by simp) ha t h t' h' fs hr
        refine ⟨ev, fun i hi => (w1 i (Nat.zero_le _) hi).1, fun i j hj hi hb => ?_, _, by rw [List.range_eq_range']; exact w2, hK⟩
        have h1 := List.all_eq_true.1 hp i (List.mem_range.2 hi)
        have h2 := List.all_eq_true.1 h1 j (List.mem_range.2 hj)
        rw [hb] at h2
        simp only [Bool.false_or, Bool.and_eq_true] at h2
        obtain ⟨a1, a2⟩ := h2
        obtain ⟨_, fi⟩ := w1 i (Nat.zero_le _) hi
        obtain ⟨_, fj⟩ := w1 j (Nat.zero_le _) (by omega)
        rw [Nat.sub_zero] at fi fj
        refine ⟨a1, ?_⟩
        simp only [fpOk, Bool.or_eq_true] at a2
        rcases a2 with a2 | a2 | a2 | a2 | a2
        · exact .inr (.inl (calmF_ok fj a2))
        · exact .inr (.inr (.inl (calmF_ok fi a2)))
        · rcases stillF_ok fj fi a2 with h | h
          · exact .inr (.inl h)
          · exact .inr (.inr (.inr (.inl h)))
        · rcases stillF_ok fi fj a2 with h | h
          · exact .inr (.inr (.inl h))
          · exact .inr (.inr (.inr (.inr h)))
        · simp only [Bool.and_eq_true, Option.isNone_iff_eq_none] at a2
          obtain ⟨b1, b2, a2, a3, a4⟩ := a2
          exact .inl ⟨fj.2.2.1 b1, fi.2.2.1 b2, fun k hk => ⟨fun hm => disjK_ok a2 k (fj.2.1 k hk) (fi.1 ▸ hm), fun hm => disjK_ok a3 k (fj.2.1 k hk) (fi.2.1 k hm)⟩, fun k hk hm => disjK_ok a4 k (fi.2.1 k hk) (fj.1 ▸ hm)⟩
theorem cdE_ok {cl : Cl} (hcl : ClOk P cl) {rid : Nat} {bs : List Nat} (o : Nat → V) (ops : List LOp) (t : Tq V) (h : Hq) (r : Rs) (e : (cdE rid bs ops).run cl t h = r) : (∃ n, r = .err n) ∨ ∃ t' h', r = .nm t' h' ∧ ∀ K : St → Prop, K (denq o t' h') → vregd P rid bs ops K (denq o t h) := by
  have e : (Bool.rec (motive := fun _ => Cd) ⟨fun _ _ _ => .err (siteOf rid 4000)⟩ ⟨fun cl t h => cdF rid bs ops (fun cl t h => cdF rid bs ops (fun _ _ _ => .err (siteOf rid 4001)) true cl t h) false cl t h⟩ (dynAll ops) : Cd).run cl t h = r := e
  cases ha : dynAll ops with
  | false => rw [ha] at e; exact .inl ⟨_, e.symm⟩
  | true =>
    rw [ha] at e
    exact cdF_ok hcl o ops ha t h r e fun r e => cdF_ok hcl o ops ha t h r e fun r e => .inl ⟨_, e.symm⟩
end
end Go.Lg
