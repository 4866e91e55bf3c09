/-
  El Eh Ftb Lib As Ej Ei Es Soe RowI RowJ SOf: put together.
-/
import Derived.Test.YtlnphjjhfgghkaaGreatDoorSPg
import Derived.Test.YtlnphjjhfgghkaaGreatDoorSPf
import Derived.Shelf.Strings.Search1
import Derived.Shelf.Strings.Search2
import Derived.Shelf.Strings.Search3
import Derived.Shelf.Strings.Cut
import Derived.Shelf.LaysM
import Derived.Shelf.Strings.Shaped
import Derived.Shelf.Slices.Turned
import Derived.Shelf.Slices.Equal
import Derived.Test.YtlnphjjhfgghkaaGreatDoorProg
import Derived.WalkKit
import Derived.LaidEql
import Derived.Stop.Asserts
import Derived.RowKitTokens
import Derived.Lib.IndexMore
import Derived.Test.YtlnphjjhfgghkaaGreatDoorSPe
import Derived.Test.YtlnphjjhfgghkaaGreatDoorRows
import Derived.Test.YtlnphjjhfgghkaaGreatDoorTie
import Derived.ProofKit
import Derived.OpenShut
import Derived.ChangeOld
import Derived.ChangeSame
import Derived.ChangeVars
import Derived.JoinedOf
import Derived.LaidLaws
import Derived.LaidHandle
import Derived.Below
import Derived.Test.YtlnphjjhfgghkaaGreatDoorSPd
import Derived.KernelRfl
set_option linter.unusedSimpArgs false
set_option linter.unusedVariables false
namespace Go.Lg
open Go Go.RowKit

inductive D6 where
  | err (n : Nat)
  | ok (t : Tq V) (h : Hq) (f : Fp)
noncomputable def d6Of (f : Fp) (r : Ro) : D6 := Ro.rec (motive := fun _ => D6) (fun n => .err n) (fun t h => .ok t h f) r
/-- Is it a call? -/
def isCall : IOp → Bool
  | .call .. | .callv .. => true
  | _ => false
/-! A call that works on no object: what is read, told alone. -/
def hL (L : List (Key × LObj)) : Heap := fun k => (L.find? fun p => Nat.beq p.1.1 k.1 && Nat.beq p.1.2 k.2).map (·.2)
theorem hL_sub {L : List (Key × LObj)} {H : Heap} (h : ∀ p ∈ L, H p.1 = some p.2) : Heap.sub (hL L) H := by
  intro k o ho
  simp only [hL, Option.map_eq_some_iff] at ho
  obtain ⟨p, hp, rfl⟩ := ho
  have h1 := List.find?_some hp
  simp only [Bool.and_eq_true] at h1
  have h2 : p.1 = k := Prod.ext (Nat.eq_of_beq_eq_true h1.1) (Nat.eq_of_beq_eq_true h1.2)
  rw [← h2]
  exact h p (List.mem_of_find?_eq_some hp)
noncomputable def rchQ (h : Hq) : Nat → V → List Key
  | 0, _ => []
  | d + 1, .msl key _ _ _ => key :: Option.rec (motive := fun _ => List Key) [] (fun o => match o with | .row _ _ cs => cs.flatMap (rchQ h d) | .map es => es.flatMap (fun e => rchQ h d e.1 ++ rchQ h d e.2) | .it _ _ => []) (hgetS h key)
  | d + 1, .mp key _ _ => key :: Option.rec (motive := fun _ => List Key) [] (fun o => match o with | .row _ _ cs => cs.flatMap (rchQ h d) | .map es => es.flatMap (fun e => rchQ h d e.1 ++ rchQ h d e.2) | .it _ _ => []) (hgetS h key)
  | _ + 1, .qsl key _ _ _ _ => [key]
  | d + 1, .mm key => key :: Option.rec (motive := fun _ => List Key) [] (fun o => match o with | .row _ _ cs => cs.flatMap (rchQ h d) | .map es => es.flatMap (fun e => rchQ h d e.1 ++ rchQ h d e.2) | .it _ _ => []) (hgetS h key)
  | d + 1, .agg cs => cs.flatMap (rchQ h d)
  | d + 1, .tup cs => cs.flatMap (rchQ h d)
  | d + 1, .fn _ cs => cs.flatMap (rchQ h d)
  | d + 1, .ifc _ v => rchQ h d v
  | _ + 1, _ => []
noncomputable def cOk : IOp → Bool
  | .call _ a => llo a
  | .callv x a => rlo x && llo a
  | _ => false
noncomputable def caQ (op : IOp) (t : Tq V) : List V := match op with
  | .call _ a => (lbOf a).f t
  | .callv x a => F6.rec (motive := fun _ => List V) [] (fun _ cap => (lbOf a).f t ++ cap) (asF ((rbOf x).g t))
  | _ => []
noncomputable def dynP (s : Nat) (p : LOp) (cl : Cl) (t : Tq V) (h : Hq) : D6 := Bool.rec (motive := fun _ => D6) (.err 13) (Option.rec (motive := fun _ => D6) (.err 14) (fun L => Bool.rec (motive := fun _ => D6) (.err 15) (Ro.rec (motive := fun _ => D6) (fun n => .err n) (fun t' h' => .ok t' h' ⟨L, [], none⟩) ((obQ s p).run cl t h)) (allF (sok (hL L) 8) (caQ p.op t))) (thereQ h ((caQ p.op t).flatMap (rchQ h 8)))) (cOk p.op)
/-- append to a slice that was cut: the object's later cells are forgotten. -/
noncomputable def dynA (s : Nat) (p : LOp) (cl : Cl) (t : Tq V) (h : Hq) : D6 := match p.guard, p.op with
  | none, .app esz bytes x y => Bool.rec (motive := fun _ => D6) (.err 17) (Option.rec (motive := fun _ => D6) (.err 18) (fun R => Ro.rec (motive := fun _ => D6) (fun n => .err n) (fun t' h' => .ok t' h' ⟨R, kbW p.op s t (h.c s), none⟩) ((obAp (dbOf p.dst) s esz bytes (rbOf x) (rbOf y)).run cl t h)) (thereQ h ((kbR p.op).f t))) (dlo p.dst && (rlo x && rlo y))
  | _, _ => .err 19
noncomputable def d6Or (a b : D6) : D6 := D6.rec (motive := fun _ => D6) (fun _ => b) (fun t h f => .ok t h f) a
/-- One step, and what it read and turned. -/
noncomputable def dynS (m : Bool) (s : Nat) (p : LOp) (cl : Cl) (t : Tq V) (h : Hq) : D6 := Bool.rec (motive := fun _ => D6)
  (Option.rec (motive := fun _ => D6) (.err 12) (fun R => Ro.rec (motive := fun _ => D6) (fun n => d6Or (d6Of ⟨[], [(s, h.c s)], none⟩ ((ck (dlo p.dst) (obLit s p)).run cl t h)) (dynA s p cl t h)) (fun t' h' => .ok t' h' ⟨R, kbW p.op s t (h.c s), none⟩) ((obQ s p).run cl t h)) (thereQ h ((kbR p.op).f t)))
  (Bool.rec (motive := fun _ => D6) (Ro.rec (motive := fun _ => D6) (fun n => .err n) (fun t' h' => .ok t' h' ⟨[], [], some (h, h')⟩) ((ck (dlo p.dst) (obN s p)).run cl t h)) (dynP s p cl t h) m) (isCall p.op)
noncomputable def dynR (m : Bool) (rid : Nat) (ops : List LOp) : Nat → Cl → Tq V → Hq → Rd6 := List.rec (motive := fun _ => Nat → Cl → Tq V → Hq → Rd6) (fun _ _ t h => .ok t h [])
  (fun p _ ih i cl t h => D6.rec (motive := fun _ => Rd6) (fun n => .err (Nat.rec (motive := fun _ => Nat) (siteOf rid i) (fun _ _ => n) n)) (fun t' h' f => Rd6.rec (motive := fun _ => Rd6) (fun n => .err n) (fun t'' h'' fs => .ok t'' h'' (f :: fs)) (ih (i + 1) cl t' h')) (dynS m (siteOf rid i) p cl t h)) ops
def fpAt (fs : List Fp) (i : Nat) : Fp := fs.getD i ⟨[], [], none⟩
def disjK (a b : List Key) : Bool := a.all fun k => b.all fun k' => !(Nat.beq k.1 k'.1 && Nat.beq k.2 k'.2)
def calmF (f : Fp) : Bool := f.big.isNone && (f.R.isEmpty && f.W.isEmpty)
noncomputable def stillF (a b : Fp) : Bool := Option.rec (motive := fun _ => Bool) false (fun p => b.big.isNone && (b.W.isEmpty && (stillQ p.1 b.R && stillQ p.2 b.R))) a.big
noncomputable def fpOk (a b : Fp) : Bool := calmF a || (calmF b || (stillF a b || (stillF b a || (a.big.isNone && (b.big.isNone && (disjK a.W (b.R.map (·.1)) && (disjK a.W b.W && disjK b.W (a.R.map (·.1)))))))))
noncomputable def dpOk (bs : List Nat) (ops : List LOp) (fs : List Fp) : Bool := (List.range ops.length).all fun i => (List.range i).all fun j => (bs.getD i 0).testBit j || (apartO (loAt ops j) (loAt ops i) && fpOk (fpAt fs j) (fpAt fs i))
noncomputable def dynAll (ops : List LOp) : Bool := List.rec (motive := fun _ => Bool) true (fun p _ ih => Bool.rec (motive := fun _ => Bool) false ih ((isCall p.op || dynOp p.op) && dlo2 p.op)) ops
noncomputable def cdF (rid : Nat) (bs : List Nat) (ops : List LOp) (no : Cl → Tq V → Hq → Rs) (m : Bool) (cl : Cl) (t : Tq V) (h : Hq) : Rs := Rd6.rec (motive := fun _ => Rs) (fun n => .err n) (fun t' h' fs => Bool.rec (motive := fun _ => Rs) (no cl t h) (.nm t' h') (dpOk bs ops fs)) (dynR m rid ops 0 cl t h)
noncomputable def cdE (rid : Nat) (bs : List Nat) (ops : List LOp) : Cd := Bool.rec (motive := fun _ => Cd) ⟨fun _ _ _ => .err (siteOf rid 4000)⟩ ⟨fun cl t h => cdF rid bs ops (fun cl t h => cdF rid bs ops (fun _ _ _ => .err (siteOf rid 4001)) true cl t h) false cl t h⟩ (dynAll ops)

theorem disjK_ok {a b : List Key} (h : disjK a b = true) : ∀ k ∈ a, k ∉ b := by
  intro k hk hb
  have := List.all_eq_true.1 (List.all_eq_true.1 h k hk) k hb
  simp [nbeq] at this
theorem runE_congr {rid : Nat} {lo : Nat → LOp} {ev ev' : Nat → Ev} : ∀ {l : List Nat} {σ σ' : St}, (∀ i ∈ l, ev' i = ev i) → RunE rid lo ev l σ σ' → RunE rid lo ev' l σ σ'
  | [], _, _, _, h => h
  | i :: l, σ, σ', he, h => by
    have hi := he i (List.mem_cons_self ..)
    refine ⟨by rw [hi]; exact h.1, ?_⟩
    rw [hi]
    exact runE_congr (fun j hj => he j (List.mem_cons_of_mem _ hj)) h.2

section
variable {P : Program}
theorem vstepC_of_LStep {s : Nat} {o : LOp} {σ σ' : St} (h : LStep P s o σ σ') {K : St → Prop} (hK : K σ') : vstepC P s o K σ := by
  have h1 : vstep P s o K σ := vstep_iff.2 ⟨σ', h, hK⟩
  refine ⟨σ, Ent.refl _, .inl ?_⟩
  unfold vstep at h1
  unfold vstepM
  cases hg : gd σ.tm o.guard with
  | none => rw [hg] at h1; exact h1.elim
  | some b =>
    rw [hg] at h1
    cases b with
    | true => exact vresM_of_vres h1
    | false => exact h1

/-- What is known of an event. -/
def EvFp (e : Ev) (f : Fp) : Prop := e.rd = f.R ∧ (∀ k ∈ kw e, k ∈ f.W) ∧ (f.big = none → e.big = none) ∧ (e.w = none → e.nw = false) ∧ ∀ p, f.big = some p → (f.R = [] ∧ f.W = []) ∧ (e.big = none ∨ e.big = some ⟨p.1.H, p.1.c, p.2.H, p.2.c⟩)
/-- One step as an event. -/
theorem ev_of_step {s : Nat} {p : LOp} {σ0 σ1 : St} {R W : List Key} (hop : dynOp p.op = true) (hnc : isCall p.op = false) (hR : R = rdK p.op σ0.tm) (hW : W = wrK p.op σ0.tm s (σ0.cnt s)) (hp : ∀ k ∈ R, ∃ o, σ0.H k = some o)
    (h : LStep P s p σ0 σ1) :
    ∃ e : Ev, EvOk P s p e ∧ rdyE s p e σ0 ∧ apE s p.dst e σ0 = σ1 ∧ EvFp e ⟨there σ0.H R, W, none⟩ := by
  have hrr : ∀ q ∈ there σ0.H R, σ0.H q.1 = some q.2 := fun q hq => (there_mem hq).2
  rcases h with ⟨hg, v, σ', hr, rfl⟩ | ⟨hg, rfl⟩
  · have key : ∀ σ : St, (∀ t ∈ p.slots, σ.tm t = σ0.tm t) → (∀ q ∈ there σ0.H R, σ.H q.1 = some q.2) → gd σ.tm p.guard = some true ∧ SameL (s, σ0.cnt s) W σ0.H σ.H (lop p.op σ0.tm σ0.H) (lop p.op σ.tm σ.H) := by
      intro σ t1 t2
      refine ⟨by rw [gd_congr t1]; exact hg, ?_⟩
      rw [op_congr t1, hW]
      exact lop_same hop fun k hk => there_all hp t2 k (hR ▸ hk)
    cases hl : lop p.op σ0.tm σ0.H with
    | bad => rw [hl] at hr; exact hr.elim
    | call pre f a b =>
      have := (key σ0 (fun _ _ => rfl) hrr).2
      rw [hl] at this; exact this.elim
    | A pre u =>
      rw [hl] at hr
      obtain ⟨r1, rfl, rfl⟩ := hr
      refine ⟨⟨v, there σ'.H R, none, false, σ'.tm, none⟩, ?_, ⟨⟨fun _ _ => rfl, hrr, fun h => (by cases h)⟩, fun b h => (by cases h)⟩, rfl, rfl, fun k h => (by cases h), fun _ => rfl, fun _ => rfl, fun _ h => (by cases h)⟩
      rintro σ ⟨⟨t1, t2, t3⟩, _⟩ K hK
      obtain ⟨k1, k2⟩ := key σ t1 t2
      rw [hl] at k2
      have k2 : lop p.op σ.tm σ.H = .A pre v := k2
      exact vstepC_of_LStep (.inl ⟨k1, v, σ, by rw [k2]; exact ⟨r1, rfl, rfl⟩, rfl⟩) hK
    | C pre ob mk =>
      rw [hl] at hr
      obtain ⟨r1, rfl, rfl⟩ := hr
      have kw0 : (s, σ0.cnt s) ∈ W := by
        have := (key σ0 (fun _ _ => rfl) hrr).2
        rw [hl] at this; exact this.1
      refine ⟨⟨mk (s, σ0.cnt s), there σ0.H R, some ((s, σ0.cnt s), ob), true, σ0.tm, none⟩, ?_, ⟨⟨fun _ _ => rfl, hrr, fun _ p hp => (by cases hp; rfl)⟩, fun b h => (by cases h)⟩, rfl, rfl, fun k h => ?_, fun _ => rfl, fun h => (by cases h), fun _ h => (by cases h)⟩
      · rintro σ ⟨⟨t1, t2, t3⟩, _⟩ K hK
        obtain ⟨k1, k2⟩ := key σ t1 t2
        rw [hl] at k2
        have k2 : lop p.op σ.tm σ.H = .C pre ob mk := k2.2
        have hk : (s, σ0.cnt s) = (s, σ.cnt s) := t3 rfl _ rfl
        refine vstepC_of_LStep (.inl ⟨k1, mk (s, σ.cnt s), _, by rw [k2]; exact ⟨r1, rfl, rfl⟩, rfl⟩) ?_
        have hK : K (St.put ⟨σ.tm, hupd σ.H (s, σ0.cnt s) ob, cupd σ.cnt s⟩ p.dst (mk (s, σ0.cnt s))) := hK
        rw [hk] at hK
        exact hK
      · simp only [kw, List.mem_singleton] at h
        rw [h]; exact kw0
    | D pre u H1 =>
      rw [hl] at hr
      obtain ⟨r1, rfl, rfl⟩ := hr
      obtain ⟨k, ob, hk, rfl, hall⟩ := lop_sameD (s := s) (n := σ0.cnt s) hl
      rw [← hW] at hk
      refine ⟨⟨v, there σ0.H R, some (k, ob), false, σ0.tm, none⟩, ?_, ⟨⟨fun _ _ => rfl, hrr, fun h => (by cases h)⟩, fun b h => (by cases h)⟩, rfl, rfl, fun k' h => ?_, fun _ => rfl, fun h => (by cases h), fun _ h => (by cases h)⟩
      · rintro σ ⟨⟨t1, t2, t3⟩, _⟩ K hK
        obtain ⟨k1, _⟩ := key σ t1 t2
        have k2 : lop p.op σ.tm σ.H = .D pre v (hupd σ.H k ob) := by
          rw [op_congr t1]
          exact hall σ.H fun k' hk' => there_all hp t2 k' (hR ▸ hk')
        exact vstepC_of_LStep (.inl ⟨k1, v, _, by rw [k2]; exact ⟨r1, rfl, rfl⟩, rfl⟩) hK
      · simp only [kw, List.mem_singleton] at h
        rw [h]; exact hk
  · refine ⟨⟨.tup [], there σ0.H R, none, false, σ0.tm, none⟩, ?_, ⟨⟨fun _ _ => rfl, hrr, fun h => (by cases h)⟩, fun b h => (by cases h)⟩, rfl, rfl, fun k h => (by cases h), fun _ => rfl, fun _ => rfl, fun _ h => (by cases h)⟩
    rintro σ ⟨⟨t1, t2, t3⟩, _⟩ K hK
    exact vstepC_of_LStep (.inr ⟨by rw [gd_congr t1]; exact hg, rfl⟩) hK
/-- A call that is walked into, as an event. -/
theorem ev_of_call {s : Nat} {p : LOp} {o : Nat → V} {t t' : Tq V} {h h' : Hq} {cl : Cl} (hcl : ClOk P cl) {f : FuncId} {args sargs : List V} {pre : Prop} {v : V} (hd : dlo p.dst = true) (hg : gd (tmQ o t) p.guard = some true)
    (hl : lop p.op (tmQ o t) h.H = .call pre f args sargs) (hc : cl f args h = .ok v h') (ht : t' = (dbOf p.dst).s v t) :
    ∃ e : Ev, EvOk P s p e ∧ rdyE s p e (denq o t h) ∧ apE s p.dst e (denq o t h) = denq o t' h' ∧ EvFp e ⟨[], [], some (h, h')⟩ := by
  subst ht
  refine ⟨⟨v, [], none, false, tmQ o t, some ⟨h.H, h.c, h'.H, h'.c⟩⟩, ?_, ⟨⟨fun _ _ => rfl, fun _ h => (by cases h), fun h => (by cases h)⟩, fun b hb => (by cases hb; exact ⟨rfl, rfl⟩)⟩, (denq_put hd o t v h').symm, rfl, fun k h => (by cases h), fun h => (by cases h), fun _ => rfl, fun p hp => (by cases hp; exact ⟨⟨rfl, rfl⟩, .inr rfl⟩)⟩
  rintro ⟨tm, H, c⟩ ⟨⟨t1, _, _⟩, t4⟩ K hK
  obtain ⟨e1, e2⟩ := t4 _ rfl
  have e1 : H = h.H := e1
  have e2 : c = h.c := e2
  subst e1 e2
  have t1 : ∀ t' ∈ p.slots, tm t' = tmQ o t t' := t1
  refine ⟨_, Ent.refl _, .inr (.inl ⟨?_, pre, f, args, sargs, ?_, _, hcl f args h v h' hc tm, ?_⟩)⟩
  · show gd tm p.guard = some true
    rw [gd_congr t1]; exact hg
  · show lop p.op tm h.H = _
    rw [op_congr t1]; exact hl
  · rintro v1 σ1 ⟨rfl, rfl⟩; exact hK
theorem litR_congr {op : IOp} {tm tm' : Nat → V} (h : ∀ t ∈ op.slots, tm' t = tm t) : litR op tm' = litR op tm := by
  cases op <;> try rfl
  case bsl n zs ps => simp only [litR, (parts_congr (cs := zs) (n := 0) h).1, (parts_congr (cs := zs) (n := zs.length) h).2]
/-- A literal of the call's own, as an event. -/
theorem ev_of_lit {s : Nat} {p : LOp} {cl : Cl} {o : Nat → V} {t t' : Tq V} {h h' : Hq} (hd : dlo p.dst = true) (e : (obLit s p).run cl t h = .ok t' h') :
    ∃ e : Ev, EvOk P s p e ∧ rdyE s p e (denq o t h) ∧ apE s p.dst e (denq o t h) = denq o t' h' ∧ EvFp e ⟨[], [(s, h.c s)], none⟩ := by
  have hv : vstepL P s p (fun σ => σ = denq o t' h') (denq o t h) := obLit_ok (P := P) hd o t h t' h' e _ rfl
  obtain ⟨d, op, g⟩ := p
  cases g with
  | some g => exact hv.elim
  | none =>
    have hv : vres P (denq o t h) s d (fun σ => σ = denq o t' h') (litR op (tmQ o t)) := hv
    have hcg : ∀ tm : Nat → V, (∀ t' ∈ (⟨d, op, none⟩ : LOp).slots, tm t' = tmQ o t t') → litR op tm = litR op (tmQ o t) := by
      intro tm ht
      exact litR_congr fun t' h' => ht t' (by simp only [LOp.slots, List.mem_append]; exact .inr h')
    cases hl : litR op (tmQ o t) with
    | bad => rw [hl] at hv; exact hv.elim
    | A pre u => unfold litR at hl; repeat' split at hl
                 all_goals cases hl
    | D pre u H => unfold litR at hl; repeat' split at hl
                   all_goals cases hl
    | call pre f a b => exact absurd hl litR_nocall
    | C pre ob mk =>
      rw [hl] at hv
      obtain ⟨hpre, hv⟩ := hv
      refine ⟨⟨mk (s, h.c s), [], some ((s, h.c s), ob), true, tmQ o t, none⟩, ?_, ⟨⟨fun _ _ => rfl, fun _ h => (by cases h), fun _ p hp => (by cases hp; rfl)⟩, fun b h => (by cases h)⟩, hv, rfl, fun k h => ?_, fun _ => rfl, fun h => (by cases h), fun _ h => (by cases h)⟩
      · rintro σ ⟨⟨t1, _, t3⟩, _⟩ K hK
        have hk : (s, h.c s) = (s, σ.cnt s) := t3 rfl _ rfl
        refine ⟨σ, Ent.refl _, .inr (.inr (.inl ?_))⟩
        show vres P σ s d K (litR op σ.tm)
        rw [hcg σ.tm t1, hl]
        refine ⟨hpre, ?_⟩
        have hK : K (St.put ⟨σ.tm, hupd σ.H (s, h.c s) ob, cupd σ.cnt s⟩ d (mk (s, h.c s))) := hK
        rw [hk] at hK
        exact hK
      · simp only [kw, List.mem_singleton] at h
        rw [h]; exact List.mem_singleton.2 rfl

theorem d6Of_ok {f g : Fp} {r : Ro} {t : Tq V} {h : Hq} (e : d6Of f r = .ok t h g) : r = .ok t h ∧ g = f := by
  cases r with
  | err n => cases e
  | ok t1 h1 => cases e; exact ⟨rfl, rfl⟩
theorem ck_run {b : Bool} {x : Ob} {cl : Cl} {t t' : Tq V} {h h' : Hq} (e : (ck b x).run cl t h = .ok t' h') : b = true ∧ x.run cl t h = .ok t' h' := by
  cases b with
  | false => cases e
  | true => exact ⟨rfl, e⟩
theorem obG_any {g : Option (Nat × Bool)} {d : Option Nat} {b : Ob} {cl : Cl} {o : Nat → V} {t t' : Tq V} {h h' : Hq} (e : (obG g d b).run cl t h = .ok t' h') :
    (gd (tmQ o t) g = some true ∧ b.run cl t h = .ok t' h') ∨ (gd (tmQ o t) g = some false ∧ t' = (dbOf d).s (.tup []) t ∧ h' = h) := by
  cases g with
  | none => exact .inl ⟨rfl, e⟩
  | some p => exact obG_run e
def carg (op : IOp) (tm : Nat → V) : List V := match op with
  | .call _ a => a.map (Rd.get tm)
  | .callv x a => match x.get tm with
    | .fn _ cap => a.map (Rd.get tm) ++ cap
    | _ => []
  | _ => []
theorem call_lop {op : IOp} (hc : isCall op = true) (tm : Nat → V) : (∃ f, ∀ H, lop op tm H = .call ((carg op tm).all (sok H 8) = true) f (carg op tm) ((carg op tm).map (snap H 8))) ∨ ∀ H, lop op tm H = .bad := by
  cases op <;> try (cases hc; done)
  · rename_i f a; exact .inl ⟨f, fun H => rfl⟩
  · rename_i x a
    simp only [carg]
    cases hx : x.get tm with
    | fn f cap => exact .inl ⟨f, fun H => by simp only [lop, hx, lcallv]⟩
    | _ => exact .inr fun H => by simp only [lop, hx, lcallv]
theorem caQ_ok {op : IOp} (h : cOk op = true) (o : Nat → V) (t : Tq V) : caQ op t = carg op (tmQ o t) ∨ caQ op t = [] ∧ ∀ H, lop op (tmQ o t) H = .bad := by
  cases op <;> try (cases h; done)
  · rename_i f a; exact .inl (lb_ok o t a h)
  · rename_i x a
    simp only [cOk, Bool.and_eq_true] at h
    simp only [caQ, carg, rb_ok h.1 o t, lb_ok o t a h.2]
    cases hf : asF (x.get (tmQ o t)) with
    | fn f cap => rw [asF_fn hf]; exact .inl rfl
    | no =>
      refine .inr ⟨rfl, fun H => ?_⟩
      cases hx : x.get (tmQ o t) with
      | fn f cap => rw [hx] at hf; cases hf
      | _ => simp only [lop, hx, lcallv]
theorem dynP_ok {s : Nat} {p : LOp} {cl : Cl} (hcl : ClOk P cl) {o : Nat → V} {t t' : Tq V} {h h' : Hq} {f : Fp} (hc : isCall p.op = true) (e : dynP s p cl t h = .ok t' h' f) :
    ∃ e : Ev, EvOk P s p e ∧ rdyE s p e (denq o t h) ∧ apE s p.dst e (denq o t h) = denq o t' h' ∧ EvFp e f := by
  unfold dynP at e
  cases h1 : cOk p.op with
  | false => rw [h1] at e; cases e
  | true =>
  rw [h1] at e
  have e : Option.rec (motive := fun _ => D6) (.err 14) (fun L => Bool.rec (motive := fun _ => D6) (.err 15) (Ro.rec (motive := fun _ => D6) (fun n => .err n) (fun t' h' => .ok t' h' ⟨L, [], none⟩) ((obQ s p).run cl t h)) (allF (sok (hL L) 8) (caQ p.op t))) (thereQ h ((caQ p.op t).flatMap (rchQ h 8))) = .ok t' h' f := e
  cases h2 : thereQ h ((caQ p.op t).flatMap (rchQ h 8)) with
  | none => rw [h2] at e; cases e
  | some L =>
  rw [h2] at e
  have e : Bool.rec (motive := fun _ => D6) (.err 15) (Ro.rec (motive := fun _ => D6) (fun n => .err n) (fun t' h' => .ok t' h' ⟨L, [], none⟩) ((obQ s p).run cl t h)) (allF (sok (hL L) 8) (caQ p.op t)) = .ok t' h' f := e
  cases h3 : allF (sok (hL L) 8) (caQ p.op t) with
  | false => rw [h3] at e; cases e
  | true =>
  rw [h3] at e
  have e : Ro.rec (motive := fun _ => D6) (fun n => .err n) (fun t' h' => .ok t' h' ⟨L, [], none⟩) ((obQ s p).run cl t h) = .ok t' h' f := e
  cases h4 : (obQ s p).run cl t h with
  | err n => rw [h4] at e; cases e
  | ok t1 h5 =>
  rw [h4] at e
  cases e
  obtain ⟨hL', _⟩ := thereQ_ok h2
  have hin : ∀ q ∈ L, h.H q.1 = some q.2 := fun q hq => (there_mem (hL' ▸ hq)).2
  have hstep : LStep P s p (denq o t h) (denq o t' h') := by
    obtain ⟨σ', q1, q2⟩ := vstep_iff.1 (obQ_ok hcl o t h t' h' h4 (fun σ => σ = denq o t' h') rfl)
    exact q2 ▸ q1
  rcases hstep with ⟨hg, v, σ1, hr, he⟩ | ⟨hg, he⟩
  · rcases call_lop hc (tmQ o t) with ⟨g, hl⟩ | hb
    · have hr : RStep P (denq o t h) s (lop p.op (tmQ o t) h.H) v σ1 := hr
      rw [hl] at hr
      obtain ⟨r1, r2, r3, rfl⟩ := hr
      have ha : caQ p.op t = carg p.op (tmQ o t) := by
        rcases caQ_ok h1 o t with ha | ⟨_, hb⟩
        · exact ha
        · have := (hl h.H).symm.trans (hb h.H); cases this
      rw [allF_eq, ha] at h3
      have k1 := soks_mono (hL_sub hin) h3
      refine ⟨⟨v, L, none, false, tmQ o t, none⟩, ?_, ⟨⟨fun _ _ => rfl, hin, fun h => (by cases h)⟩, fun b h => (by cases h)⟩, (apE_still rfl rfl rfl _).trans he.symm, rfl, fun k h => (by cases h), fun _ => rfl, fun _ => rfl, fun _ h => (by cases h)⟩
      rintro σ ⟨⟨t1, t2, t3⟩, _⟩ K hK
      have k2 := soks_mono (hL_sub t2) h3
      have hl2 : lop p.op σ.tm σ.H = .call ((carg p.op (tmQ o t)).all (sok σ.H 8) = true) g (carg p.op (tmQ o t)) ((carg p.op (tmQ o t)).map (snap h.H 8)) := by
        rw [op_congr t1, hl σ.H, k2.2, k1.2]
      rw [apE_still rfl rfl rfl] at hK
      exact vstepC_of_LStep (.inl ⟨by rw [gd_congr t1]; exact hg, v, σ, by rw [hl2]; exact ⟨k2.1, r2, r3, rfl⟩, rfl⟩) hK
    · have hr : RStep P (denq o t h) s (lop p.op (tmQ o t) h.H) v σ1 := hr
      rw [hb] at hr; exact hr.elim
  · refine ⟨⟨.tup [], L, none, false, tmQ o t, none⟩, ?_, ⟨⟨fun _ _ => rfl, hin, fun h => (by cases h)⟩, fun b h => (by cases h)⟩, (apE_still rfl rfl rfl _).trans he.symm, rfl, fun k h => (by cases h), fun _ => rfl, fun _ => rfl, fun _ h => (by cases h)⟩
    rintro σ ⟨⟨t1, _, _⟩, _⟩ K hK
    rw [apE_still rfl rfl rfl] at hK
    exact vstepC_of_LStep (.inr ⟨by rw [gd_congr t1]; exact hg, rfl⟩) hK
theorem dynA_ok {s : Nat} {p : LOp} {cl : Cl} (hcl : ClOk P cl) {o : Nat → V} {t t' : Tq V} {h h' : Hq} {f : Fp} (hnc : isCall p.op = false) (e : dynA s p cl t h = .ok t' h' f) :
    ∃ e : Ev, EvOk P s p e ∧ rdyE s p e (denq o t h) ∧ apE s p.dst e (denq o t h) = denq o t' h' ∧ EvFp e f := by
  obtain ⟨d, op, g⟩ := p
  cases g with
  | some g => cases e
  | none =>
  cases op <;> try (cases e; done)
  rename_i esz bytes x y
  have e : Bool.rec (motive := fun _ => D6) (.err 17) (Option.rec (motive := fun _ => D6) (.err 18) (fun R => Ro.rec (motive := fun _ => D6) (fun n => .err n) (fun t' h' => .ok t' h' ⟨R, kbW (.app esz bytes x y) s t (h.c s), none⟩) ((obAp (dbOf d) s esz bytes (rbOf x) (rbOf y)).run cl t h)) (thereQ h ((kbR (.app esz bytes x y)).f t))) (dlo d && (rlo x && rlo y)) = .ok t' h' f := e
  cases hb : dlo d && (rlo x && rlo y) with
  | false => rw [hb] at e; cases e
  | true =>
  rw [hb] at e
  simp only [Bool.and_eq_true] at hb
  obtain ⟨hd, hx, hy⟩ := hb
  have hl2 : dlo2 (.app esz bytes x y) = true := by show (rlo x && rlo y) = true; rw [hx, hy]; rfl
  cases ha : thereQ h ((kbR (.app esz bytes x y)).f t) with
  | none => rw [ha] at e; cases e
  | some R =>
  rw [ha] at e
  obtain ⟨hR, hall⟩ := thereQ_ok ha
  rw [kbR_ok hl2 o t] at hR hall
  subst hR
  have e : Ro.rec (motive := fun _ => D6) (fun n => .err n) (fun t' h' => .ok t' h' ⟨there h.H (rdK (.app esz bytes x y) (tmQ o t)), kbW (.app esz bytes x y) s t (h.c s), none⟩) ((obAp (dbOf d) s esz bytes (rbOf x) (rbOf y)).run cl t h) = .ok t' h' f := e
  cases hc : (obAp (dbOf d) s esz bytes (rbOf x) (rbOf y)).run cl t h with
  | err n => rw [hc] at e; cases e
  | ok t1 h1 =>
  rw [hc] at e
  cases e
  have hc' := hc
  have e : Option.rec (motive := fun _ => Ro) (.err 0) (fun r => X6.rec (motive := fun _ => Ro) (.err 0) (fun _ _ => .err 0) (fun k g o n => Bool.rec (motive := fun _ => Ro) (.err 0) (Bool.rec (motive := fun _ => Ro) (.err 0) (retR (dbOf d) t (appF esz bytes h k g n r)) (srcNe k ((rbOf y).g t))) (Nat.beq o 0)) (fun _ _ _ _ _ => (.err 0))
    (Sr.rec (motive := fun _ => Ro) (fun m ys => Bool.rec (motive := fun _ => Ro) (.err 0) (newR (dbOf d) (fun k => .msl k 0 0 m) s t h (.row 0 esz ys)) (Bool.rec (motive := fun _ => Bool) false (Bool.rec (motive := fun _ => Bool) false (allF oneF ys) (Nat.ble m 4611686018427387904)) (Nat.ble (m * bytes) 140737488355328))) r)
    (fun _ => (.err 0)) (asX ((rbOf x).g t))) (qSrc h esz ((rbOf y).g t)) = .ok t' h' := hc
  rw [rb_ok hx o t, rb_ok hy o t] at e
  cases hs : qSrc h esz (y.get (tmQ o t)) with
  | none => rw [hs] at e; cases e
  | some r =>
    rw [hs] at e
    have hs := qSrc_ok hs
    cases hX : asX (x.get (tmQ o t)) with
    | no => rw [hX] at e; cases e
    | sl => rw [hX] at e; cases e
    | mv => rw [hX] at e; cases e
    | st => rw [hX] at e; cases e
    | e0 =>
      have hstep : LStep P s ⟨d, .app esz bytes x y, none⟩ (denq o t h) (denq o t' h') := by
        rw [hX] at e
        obtain ⟨m, ys⟩ := r
        obtain ⟨hc, e⟩ := bool_err e
        obtain ⟨h1, hc⟩ := bool_and hc
        obtain ⟨h2, h3⟩ := bool_and hc
        have h1 := nble_le h1
        have h2 := nble_le h2
        rw [allF_eq, oneF_fun] at h3
        have hl : lop (.app esz bytes x y) (tmQ o t) h.H = .C (m * bytes ≤ 140737488355328 ∧ m ≤ 4611686018427387904 ∧ ys.all V.one = true) (.row 0 esz ys) fun k => .msl k 0 0 m := by
          simp only [lop, lappx, hs, asX_e0 hX, lapp]
        have hv : vstep P s ⟨d, .app esz bytes x y, none⟩ (fun σ => σ = denq o t' h') (denq o t h) := by
          rw [vstep_none]
          show vres P (denq o t h) s d (fun σ => σ = denq o t' h') (lop (.app esz bytes x y) (tmQ o t) h.H)
          rw [hl]
          exact ⟨⟨h1, h2, h3⟩, newR_ok (K := fun σ => σ = denq o t' h') (mk := fun k => .msl k 0 0 m) hd e rfl⟩
        obtain ⟨σ', q1, q2⟩ := vstep_iff.1 hv
        exact q2 ▸ q1
      exact ev_of_step (p := ⟨d, .app esz bytes x y, none⟩) rfl rfl rfl (kbW_ok hl2 o t _ _) hall hstep
    | ms k g' of n =>
      rw [hX] at e
      obtain ⟨h0, e⟩ := bool_err e
      have h0 := Nat.eq_of_beq_eq_true h0
      subst h0
      obtain ⟨hne, e⟩ := bool_err e
      obtain ⟨v, h1, rfl⟩ := retR_ok e
      obtain ⟨cs, q1, q2, q3, rfl, q5, q6⟩ := appF_ok h1
      have hkin : k ∈ rdK (.app esz bytes x y) (tmQ o t) := by
        simp only [rdK, asX_ms hX, keysV]
        exact List.mem_append_left _ (List.mem_singleton.2 rfl)
      refine ⟨⟨.msl k (g' + 1) 0 (n + r.n), there h.H (rdK (.app esz bytes x y) (tmQ o t)), some (k, .row (g' + 1) esz (cs.take (n * esz) ++ r.cs)), false, tmQ o t, none⟩, ?_, ⟨⟨fun _ _ => rfl, fun q hq => (there_mem hq).2, fun h => (by cases h)⟩, fun b h => (by cases h)⟩, ?_, rfl, fun k' h => ?_, fun _ => rfl, fun h => (by cases h), fun _ h => (by cases h)⟩
      · rintro σ ⟨⟨t1, t2, t3⟩, _⟩ K hK
        have hsame := there_all hall t2
        have hkσ : σ.H k = some (.row g' esz cs) := (hsame k hkin).trans q1
        have hsσ : srcOf σ.H esz (y.get (tmQ o t)) = some (r.n, r.cs) := by
          rw [src_same (H := h.H) fun k' hk' => hsame k' (List.mem_append_right _ hk')]
          exact hs
        refine ⟨_, shrink_ent σ.tm σ.H σ.cnt k (n * esz) hkσ, .inl ?_⟩
        have hk : hupd σ.H k (.row g' esz (cs.take (n * esz))) k = some (.row g' esz (cs.take (n * esz))) := by simp [hupd]
        have hl : lop (.app esz bytes x y) σ.tm (hupd σ.H k (.row g' esz (cs.take (n * esz)))) = .D ((g' = g' ∧ esz = esz ∧ 0 = 0 ∧ (cs.take (n * esz)).length = n * esz) ∧ (n + r.n) * bytes ≤ 140737488355328 ∧ n + r.n ≤ 4611686018427387904 ∧ r.cs.all V.one = true)
            (.msl k (g' + 1) 0 (n + r.n)) (hupd (hupd σ.H k (.row g' esz (cs.take (n * esz)))) k (.row (g' + 1) esz (cs.take (n * esz) ++ r.cs))) := by
          rw [show lop (.app esz bytes x y) σ.tm (hupd σ.H k (.row g' esz (cs.take (n * esz)))) = lop (.app esz bytes x y) (tmQ o t) (hupd σ.H k (.row g' esz (cs.take (n * esz)))) from op_congr (o := ⟨d, .app esz bytes x y, none⟩) t1]
          simp only [lop, lappx, srcNe_ok hne, hsσ, asX_ms hX, lapp, hk]
        show vresM P ⟨σ.tm, hupd σ.H k (.row g' esz (cs.take (n * esz))), σ.cnt⟩ s d K (lop (.app esz bytes x y) σ.tm (hupd σ.H k (.row g' esz (cs.take (n * esz)))))
        rw [hl]
        refine ⟨⟨⟨rfl, rfl, rfl, by rw [List.length_take]; omega⟩, q3⟩, ?_⟩
        have hh : hupd (hupd σ.H k (.row g' esz (cs.take (n * esz)))) k (.row (g' + 1) esz (cs.take (n * esz) ++ r.cs)) = hupd σ.H k (.row (g' + 1) esz (cs.take (n * esz) ++ r.cs)) := by
          funext x
          simp only [hupd]
          split <;> rfl
        rw [hh]
        exact hK
      · rw [denq_put hd]
        show St.put ⟨tmQ o t, hupd h.H k _, h.c⟩ d _ = _
        rw [q5, q6]
      · simp only [kw, List.mem_singleton] at h
        rw [h]
        show k ∈ kbW (.app esz bytes x y) s t _
        rw [kbW_ok hl2 o t]
        simp only [wrK, asX_ms hX, keysV]
        exact List.mem_cons_of_mem _ (List.mem_singleton.2 rfl)
theorem dynS_ok {m : Bool} {s : Nat} {p : LOp} {cl : Cl} (hcl : ClOk P cl) {o : Nat → V} {t t' : Tq V} {h h' : Hq} {f : Fp} (hop : (isCall p.op || dynOp p.op) = true) (hl2 : dlo2 p.op = true) (e : dynS m s p cl t h = .ok t' h' f) :
    ∃ e : Ev, EvOk P s p e ∧ rdyE s p e (denq o t h) ∧ apE s p.dst e (denq o t h) = denq o t' h' ∧ EvFp e f := by
  unfold dynS at e
  cases hc : isCall p.op with
  | true =>
    rw [hc] at e
    cases m with
    | true => exact dynP_ok hcl hc e
    | false =>
    have e : Ro.rec (motive := fun _ => D6) (fun n => .err n) (fun t' h' => .ok t' h' ⟨[], [], some (h, h')⟩) ((ck (dlo p.dst) (obN s p)).run cl t h) = .ok t' h' f := e
    obtain ⟨e1, hf⟩ : (ck (dlo p.dst) (obN s p)).run cl t h = .ok t' h' ∧ f = ⟨[], [], some (h, h')⟩ := by
      cases hq : (ck (dlo p.dst) (obN s p)).run cl t h with
      | err n => rw [hq] at e; cases e
      | ok t1 h1 => rw [hq] at e; cases e; exact ⟨rfl, rfl⟩
    subst hf
    obtain ⟨hd, e2⟩ := ck_run e1
    clear e e1
    have e : (obG p.guard p.dst (obC0 s p.dst p.op)).run cl t h = .ok t' h' := e2
    rcases obG_any (o := o) e with ⟨hg, e⟩ | ⟨hg, rfl, rfl⟩
    · cases hp : p.op <;> rw [hp] at hc e <;> try (cases hc; done)
      · rename_i g args
        obtain ⟨hl, e⟩ := ck_run (b := llo args) e
        obtain ⟨v, h1, h2⟩ := retC_ok e
        rw [lb_ok o t args hl] at h1
        exact ev_of_call hcl hd hg (by rw [hp]; rfl) h1 h2
      · rename_i x args
        obtain ⟨hl, e⟩ := ck_run (b := rlo x && llo args) e
        simp only [Bool.and_eq_true] at hl
        have e : F6.rec (motive := fun _ => Ro) (.err 0) (fun f cap => retC (dbOf p.dst) t (cl f ((lbOf args).f t ++ cap) h)) (asF ((rbOf x).g t)) = .ok t' h' := e
        rw [rb_ok hl.1 o t] at e
        cases hf : asF (x.get (tmQ o t)) with
        | no => rw [hf] at e; cases e
        | fn g cap =>
          rw [hf] at e
          obtain ⟨v, h1, h2⟩ := retC_ok e
          rw [lb_ok o t args hl.2] at h1
          have hl3 : lop p.op (tmQ o t) h.H = .call ((args.map (Rd.get (tmQ o t)) ++ cap).all (sok h.H 8) = true) g (args.map (Rd.get (tmQ o t)) ++ cap) ((args.map (Rd.get (tmQ o t)) ++ cap).map (snap h.H 8)) := by
            rw [hp]
            show lcallv _ (x.get (tmQ o t)) _ = _
            rw [asF_fn hf]; rfl
          exact ev_of_call hcl hd hg hl3 h1 h2
    · refine ⟨⟨.tup [], [], none, false, tmQ o t, none⟩, ?_, ⟨⟨fun _ _ => rfl, fun _ h => (by cases h), fun h => (by cases h)⟩, fun b h => (by cases h)⟩, (denq_put hd o t _ h').symm, rfl, fun k h => (by cases h), fun h => (by cases h), fun _ => rfl, fun p hp => ⟨⟨rfl, rfl⟩, .inl rfl⟩⟩
      rintro σ ⟨⟨t1, _, _⟩, _⟩ K hK
      exact vstepC_of_LStep (.inr ⟨by rw [gd_congr t1]; exact hg, rfl⟩) hK
  | false =>
    rw [hc] at e hop
    have hop : dynOp p.op = true := hop
    cases ha : thereQ h ((kbR p.op).f t) with
    | none => rw [ha] at e; cases e
    | some R =>
      rw [ha] at e
      obtain ⟨hR, hall⟩ := thereQ_ok ha
      subst hR
      have e : Ro.rec (motive := fun _ => D6) (fun n => d6Or (d6Of ⟨[], [(s, h.c s)], none⟩ ((ck (dlo p.dst) (obLit s p)).run cl t h)) (dynA s p cl t h)) (fun t' h' => .ok t' h' ⟨there h.H ((kbR p.op).f t), kbW p.op s t (h.c s), none⟩) ((obQ s p).run cl t h) = .ok t' h' f := e
      cases hb : (obQ s p).run cl t h with
      | err n =>
        rw [hb] at e
        have e : d6Or (d6Of ⟨[], [(s, h.c s)], none⟩ ((ck (dlo p.dst) (obLit s p)).run cl t h)) (dynA s p cl t h) = .ok t' h' f := e
        cases hz : d6Of ⟨[], [(s, h.c s)], none⟩ ((ck (dlo p.dst) (obLit s p)).run cl t h) with
        | err n =>
          rw [hz] at e
          exact dynA_ok hcl hc e
        | ok t1 h1 f1 =>
        rw [hz] at e
        cases e
        obtain ⟨e1, rfl⟩ := d6Of_ok hz
        obtain ⟨hd, e2⟩ := ck_run e1
        exact ev_of_lit hd e2
      | ok t1 h1 =>
        rw [hb] at e
        cases e
        have hstep : LStep P s p (denq o t h) (denq o t' h') := by
          obtain ⟨σ', q1, q2⟩ := vstep_iff.1 (obQ_ok hcl o t h t' h' hb (fun σ => σ = denq o t' h') rfl)
          exact q2 ▸ q1
        exact ev_of_step hop hc (kbR_ok hl2 o t) (kbW_ok hl2 o t _ _) hall hstep

theorem dynR_ok {m : Bool} {cl : Cl} (hcl : ClOk P cl) {rid : Nat} {ops0 : List LOp} (o : Nat → V) : ∀ (ops : List LOp) (i : Nat), ops = ops0.drop i → i + ops.length = ops0.length → dynAll ops = true → ∀ (t : Tq V) (h : Hq) (t' : Tq V) (h' : Hq) (fs : List Fp), dynR m rid ops i cl t h = .ok t' h' fs →
    ∃ ev : Nat → Ev, (∀ k, i ≤ k → k < ops0.length → EvOk P (siteOf rid k) (loAt ops0 k) (ev k) ∧ EvFp (ev k) (fpAt fs (k - i))) ∧ RunE rid (loAt ops0) ev (List.range' i ops.length) (denq o t h) (denq o t' h')
  | [], i, hd, hn, _, t, h, t', h', fs, e => by
    cases e
    exact ⟨fun _ => ⟨.junk, [], none, false, fun _ => .junk, none⟩, fun k h1 h2 => by simp at hn; omega, rfl⟩
  | p :: ops, i, hd, hn, ha, t, h, t', h', fs, e => by
    have ha : Bool.rec (motive := fun _ => Bool) false (dynAll ops) ((isCall p.op || dynOp p.op) && dlo2 p.op) = true := ha
    obtain ⟨ha1, ha2⟩ := bool_and ha
    rw [Bool.and_eq_true] at ha1
    have e : D6.rec (motive := fun _ => Rd6) (fun n => .err (Nat.rec (motive := fun _ => Nat) (siteOf rid i) (fun _ _ => n) n)) (fun t' h' f => Rd6.rec (motive := fun _ => Rd6) (fun n => .err n) (fun t'' h'' fs => .ok t'' h'' (f :: fs)) (dynR m rid ops (i + 1) cl t' h')) (dynS m (siteOf rid i) p cl t h) = .ok t' h' fs := e
    cases hb : dynS m (siteOf rid i) p cl t h with
    | err n => rw [hb] at e; cases e
    | ok t1 h1 f1 =>
      rw [hb] at e
      have e : Rd6.rec (motive := fun _ => Rd6) (fun n => .err n) (fun t'' h'' fs => .ok t'' h'' (f1 :: fs)) (dynR m rid ops (i + 1) cl t1 h1) = .ok t' h' fs := e
      cases hr : dynR m rid ops (i + 1) cl t1 h1 with
      | err n => rw [hr] at e; cases e
      | ok t2 h2 fs2 =>
        rw [hr] at e
        cases e
        obtain ⟨ev0, v1, v2, v3, v4⟩ := dynS_ok (P := P) hcl (o := o) ha1.1 ha1.2 hb
        have hd1 : ops = ops0.drop (i + 1) := by rw [← List.tail_drop, ← hd]; rfl
        have hlo : loAt ops0 i = p := by
          have := congrArg (fun l => l[0]?) hd
          simp only [List.getElem?_cons_zero, List.getElem?_drop, Nat.add_zero] at this
          simp only [loAt, List.getD_eq_getElem?_getD, ← this, Option.getD_some]
        obtain ⟨ev, w1, w2⟩ := dynR_ok hcl o ops (i + 1) hd1 (by simp only [List.length_cons] at hn; omega) ha2 t1 h1 t' h' fs2 hr
        refine ⟨fun k => if k = i then ev0 else ev k, fun k k1 k2 => ?_, ?_⟩
        · by_cases hk : k = i
          · subst hk
            simp only [if_true, hlo, Nat.sub_self]
            exact ⟨v1, v4⟩
          · simp only [if_neg hk]
            obtain ⟨x1, x2⟩ := w1 k (by omega) k2
            have hs : k - i = (k - (i + 1)) + 1 := by omega
            rw [hs]
            exact ⟨x1, x2⟩
        · rw [List.length_cons, List.range'_succ]
          refine ⟨?_, ?_⟩
          · simp only [if_true, hlo]; exact v2
          · simp only [if_true, hlo, v3]
            refine runE_congr (fun j hj => ?_) w2
            have := (List.mem_range'_1.1 hj).1
            rw [if_neg (by omega)]
theorem still_of {e : Ev} {f : Fp} (hf : EvFp e f) (hw : f.W = []) : e.w = none ∧ e.nw = false := by
  obtain ⟨f1, f2, f3, f4, f5⟩ := hf
  have hw : e.w = none := by
    cases hw' : e.w with
    | none => rfl
    | some q =>
      have := f2 q.1 (by simp [kw, hw'])
      rw [hw] at this; cases this
  exact ⟨hw, f4 hw⟩
theorem calmF_ok {e : Ev} {f : Fp} (hf : EvFp e f) (h : calmF f = true) : calm e := by
  simp only [calmF, Bool.and_eq_true, Option.isNone_iff_eq_none, List.isEmpty_iff] at h
  obtain ⟨h1, h2, h3⟩ := h
  obtain ⟨hw, hn⟩ := still_of hf h3
  exact ⟨by rw [hf.1, h2], hw, hn, hf.2.2.1 h1⟩
theorem stillF_ok {e f : Ev} {a b : Fp} (he : EvFp e a) (hf : EvFp f b) (h : stillF a b = true) : calm e ∨ calmB e f := by
  unfold stillF at h
  cases hb : a.big with
  | none => rw [hb] at h; cases h
  | some p =>
    rw [hb] at h
    have h : (b.big.isNone && (b.W.isEmpty && (stillQ p.1 b.R && stillQ p.2 b.R))) = true := h
    simp only [Bool.and_eq_true, Option.isNone_iff_eq_none, List.isEmpty_iff] at h
    obtain ⟨h1, h2, h3, h4⟩ := h
    obtain ⟨hw, hn⟩ := still_of hf h2
    obtain ⟨⟨r1, r2⟩, r3⟩ := he.2.2.2.2 p hb
    obtain ⟨ew, en⟩ := still_of he r2
    rcases r3 with r3 | r3
    · exact .inl ⟨by rw [he.1, r1], ew, en, r3⟩
    · refine .inr ⟨_, r3, hw, hn, hf.2.2.1 h1, fun q hq => ?_⟩
      rw [hf.1] at hq
      exact ⟨stillQ_ok h3 q hq, stillQ_ok h4 q hq⟩
theorem cdF_ok {m : Bool} {no : Cl → Tq V → Hq → Rs} {cl : Cl} (hcl : ClOk P cl) {rid : Nat} {bs : List Nat} (o : Nat → V) (ops : List LOp) (ha : dynAll ops = true) (t : Tq V) (h : Hq) (r : Rs) (e : cdF rid bs ops no m cl t h = r)
    (hno : ∀ r, no cl t h = r → (∃ n, r = .err n) ∨ ∃ t' h', r = .nm t' h' ∧ ∀ K : St → Prop, K (denq o t' h') → vregd P rid bs ops K (denq o t h)) : (∃ n, r = .err n) ∨ ∃ t' h', r = .nm t' h' ∧ ∀ K : St → Prop, K (denq o t' h') → vregd P rid bs ops K (denq o t h) := by
    have e : Rd6.rec (motive := fun _ => Rs) (fun n => .err n) (fun t' h' fs => Bool.rec (motive := fun _ => Rs) (no cl t h) (.nm t' h') (dpOk bs ops fs)) (dynR m rid ops 0 cl t h) = r := e
    cases hr : dynR m rid ops 0 cl t h with
    | err n => rw [hr] at e; exact .inl ⟨_, e.symm⟩
    | ok t' h' fs =>
      rw [hr] at e
      have e : Bool.rec (motive := fun _ => Rs) (no cl t h) (.nm t' h') (dpOk bs ops fs) = r := e
      cases hp : dpOk bs ops fs with
      | false => rw [hp] at e; exact hno r e
      | true =>
        rw [hp] at e
        refine .inr ⟨t', h', e.symm, fun K hK => ?_⟩
        obtain ⟨ev, w1, w2⟩ := dynR_ok hcl (rid := rid) (ops0 := ops) o ops 0 rfl (by simp) ha t h t' h' fs hr
        refine ⟨ev, fun i hi => (w1 i (Nat.zero_le _) hi).1, fun i j hj hi hb => ?_, _, by rw [List.range_eq_range']; exact w2, hK⟩
        have h1 := List.all_eq_true.1 hp i (List.mem_range.2 hi)
        have h2 := List.all_eq_true.1 h1 j (List.mem_range.2 hj)
        rw [hb] at h2
        simp only [Bool.false_or, Bool.and_eq_true] at h2
        obtain ⟨a1, a2⟩ := h2
        obtain ⟨_, fi⟩ := w1 i (Nat.zero_le _) hi
        obtain ⟨_, fj⟩ := w1 j (Nat.zero_le _) (by omega)
        rw [Nat.sub_zero] at fi fj
        refine ⟨a1, ?_⟩
        simp only [fpOk, Bool.or_eq_true] at a2
        rcases a2 with a2 | a2 | a2 | a2 | a2
        · exact .inr (.inl (calmF_ok fj a2))
        · exact .inr (.inr (.inl (calmF_ok fi a2)))
        · rcases stillF_ok fj fi a2 with h | h
          · exact .inr (.inl h)
          · exact .inr (.inr (.inr (.inl h)))
        · rcases stillF_ok fi fj a2 with h | h
          · exact .inr (.inr (.inl h))
          · exact .inr (.inr (.inr (.inr h)))
        · simp only [Bool.and_eq_true, Option.isNone_iff_eq_none] at a2
          obtain ⟨b1, b2, a2, a3, a4⟩ := a2
          exact .inl ⟨fj.2.2.1 b1, fi.2.2.1 b2, fun k hk => ⟨fun hm => disjK_ok a2 k (fj.2.1 k hk) (fi.1 ▸ hm), fun hm => disjK_ok a3 k (fj.2.1 k hk) (fi.2.1 k hm)⟩, fun k hk hm => disjK_ok a4 k (fi.2.1 k hk) (fj.1 ▸ hm)⟩
theorem cdE_ok {cl : Cl} (hcl : ClOk P cl) {rid : Nat} {bs : List Nat} (o : Nat → V) (ops : List LOp) (t : Tq V) (h : Hq) (r : Rs) (e : (cdE rid bs ops).run cl t h = r) : (∃ n, r = .err n) ∨ ∃ t' h', r = .nm t' h' ∧ ∀ K : St → Prop, K (denq o t' h') → vregd P rid bs ops K (denq o t h) := by
  have e : (Bool.rec (motive := fun _ => Cd) ⟨fun _ _ _ => .err (siteOf rid 4000)⟩ ⟨fun cl t h => cdF rid bs ops (fun cl t h => cdF rid bs ops (fun _ _ _ => .err (siteOf rid 4001)) true cl t h) false cl t h⟩ (dynAll ops) : Cd).run cl t h = r := e
  cases ha : dynAll ops with
  | false => rw [ha] at e; exact .inl ⟨_, e.symm⟩
  | true =>
    rw [ha] at e
    exact cdF_ok hcl o ops ha t h r e fun r e => cdF_ok hcl o ops ha t h r e fun r e => .inl ⟨_, e.symm⟩
end
end Go.Lg

set_option linter.unusedSimpArgs false
set_option linter.unusedVariables false
namespace Go.Lg
open Go Go.RowKit

/-! Bodies. -/
noncomputable def tick (f : Tq V → Hq → Rs) (t : Tq V) (h : Hq) : Rs := f t h
noncomputable def cdSeq (x y : Cd) : Cd := ⟨fun cl t h => Rs.rec (motive := fun _ => Rs) (fun n => .err n) (fun t h => y.run cl t h) (fun i t h => .ex i t h) (fun t h => .rt t h) (x.run cl t h)⟩
noncomputable def cdCond (c : Rb) (x y : Cd) : Cd := ⟨fun cl t h => B6.rec (motive := fun _ => Rs) (.err 0) (fun b => Bool.rec (motive := fun _ => Rs) (y.run cl t h) (x.run cl t h) b) (asB (c.g t))⟩
noncomputable def cdBlock (id : Nat) (x : Cd) : Cd := ⟨fun cl t h => Rs.rec (motive := fun _ => Rs) (fun n => .err n) (fun t h => .nm t h) (fun i t h => Bool.rec (motive := fun _ => Rs) (.ex i t h) (.nm t h) (Nat.beq i id)) (fun t h => .rt t h) (x.run cl t h)⟩
noncomputable def lpR (x : Tq V → Hq → Rs) (n : Nat) : Tq V → Hq → Rs := Nat.rec (motive := fun _ => Tq V → Hq → Rs) (fun _ _ => .err 1) (fun _ ih t h => Rs.rec (motive := fun _ => Rs) (fun n => .err n) (fun t h => tick ih t h) (fun i t h => .ex i t h) (fun t h => .rt t h) (x t h)) n
def lpFuel : Nat := 1000000
noncomputable def cdLoop (x : Cd) : Cd := ⟨fun cl t h => lpR (x.run cl) lpFuel t h⟩
theorem loop_run (x : Cd) (cl : Cl) (t : Tq V) (h : Hq) : (cdLoop x).run cl t h = lpR (x.run cl) lpFuel t h := rfl
noncomputable def cdErr : Cd := ⟨fun _ _ _ => .err 2⟩
noncomputable def comp (c : LC) : Cd := LC.rec (motive := fun _ => Cd) cdNil (fun rid ops => cdD rid ops 0) (fun _ _ => cdErr) (fun _ _ x y => cdSeq x y) (fun c _ _ x y => Bool.rec (motive := fun _ => Cd) cdErr (cdCond (rbOf c) x y) (rlo c)) (fun id _ x => cdBlock id x) (fun _ x => cdLoop x) (fun id => ⟨fun _ t h => .ex id t h⟩) ⟨fun _ t h => .rt t h⟩ cdErr (fun _ _ _ => cdErr) (fun _ _ _ _ => cdErr) (fun _ _ => cdErr) (fun rid ops => cdC rid ops 0) (fun rid bs ops => cdE rid bs ops) (fun rid _ ops => cdD rid ops 0) (fun rid bs ops => cdE rid bs ops) (fun _ _ _ => cdErr) (fun _ _ _ _ => cdErr) (fun _ _ _ _ => cdErr) c

theorem comp_loop (x : LC) : comp (.loop x) = cdLoop (comp x) := rfl
/-- All literals' kinds fit. -/
def LC.kinds : LC → Prop
  | .regc _ ops => kOk ops
  | .seq x y => x.kinds ∧ y.kinds
  | .cond _ x y => x.kinds ∧ y.kinds
  | .block _ x => x.kinds
  | .loop x => x.kinds
  | _ => True

/-- What came out of a body, as the logic's end. -/
def endsQ (o : Nat → V) (Q : Exit → St → Prop) : Rs → Prop
  | .err _ => False
  | .nm t h => Q .normal (denq o t h)
  | .ex i t h => Q (.exit i) (denq o t h)
  | .rt t h => Q .ret (denq o t h)

def loopN (body : (Exit → St → Prop) → St → Prop) (Q : Exit → St → Prop) : Nat → St → Prop
  | 0, _ => False
  | k + 1, σ => body (thenQ (loopN body Q k) Q) σ
theorem loop_of_N {P : Program} {x : LC} {Q : Exit → St → Prop} {k : Nat} {σ : St} (h : loopN (vcg P x) Q k σ) : vcg P (.loop x) Q σ := by
  refine ⟨fun n σ1 => loopN (vcg P x) Q n σ1, ⟨k, σ, Ent.refl _, h⟩, ?_⟩
  intro n σ1 hI
  cases n with
  | zero => exact hI.elim
  | succ n =>
    refine vcg_mono (c := x) ?_ hI
    intro e σ2 h2
    cases e with
    | normal => exact ⟨n, σ2, Nat.lt_succ_self n, Ent.refl _, h2⟩
    | _ => exact h2

section
variable {P : Program} {cl : Cl}
theorem lpR_ok {x : LC} {f : Tq V → Hq → Rs} {o : Nat → V} (hf : ∀ t h Q, endsQ o Q (f t h) → vcg P x Q (denq o t h)) : ∀ (n : Nat) (t : Tq V) (h : Hq) (Q : Exit → St → Prop), endsQ o Q (lpR f n t h) → loopN (vcg P x) Q n (denq o t h)
  | 0, t, h, Q, e => e
  | n + 1, t, h, Q, e => by
    have e : endsQ o Q (Rs.rec (motive := fun _ => Rs) (fun n => .err n) (fun t h => tick (lpR f n) t h) (fun i t h => .ex i t h) (fun t h => .rt t h) (f t h)) := e
    refine hf t h _ ?_
    cases hr : f t h with
    | err n => rw [hr] at e; exact e
    | nm t' h' => rw [hr] at e; exact lpR_ok hf n t' h' Q e
    | ex i t' h' => rw [hr] at e; exact e
    | rt t' h' => rw [hr] at e; exact e
theorem comp_ok {cl : Cl} (hcl : ClOk P cl) : ∀ (c : LC), c.kinds → ∀ (o : Nat → V) (t : Tq V) (h : Hq) (Q : Exit → St → Prop), endsQ o Q ((comp c).run cl t h) → vcg P c Q (denq o t h)
  | .skip, _, o, t, h, Q, e => e
  | .reg rid ops, _, o, t, h, Q, e => by
    rcases cdD_ok hcl (rid := rid) o ops 0 t h _ rfl with ⟨n, he⟩ | ⟨t', h', he, hK⟩
    · have e : endsQ o Q ((cdD rid ops 0).run cl t h) := e
      rw [he] at e; exact e.elim
    · have e : endsQ o Q ((cdD rid ops 0).run cl t h) := e
      rw [he] at e; exact hK (Q .normal) e
  | .regc rid ops, hk, o, t, h, Q, e => by
    rcases cdC_ok hcl (rid := rid) o ops 0 t h _ hk rfl with ⟨n, he⟩ | ⟨t', h', he, hK⟩
    · have e : endsQ o Q ((cdC rid ops 0).run cl t h) := e
      rw [he] at e; exact e.elim
    · have e : endsQ o Q ((cdC rid ops 0).run cl t h) := e
      rw [he] at e; exact hK (Q .normal) e
  | .rego rid ops, _, o, t, h, Q, e => e.elim
  | .seq x y, hk, o, t, h, Q, e => by
    have e : endsQ o Q (Rs.rec (motive := fun _ => Rs) (fun n => .err n) (fun t h => (comp y).run cl t h) (fun i t h => .ex i t h) (fun t h => .rt t h) ((comp x).run cl t h)) := e
    refine comp_ok hcl x hk.1 o t h _ ?_
    cases hr : (comp x).run cl t h with
    | err n => rw [hr] at e; exact e
    | nm t' h' => rw [hr] at e; exact comp_ok hcl y hk.2 o t' h' Q e
    | ex i t' h' => rw [hr] at e; exact e
    | rt t' h' => rw [hr] at e; exact e
  | .cond c x y, hk, o, t, h, Q, e => by
    have e : endsQ o Q ((Bool.rec (motive := fun _ => Cd) cdErr (cdCond (rbOf c) (comp x) (comp y)) (rlo c) : Cd).run cl t h) := e
    cases hc : rlo c with
    | false => rw [hc] at e; exact e.elim
    | true =>
      rw [hc] at e
      have e : endsQ o Q (B6.rec (motive := fun _ => Rs) (.err 0) (fun b => Bool.rec (motive := fun _ => Rs) ((comp y).run cl t h) ((comp x).run cl t h) b) (asB ((rbOf c).g t))) := e
      rw [rb_ok hc o t] at e
      show condV (c.get (tmQ o t)) (vcg P x Q) (vcg P y Q) (denq o t h)
      cases hb : asB (c.get (tmQ o t)) with
      | no => rw [hb] at e; exact e.elim
      | ok b =>
        rw [hb] at e; rw [asB_ok hb]
        cases b with
        | false => exact comp_ok hcl y hk.2 o t h Q e
        | true => exact comp_ok hcl x hk.1 o t h Q e
  | .block id x, hk, o, t, h, Q, e => by
    have e : endsQ o Q (Rs.rec (motive := fun _ => Rs) (fun n => .err n) (fun t h => .nm t h) (fun i t h => Bool.rec (motive := fun _ => Rs) (.ex i t h) (.nm t h) (Nat.beq i id)) (fun t h => .rt t h) ((comp x).run cl t h)) := e
    refine comp_ok hcl x hk o t h _ ?_
    cases hr : (comp x).run cl t h with
    | err n => rw [hr] at e; exact e
    | nm t' h' => rw [hr] at e; exact e
    | ex i t' h' =>
      rw [hr] at e
      have e : endsQ o Q (Bool.rec (motive := fun _ => Rs) (.ex i t' h') (.nm t' h') (Nat.beq i id)) := e
      rw [nbeq] at e
      show blockQ id Q (.exit i) (denq o t' h')
      by_cases hi : i = id
      · rw [decide_eq_true hi] at e; simp only [blockQ, if_pos hi]; exact e
      · rw [decide_eq_false hi] at e; simp only [blockQ, if_neg hi]; exact e
    | rt t' h' => rw [hr] at e; exact e
  | .loop x, hk, o, t, h, Q, e => by
    rw [comp_loop, loop_run] at e
    exact loop_of_N (lpR_ok (fun t h Q e => comp_ok hcl x hk o t h Q e) lpFuel t h Q e)
  | .exit id, _, o, t, h, Q, e => e
  | .ret, _, o, t, h, Q, e => e
  | .bad, _, o, t, h, Q, e => e.elim
  | .keep ls x, _, o, t, h, Q, e => e.elim
  | .join x y, _, o, t, h, Q, e => e.elim
  | .regb rid ops, _, o, t, h, Q, e => e.elim
  | .regg rid bs ops, _, o, t, h, Q, e => e.elim
  | .regh k rid bs ops, _, o, t, h, Q, e => e.elim
  | .regv k rid bs ops, _, o, t, h, Q, e => e.elim
  | .regd rid bs ops, _, o, t, h, Q, e => by
    rcases cdE_ok hcl (rid := rid) (bs := bs) o ops t h _ rfl with ⟨n, he⟩ | ⟨t', h', he, hK⟩
    · have e : endsQ o Q ((cdE rid bs ops).run cl t h) := e
      rw [he] at e; exact e.elim
    · have e : endsQ o Q ((cdE rid bs ops).run cl t h) := e
      rw [he] at e; exact hK (Q .normal) e
  | .rege rid bs ops, _, o, t, h, Q, e => by
    rcases cdE_ok hcl (rid := rid) (bs := bs) o ops t h _ rfl with ⟨n, he⟩ | ⟨t', h', he, hK⟩
    · have e : endsQ o Q ((cdE rid bs ops).run cl t h) := e
      rw [he] at e; exact e.elim
    · have e : endsQ o Q ((cdE rid bs ops).run cl t h) := e
      rw [he] at e; exact hK (Q .normal) e
  | .regf rid bs ops, _, o, t, h, Q, e => by
    rcases cdD_ok hcl (rid := rid) o ops 0 t h _ rfl with ⟨n, he⟩ | ⟨t', h', he, hK⟩
    · have e : endsQ o Q ((cdD rid ops 0).run cl t h) := e
      rw [he] at e; exact e.elim
    · have e : endsQ o Q ((cdD rid ops 0).run cl t h) := e
      rw [he] at e; exact hK (Q .normal) e
end

/-! Which literals are objects. -/
def usesT (k : Nat) : IOp → Bool
  | .app _ _ _ (.tmp j) | .appE _ _ _ (.tmp j) => Nat.beq j k
  | _ => false
def kindOf (ops : List LOp) (o : LOp) : Nat := match o.guard, o.op, o.dst with
  | none, .bsl n _ _, some k => if n = 0 then 2 else if ops.any (fun p => usesT k p.op) then 3 else 4
  | _, _, _ => 2
/-- Bodies as they are reckoned. -/
def LC.lit : LC → LC
  | .rego rid ops => .regc rid (ops.map fun o => (kindOf ops o, o))
  | .seq x y => .seq x.lit y.lit
  | .cond c x y => .cond c x.lit y.lit
  | .block id x => .block id x.lit
  | .loop x => .loop x.lit
  | .keep _ x => x.lit
  | .join x y => .seq x.lit y.lit
  | .regb rid ops => .regc rid (ops.map fun o => (kindOf (ops.map (·.2)) o.2, o.2))
  | .regc rid ops => .regc rid (ops.map fun o => (kindOf (ops.map (·.2)) o.2, o.2))
  | .regf rid bs ops => .rege rid bs ops
  | c => c
theorem kindOf_ge (ops : List LOp) (o : LOp) : 2 ≤ kindOf ops o := by
  unfold kindOf
  repeat' split
  all_goals omega
theorem kOk_map {α : Type} (f : α → Nat × LOp) (h : ∀ a, 2 ≤ (f a).1) : ∀ l : List α, kOk (l.map f)
  | [] => trivial
  | a :: l => ⟨h a, kOk_map f h l⟩
theorem lit_kinds : ∀ c : LC, c.lit.kinds
  | .rego rid ops => kOk_map _ (fun o => kindOf_ge ops o) ops
  | .regb rid ops => kOk_map _ (fun o => kindOf_ge (ops.map (·.2)) o.2) ops
  | .regc rid ops => kOk_map _ (fun o => kindOf_ge (ops.map (·.2)) o.2) ops
  | .seq x y => ⟨lit_kinds x, lit_kinds y⟩
  | .cond c x y => ⟨lit_kinds x, lit_kinds y⟩
  | .block id x => lit_kinds x
  | .loop x => lit_kinds x
  | .keep _ x => lit_kinds x
  | .join x y => ⟨lit_kinds x, lit_kinds y⟩
  | .skip | .reg _ _ | .exit _ | .ret | .bad | .regd _ _ _ | .regf _ _ _ | .rege _ _ _ | .regg _ _ _ | .regh _ _ _ _ | .regv _ _ _ _ => trivial
theorem erase_lit : ∀ c : LC, c.lit.erase = c.erase
  | .rego rid ops => by simp [LC.lit, LC.erase, List.map_map, Function.comp_def]
  | .seq x y => by simp only [LC.lit, LC.erase, erase_lit x, erase_lit y]
  | .cond c x y => by simp only [LC.lit, LC.erase, erase_lit x, erase_lit y]
  | .block id x => by simp only [LC.lit, LC.erase, erase_lit x]
  | .loop x => by simp only [LC.lit, LC.erase, erase_lit x]
  | .keep _ x => by simp only [LC.lit, LC.erase, erase_lit x]
  | .join x y => by simp only [LC.lit, LC.erase, erase_lit x, erase_lit y]
  | .regb rid ops => by simp [LC.lit, LC.erase, List.map_map, Function.comp_def]
  | .regc rid ops => by simp [LC.lit, LC.erase, List.map_map, Function.comp_def]
  | .skip | .reg _ _ | .exit _ | .ret | .bad | .regd _ _ _ | .regf _ _ _ | .rege _ _ _ | .regg _ _ _ | .regh _ _ _ _ | .regv _ _ _ _ => rfl

/-! Functions. -/
structure Rv where
  f : Tq V → Hq → Option V
noncomputable def rv1 (x : LRV) : Rv := LRV.rec (motive := fun _ => Rv) (fun k => ⟨fun t _ => some ((acOf V.junk k).g t)⟩) (fun k agg n => ⟨fun t h => qLoad agg n h ((acOf V.junk k).g t)⟩) x
noncomputable def rvL (xs : List LRV) : Tq V → Hq → Option (List V) := List.rec (motive := fun _ => Tq V → Hq → Option (List V)) (fun _ _ => some []) (fun x _ ih t h => Option.rec (motive := fun _ => Option (List V)) none (fun v => Option.rec (motive := fun _ => Option (List V)) none (fun r => some (v :: r)) (ih t h)) ((rv1 x).f t h)) xs
noncomputable def rvT (xs : List LRV) : Rv := ⟨fun t h => Option.rec (motive := fun _ => Option V) none (fun l => some (.tup l)) (rvL xs t h)⟩
noncomputable def rvOf (xs : List LRV) : Rv := List.rec (motive := fun _ => Rv) (rvT []) (fun x r _ => List.rec (motive := fun _ => Rv) (rv1 x) (fun _ _ _ => rvT (x :: r)) r) xs
noncomputable def lrvLo (x : LRV) : Bool := LRV.rec (motive := fun _ => Bool) (fun k => Nat.blt k 100000) (fun k _ _ => Nat.blt k 100000) x
noncomputable def rvLo (xs : List LRV) : Bool := List.rec (motive := fun _ => Bool) true (fun x _ ih => Bool.rec (motive := fun _ => Bool) false ih (lrvLo x)) xs
theorem slot_g {k : Nat} (h : Nat.blt k 100000 = true) (o : Nat → V) (t : Tq V) : (acOf V.junk k).g t = tmQ o t k := by
  rw [nblt, decide_eq_true_eq] at h
  rw [acOf_g (by omega), tmQ, if_pos h]
theorem rv1_ok {x : LRV} {o : Nat → V} {t : Tq V} {h : Hq} {v : V} (hl : lrvLo x = true) (e : (rv1 x).f t h = some v) : rval (denq o t h) x = some v := by
  cases x with
  | tmp k =>
    have e : some ((acOf V.junk k).g t) = some v := e
    rw [slot_g hl o t] at e
    exact e
  | cell k agg n =>
    have e : qLoad agg n h ((acOf V.junk k).g t) = some v := e
    rw [slot_g hl o t] at e
    obtain ⟨pre, h1, h2⟩ := qLoad_ok e
    show (match lload agg n h.H (tmQ o t k) with | .A _ v => some v | _ => none) = some v
    rw [h1]
theorem rvL_ok {o : Nat → V} {t : Tq V} {h : Hq} : ∀ {xs : List LRV} {r : List V}, rvLo xs = true → rvL xs t h = some r → xs.mapM (rval (denq o t h)) = some r
  | [], r, _, e => by cases e; rfl
  | x :: xs, r, hl, e => by
    have hl : Bool.rec (motive := fun _ => Bool) false (rvLo xs) (lrvLo x) = true := hl
    obtain ⟨h1, h2⟩ := bool_and hl
    have e : Option.rec (motive := fun _ => Option (List V)) none (fun v => Option.rec (motive := fun _ => Option (List V)) none (fun r => some (v :: r)) (rvL xs t h)) ((rv1 x).f t h) = some r := e
    cases hx : (rv1 x).f t h with
    | none => rw [hx] at e; cases e
    | some v =>
      rw [hx] at e
      obtain ⟨r', h3, rfl⟩ := rec_some e
      rw [List.mapM_cons, rv1_ok h1 hx, rvL_ok h2 h3]; rfl
theorem rvOf_ok {xs : List LRV} {o : Nat → V} {t : Tq V} {h : Hq} {v : V} (hl : rvLo xs = true) (e : (rvOf xs).f t h = some v) : rvals (denq o t h) xs = some v := by
  have many : ∀ xs : List LRV, rvLo xs = true → (rvT xs).f t h = some v → (xs.mapM (rval (denq o t h))).map V.tup = some v := by
    intro xs hl e
    have e : Option.rec (motive := fun _ => Option V) none (fun l => some (.tup l)) (rvL xs t h) = some v := e
    obtain ⟨l, h1, rfl⟩ := rec_some e
    rw [rvL_ok hl h1]; rfl
  cases xs with
  | nil => exact many [] hl e
  | cons x r =>
    cases r with
    | nil => exact rv1_ok (bool_and hl).1 e
    | cons y r => exact many _ hl e

/-- A frame for a call. -/
noncomputable def frF (args : List V) : Nat → Tq V → Tq V := List.rec (motive := fun _ => Nat → Tq V → Tq V) (fun _ t => t) (fun v _ ih i t => ih (Nat.succ i) ((acOf V.junk i).s v t)) args
theorem frF_get : ∀ (args : List V) (i : Nat) (t : Tq V) (k : Nat), i + args.length < 100000 → (frF args i t).get V.junk k = if i ≤ k ∧ k < i + args.length then args.getD (k - i) .junk else t.get V.junk k
  | [], i, t, k, h => by rw [if_neg (by simp)]; rfl
  | v :: r, i, t, k, h => by
    simp only [List.length_cons] at h
    show (frF r (i + 1) ((acOf V.junk i).s v t)).get V.junk k = _
    rw [frF_get r (i + 1) _ k (by omega), acOf_s (by omega)]
    simp only [List.length_cons]
    by_cases e : k = i
    · subst e
      rw [if_neg (by omega), if_pos rfl, if_pos (by omega), Nat.sub_self]; rfl
    · by_cases h1 : i + 1 ≤ k ∧ k < i + 1 + r.length
      · rw [if_pos h1, if_pos (by omega), show k - i = (k - (i + 1)) + 1 by omega]; rfl
      · rw [if_neg h1, if_neg e, if_neg (by omega)]
/-- A function made ready. -/
inductive Fx where
  | no
  | fn (N : Nat) (cd : Cd) (rv : Rv)
  | ext (run : List V → Hq → Rc)
noncomputable def outC (f : FuncId) (rv : Rv) (r : Rs) : Rc := Rs.rec (motive := fun _ => Rc) (fun n => .err (Bool.rec (motive := fun _ => Nat) n (n + f * 100000000) (Nat.blt n 100000000))) (fun t h => Option.rec (motive := fun _ => Rc) (.err 3) (fun v => .ok v h) (rv.f t h)) (fun _ _ _ => .err 4) (fun t h => Option.rec (motive := fun _ => Rc) (.err 3) (fun v => .ok v h) (rv.f t h)) r
noncomputable def clStep (tb : Tq Fx) (cl : Cl) : Cl := fun f args h => Bool.rec (motive := fun _ => Rc) (.err 7) (Fx.rec (motive := fun _ => Rc) (.err (900000000000 + f)) (fun N cd rv => Bool.rec (motive := fun _ => Rc) (.err 5) (Bool.rec (motive := fun _ => Rc) (.err 5) (outC f rv (cd.run cl (frF args 0 .nil) h)) (Nat.blt (lenA args 0) 100000)) (Nat.ble (lenA args 0) N)) (fun run => run args h) ((acOf Fx.no f).g tb)) (Nat.blt f 1099511627775)
noncomputable def clN (tb : Tq Fx) (n : Nat) : Cl := Nat.rec (motive := fun _ => Cl) (fun _ _ _ => .err 6) (fun _ ih => clStep tb ih) n

def FxOk (P : Program) (f : FuncId) : Fx → Prop
  | .no => True
  | .fn N cd rv => ∃ lc rs, fnData P f = some (N, lc.erase, rs) ∧ cd = comp lc ∧ lc.kinds ∧ rv = rvOf rs ∧ rvLo rs = true
  | .ext run => ∀ args h v h', run args h = .ok v h' → ∀ tm, PSt P f args ⟨tm, h.H, h.c⟩ fun v1 σ1 => v1 = v ∧ σ1 = ⟨tm, h'.H, h'.c⟩
def TbOk (P : Program) (tb : Tq Fx) : Prop := ∀ f, f < 1099511627775 → FxOk P f (tb.get Fx.no f)

theorem outC_ok {f : FuncId} {rv : Rv} {r : Rs} {v : V} {h' : Hq} (e : outC f rv r = .ok v h') : ∃ t, (r = .nm t h' ∨ r = .rt t h') ∧ rv.f t h' = some v := by
  cases r with
  | err n => cases e
  | ex i t h => cases e
  | nm t h =>
    have e : Option.rec (motive := fun _ => Rc) (.err 3) (fun v => .ok v h) (rv.f t h) = .ok v h' := e
    cases hr : rv.f t h with
    | none => rw [hr] at e; cases e
    | some u => rw [hr] at e; cases e; exact ⟨t, .inl rfl, hr⟩
  | rt t h =>
    have e : Option.rec (motive := fun _ => Rc) (.err 3) (fun v => .ok v h) (rv.f t h) = .ok v h' := e
    cases hr : rv.f t h with
    | none => rw [hr] at e; cases e
    | some u => rw [hr] at e; cases e; exact ⟨t, .inr rfl, hr⟩

theorem tmQ_app (o : Nat → V) (t : Tq V) (k : Nat) : tmQ o t k = if k < 100000 then t.get V.junk k else o k := rfl
theorem back_tmQ (args : List V) (tm : Nat → V) (t : Tq V) : backTm (tmQ (callTm args tm) t) = tm := by
  have key1 : ∀ j k, ¬ j < 100000 → (j - 100000) % 2 = 0 → (j - 100000) / 2 = k → k < 100000 → tmQ (callTm args tm) t j = tm k := by
    intro j k h1 h2 h3 h4
    rw [tmQ_app, if_neg h1, callTm_app, if_neg h1, if_pos h2, h3, if_pos h4]
  have key2 : ∀ j k, ¬ j < 100000 → ¬ (j - 100000) % 2 = 0 → 100000 + (j - 100000) / 2 = k → tmQ (callTm args tm) t j = tm k := by
    intro j k h1 h2 h3
    rw [tmQ_app, if_neg h1, callTm_app, if_neg h1, if_neg h2, h3]
  generalize tmQ (callTm args tm) t = f at key1 key2
  funext k
  rw [backTm_app]
  by_cases hk : k < 100000
  · rw [if_pos hk]
    exact key1 _ k (by omega) (by omega) (by omega) hk
  · rw [if_neg hk]
    exact key2 _ k (by omega) (by omega) (by omega)
theorem back_den (args : List V) (tm : Nat → V) (t : Tq V) (h : Hq) : (denq (callTm args tm) t h).back = ⟨tm, h.H, h.c⟩ := by
  show (⟨backTm (tmQ (callTm args tm) t), h.H, h.c⟩ : St) = ⟨tm, h.H, h.c⟩
  rw [back_tmQ]
theorem call_den (args : List V) (tm : Nat → V) (h : Hq) (hl : args.length < 100000) : (⟨tm, h.H, h.c⟩ : St).call args = denq (callTm args tm) (frF args 0 .nil) h := by
  have e : callTm args tm = tmQ (callTm args tm) (frF args 0 .nil) := by
    funext k
    rw [tmQ_app]
    by_cases hk : k < 100000
    · rw [if_pos hk, callTm_app, if_pos hk, frF_get _ _ _ _ (by omega)]
      by_cases h1 : k < args.length
      · rw [if_pos (by omega), Nat.sub_zero]
      · rw [if_neg (by omega), Tq.get_nil, List.getD_eq_getElem?_getD, List.getElem?_eq_none (by omega)]; rfl
    · rw [if_neg hk]
  show (⟨callTm args tm, h.H, h.c⟩ : St) = ⟨tmQ (callTm args tm) (frF args 0 .nil), h.H, h.c⟩
  rw [← e]

theorem fBool {b : Bool} {x : Rc} {n : Nat} {v : V} {h : Hq} (e : Bool.rec (motive := fun _ => Rc) (.err n) x b = .ok v h) : b = true ∧ x = .ok v h := by
  cases b with
  | false => cases e
  | true => exact ⟨rfl, e⟩
theorem clStep_ok {P : Program} {tb : Tq Fx} (hT : TbOk P tb) {cl : Cl} (hcl : ClOk P cl) : ClOk P (clStep tb cl) := by
  intro f args h v h' e tm
  obtain ⟨hf, e⟩ := fBool (n := 7) (x := Fx.rec (motive := fun _ => Rc) (.err (900000000000 + f)) (fun N cd rv => Bool.rec (motive := fun _ => Rc) (.err 5) (Bool.rec (motive := fun _ => Rc) (.err 5) (outC f rv (cd.run cl (frF args 0 .nil) h)) (Nat.blt (lenA args 0) 100000)) (Nat.ble (lenA args 0) N)) (fun run => run args h) ((acOf Fx.no f).g tb)) e
  rw [nblt, decide_eq_true_eq] at hf
  have e : Fx.rec (motive := fun _ => Rc) (.err (900000000000 + f)) (fun N cd rv => Bool.rec (motive := fun _ => Rc) (.err 5) (Bool.rec (motive := fun _ => Rc) (.err 5) (outC f rv (cd.run cl (frF args 0 .nil) h)) (Nat.blt (lenA args 0) 100000)) (Nat.ble (lenA args 0) N)) (fun run => run args h) ((acOf Fx.no f).g tb) = .ok v h' := e
  rw [acOf_g hf] at e
  have ht := hT f hf
  cases hx : tb.get Fx.no f with
  | no => rw [hx] at e; cases e
  | ext run => rw [hx] at e ht; exact ht args h v h' e tm
  | fn N cd rv =>
    rw [hx] at e ht
    obtain ⟨lc, rs, hd, rfl, hk, rfl, hr⟩ := ht
    obtain ⟨c1, e⟩ := fBool e
    obtain ⟨c2, e⟩ := fBool e
    rw [lenA_eq, Nat.add_zero] at c1 c2
    have c1 := nble_le c1
    rw [nblt, decide_eq_true_eq] at c2
    obtain ⟨t, hrs, hv⟩ := outC_ok e
    refine pst_intro hd c1 ?_
    rw [call_den args tm h c2]
    refine comp_ok hcl lc hk _ _ _ _ ?_
    have hv := rvOf_ok (o := callTm args tm) hr hv
    rcases hrs with hrs | hrs
    · rw [hrs]; exact ⟨v, hv, rfl, back_den _ _ _ _⟩
    · rw [hrs]; exact ⟨v, hv, rfl, back_den _ _ _ _⟩
theorem clN_ok {P : Program} {tb : Tq Fx} (hT : TbOk P tb) : ∀ n, ClOk P (clN tb n)
  | 0 => fun _ _ _ _ _ e => by cases e
  | n + 1 => clStep_ok hT (clN_ok hT n)

/-- The table of functions. -/
noncomputable def tbPut (f : FuncId) (x : Fx) (tb : Tq Fx) : Tq Fx := (acOf Fx.no f).s x tb
noncomputable def fxOf (N : Nat) (lc : LC) (rs : List LRV) : Fx := .fn N (comp lc.lit) (rvOf rs)
theorem tb_nil {P : Program} : TbOk P .nil := fun _ _ => trivial
theorem tb_put {P : Program} {f : FuncId} {x : Fx} {tb : Tq Fx} (hT : TbOk P tb) (hf : Nat.blt f 1099511627775 = true) (hx : FxOk P f x) : TbOk P (tbPut f x tb) := by
  intro g hg
  rw [nblt, decide_eq_true_eq] at hf
  unfold tbPut
  rw [acOf_s hf]
  split
  · rename_i e; subst e; exact hx
  · exact hT g hg
theorem fx_fn {P : Program} {f N : Nat} {lc : LC} {rs : List LRV} (hd : fnData P f = some (N, lc.erase, rs)) (hr : rvLo rs = true) : FxOk P f (fxOf N lc rs) := ⟨lc.lit, rs, by rw [erase_lit]; exact hd, rfl, lit_kinds lc, rfl, hr⟩

/-- What a function hands back, reckoned. -/
noncomputable def retQ (r : Rc) : Option V := Rc.rec (motive := fun _ => Option V) (fun _ => none) (fun v h => snQ 8 h v) r
theorem ret_of_cl {P : Program} {cl : Cl} (hcl : ClOk P cl) {f : FuncId} {args : List V} {r : V} (e : retQ (cl f args .nil) = some r) : PRet P f args r := by
  cases hc : cl f args .nil with
  | err n => rw [hc] at e; cases e
  | ok u h2 =>
    rw [hc] at e
    have e : snQ 8 h2 u = some r := e
    have hp := hcl f _ _ u h2 hc fun _ => .junk
    rw [nilH, nilC] at hp
    exact pret_of_pst hp (by rintro v σ ⟨rfl, rfl⟩; exact (snQ_ok 8 h2 _ r e).2)
noncomputable def isTrue (r : Option V) : Bool := Option.rec (motive := fun _ => Bool) false (fun v => B6.rec (motive := fun _ => Bool) false (fun b => b) (asB v)) r
theorem isTrue_ok {r : Option V} (h : isTrue r = true) : r = some (.bool true) := by
  cases r with
  | none => cases h
  | some v =>
    have h : B6.rec (motive := fun _ => Bool) false (fun b => b) (asB v) = true := h
    cases hb : asB v with
    | no => rw [hb] at h; cases h
    | ok b => rw [hb] at h; rw [asB_ok hb]; cases h; rfl
theorem true_of_cl {P : Program} {tb : Tq Fx} (hT : TbOk P tb) (n : Nat) {f : FuncId} {args : List V} (e : isTrue (retQ (clN tb n f args .nil)) = true) : PRet P f args (.bool true) := ret_of_cl (clN_ok hT n) (isTrue_ok e)
end Go.Lg

namespace Go.Proofs.YtlnphjjhfgghkaaGreatDoor
open Go Go.Lg
set_option maxRecDepth 100000

noncomputable def tb0 : Tq Fx := (tbPut 27 (fxOf 52 lc27 [LRV.tmp 4]) (tbPut 26 (fxOf 99 lc26 []) (tbPut 25 (fxOf 14 lc25 [LRV.tmp 4]) (tbPut 24 (fxOf 39 lc24 [LRV.tmp 6]) (tbPut 22 (fxOf 116 lc22 [LRV.cell 2 true 2, LRV.tmp 3, LRV.tmp 4, LRV.tmp 5]) (tbPut 20 (fxOf 23 lc20 [LRV.cell 4 true 10, LRV.tmp 5]) (tbPut 19 (fxOf 15 lc19 [LRV.tmp 8]) (tbPut 18 (fxOf 23 lc18 [LRV.cell 4 true 5, LRV.tmp 5]) (tbPut 15 (fxOf 99 lc15 [LRV.tmp 6]) (tbPut 13 (fxOf 22 lc13 [LRV.tmp 6]) (tbPut 11 (fxOf 88 lc11 [LRV.tmp 6, LRV.tmp 7]) (tbPut 9 (fxOf 67 lc9 [LRV.tmp 0]) Tq.nil))))))))))))
theorem tb0_ok : TbOk Tryz.prog tb0 := (tb_put (tb_put (tb_put (tb_put (tb_put (tb_put (tb_put (tb_put (tb_put (tb_put (tb_put (tb_put tb_nil (by kernel_rfl) (fx_fn fd9 (by kernel_rfl))) (by kernel_rfl) (fx_fn fd11 (by kernel_rfl))) (by kernel_rfl) (fx_fn fd13 (by kernel_rfl))) (by kernel_rfl) (fx_fn fd15 (by kernel_rfl))) (by kernel_rfl) (fx_fn fd18 (by kernel_rfl))) (by kernel_rfl) (fx_fn fd19 (by kernel_rfl))) (by kernel_rfl) (fx_fn fd20 (by kernel_rfl))) (by kernel_rfl) (fx_fn fd22 (by kernel_rfl))) (by kernel_rfl) (fx_fn fd24 (by kernel_rfl))) (by kernel_rfl) (fx_fn fd25 (by kernel_rfl))) (by kernel_rfl) (fx_fn fd26 (by kernel_rfl))) (by kernel_rfl) (fx_fn fd27 (by kernel_rfl)))
noncomputable def tb1 : Tq Fx := (tbPut 46 (fxOf 71 lc46 [LRV.cell 6 true 10]) (tbPut 45 (fxOf 57 lc45 [LRV.cell 6 true 5]) (tbPut 44 (fxOf 22 lc44 [LRV.tmp 4]) (tbPut 43 (fxOf 27 lc43 []) (tbPut 42 (fxOf 18 lc42 [LRV.tmp 4]) (tbPut 41 (fxOf 113 lc41 [LRV.tmp 2, LRV.tmp 3, LRV.tmp 4]) (tbPut 38 (fxOf 82 lc38 [LRV.tmp 8]) (tbPut 35 (fxOf 57 lc35 [LRV.tmp 2, LRV.tmp 3]) (tbPut 31 (fxOf 10 lc31 [LRV.tmp 2]) (tbPut 30 (fxOf 38 lc30 [LRV.cell 2 true 10]) (tbPut 29 (fxOf 114 lc29 [LRV.tmp 4]) (tbPut 28 (fxOf 12 lc28 [LRV.cell 2 true 5]) tb0))))))))))))
theorem tb1_ok : TbOk Tryz.prog tb1 := (tb_put (tb_put (tb_put (tb_put (tb_put (tb_put (tb_put (tb_put (tb_put (tb_put (tb_put (tb_put tb0_ok (by kernel_rfl) (fx_fn fd28 (by kernel_rfl))) (by kernel_rfl) (fx_fn fd29 (by kernel_rfl))) (by kernel_rfl) (fx_fn fd30 (by kernel_rfl))) (by kernel_rfl) (fx_fn fd31 (by kernel_rfl))) (by kernel_rfl) (fx_fn fd35 (by kernel_rfl))) (by kernel_rfl) (fx_fn fd38 (by kernel_rfl))) (by kernel_rfl) (fx_fn fd41 (by kernel_rfl))) (by kernel_rfl) (fx_fn fd42 (by kernel_rfl))) (by kernel_rfl) (fx_fn fd43 (by kernel_rfl))) (by kernel_rfl) (fx_fn fd44 (by kernel_rfl))) (by kernel_rfl) (fx_fn fd45 (by kernel_rfl))) (by kernel_rfl) (fx_fn fd46 (by kernel_rfl)))
noncomputable def tb2 : Tq Fx := (tbPut 58 (fxOf 8 lc58 [LRV.tmp 4]) (tbPut 57 (fxOf 35 lc57 [LRV.tmp 10]) (tbPut 56 (fxOf 9 lc56 [LRV.tmp 3]) (tbPut 55 (fxOf 9 lc55 [LRV.tmp 4]) (tbPut 54 (fxOf 18 lc54 [LRV.tmp 2]) (tbPut 53 (fxOf 32 lc53 [LRV.cell 4 true 4]) (tbPut 52 (fxOf 21 lc52 []) (tbPut 51 (fxOf 37 lc51 [LRV.tmp 2]) (tbPut 50 (fxOf 27 lc50 [LRV.tmp 2]) (tbPut 49 (fxOf 9 lc49 [LRV.tmp 3]) (tbPut 48 (fxOf 9 lc48 [LRV.tmp 4]) (tbPut 47 (fxOf 56 lc47 [LRV.tmp 2]) tb1))))))))))))
theorem tb2_ok : TbOk Tryz.prog tb2 := (tb_put (tb_put (tb_put (tb_put (tb_put (tb_put (tb_put (tb_put (tb_put (tb_put (tb_put (tb_put tb1_ok (by kernel_rfl) (fx_fn fd47 (by kernel_rfl))) (by kernel_rfl) (fx_fn fd48 (by kernel_rfl))) (by kernel_rfl) (fx_fn fd49 (by kernel_rfl))) (by kernel_rfl) (fx_fn fd50 (by kernel_rfl))) (by kernel_rfl) (fx_fn fd51 (by kernel_rfl))) (by kernel_rfl) (fx_fn fd52 (by kernel_rfl))) (by kernel_rfl) (fx_fn fd53 (by kernel_rfl))) (by kernel_rfl) (fx_fn fd54 (by kernel_rfl))) (by kernel_rfl) (fx_fn fd55 (by kernel_rfl))) (by kernel_rfl) (fx_fn fd56 (by kernel_rfl))) (by kernel_rfl) (fx_fn fd57 (by kernel_rfl))) (by kernel_rfl) (fx_fn fd58 (by kernel_rfl)))
noncomputable def tb3 : Tq Fx := (tbPut 75 (fxOf 21 lc75 [LRV.tmp 2]) (tbPut 74 (fxOf 53 lc74 [LRV.tmp 4]) (tbPut 68 (fxOf 18 lc68 [LRV.tmp 2]) (tbPut 67 (fxOf 23 lc67 [LRV.tmp 2]) (tbPut 66 (fxOf 42 lc66 [LRV.tmp 2]) (tbPut 65 (fxOf 26 lc65 [LRV.cell 2 true 4]) (tbPut 64 (fxOf 9 lc64 [LRV.tmp 3]) (tbPut 63 (fxOf 10 lc63 [LRV.tmp 5]) (tbPut 62 (fxOf 9 lc62 [LRV.tmp 4]) (tbPut 61 (fxOf 9 lc61 [LRV.tmp 4]) (tbPut 60 (fxOf 22 lc60 [LRV.tmp 2]) (tbPut 59 (fxOf 5 lc59 [LRV.tmp 2]) tb2))))))))))))
theorem tb3_ok : TbOk Tryz.prog tb3 := (tb_put (tb_put (tb_put (tb_put (tb_put (tb_put (tb_put (tb_put (tb_put (tb_put (tb_put (tb_put tb2_ok (by kernel_rfl) (fx_fn fd59 (by kernel_rfl))) (by kernel_rfl) (fx_fn fd60 (by kernel_rfl))) (by kernel_rfl) (fx_fn fd61 (by kernel_rfl))) (by kernel_rfl) (fx_fn fd62 (by kernel_rfl))) (by kernel_rfl) (fx_fn fd63 (by kernel_rfl))) (by kernel_rfl) (fx_fn fd64 (by kernel_rfl))) (by kernel_rfl) (fx_fn fd65 (by kernel_rfl))) (by kernel_rfl) (fx_fn fd66 (by kernel_rfl))) (by kernel_rfl) (fx_fn fd67 (by kernel_rfl))) (by kernel_rfl) (fx_fn fd68 (by kernel_rfl))) (by kernel_rfl) (fx_fn fd74 (by kernel_rfl))) (by kernel_rfl) (fx_fn fd75 (by kernel_rfl)))
noncomputable def tb4 : Tq Fx := (tbPut 87 (fxOf 44 lc87 [LRV.tmp 4]) (tbPut 86 (fxOf 52 lc86 [LRV.tmp 2]) (tbPut 85 (fxOf 53 lc85 [LRV.cell 4 true 4]) (tbPut 84 (fxOf 15 lc84 []) (tbPut 83 (fxOf 29 lc83 []) (tbPut 82 (fxOf 27 lc82 [LRV.tmp 2]) (tbPut 81 (fxOf 42 lc81 [LRV.tmp 4]) (tbPut 80 (fxOf 30 lc80 [LRV.tmp 4]) (tbPut 79 (fxOf 46 lc79 [LRV.tmp 4]) (tbPut 78 (fxOf 44 lc78 [LRV.tmp 2]) (tbPut 77 (fxOf 9 lc77 [LRV.tmp 2]) (tbPut 76 (fxOf 24 lc76 [LRV.tmp 4]) tb3))))))))))))
theorem tb4_ok : TbOk Tryz.prog tb4 := (tb_put (tb_put (tb_put (tb_put (tb_put (tb_put (tb_put (tb_put (tb_put (tb_put (tb_put (tb_put tb3_ok (by kernel_rfl) (fx_fn fd76 (by kernel_rfl))) (by kernel_rfl) (fx_fn fd77 (by kernel_rfl))) (by kernel_rfl) (fx_fn fd78 (by kernel_rfl))) (by kernel_rfl) (fx_fn fd79 (by kernel_rfl))) (by kernel_rfl) (fx_fn fd80 (by kernel_rfl))) (by kernel_rfl) (fx_fn fd81 (by kernel_rfl))) (by kernel_rfl) (fx_fn fd82 (by kernel_rfl))) (by kernel_rfl) (fx_fn fd83 (by kernel_rfl))) (by kernel_rfl) (fx_fn fd84 (by kernel_rfl))) (by kernel_rfl) (fx_fn fd85 (by kernel_rfl))) (by kernel_rfl) (fx_fn fd86 (by kernel_rfl))) (by kernel_rfl) (fx_fn fd87 (by kernel_rfl)))
noncomputable def tb5 : Tq Fx := (tbPut 100 (fxOf 8 lc100 [LRV.tmp 3]) (tbPut 99 (fxOf 9 lc99 [LRV.tmp 4]) (tbPut 98 (fxOf 19 lc98 [LRV.tmp 4]) (tbPut 97 (fxOf 29 lc97 [LRV.tmp 4]) (tbPut 96 (fxOf 43 lc96 [LRV.tmp 4]) (tbPut 94 (fxOf 19 lc94 [LRV.tmp 4]) (tbPut 93 (fxOf 66 lc93 [LRV.tmp 2]) (tbPut 92 (fxOf 16 lc92 [LRV.tmp 2]) (tbPut 91 (fxOf 22 lc91 [LRV.tmp 2]) (tbPut 90 (fxOf 18 lc90 [LRV.tmp 4]) (tbPut 89 (fxOf 20 lc89 [LRV.tmp 2]) (tbPut 88 (fxOf 19 lc88 [LRV.tmp 4]) tb4))))))))))))
theorem tb5_ok : TbOk Tryz.prog tb5 := (tb_put (tb_put (tb_put (tb_put (tb_put (tb_put (tb_put (tb_put (tb_put (tb_put (tb_put (tb_put tb4_ok (by kernel_rfl) (fx_fn fd88 (by kernel_rfl))) (by kernel_rfl) (fx_fn fd89 (by kernel_rfl))) (by kernel_rfl) (fx_fn fd90 (by kernel_rfl))) (by kernel_rfl) (fx_fn fd91 (by kernel_rfl))) (by kernel_rfl) (fx_fn fd92 (by kernel_rfl))) (by kernel_rfl) (fx_fn fd93 (by kernel_rfl))) (by kernel_rfl) (fx_fn fd94 (by kernel_rfl))) (by kernel_rfl) (fx_fn fd96 (by kernel_rfl))) (by kernel_rfl) (fx_fn fd97 (by kernel_rfl))) (by kernel_rfl) (fx_fn fd98 (by kernel_rfl))) (by kernel_rfl) (fx_fn fd99 (by kernel_rfl))) (by kernel_rfl) (fx_fn fd100 (by kernel_rfl)))
noncomputable def tb6 : Tq Fx := (tbPut 118 (fxOf 62 lc118 [LRV.tmp 4]) (tbPut 117 (fxOf 18 lc117 [LRV.tmp 2]) (tbPut 116 (fxOf 9 lc116 [LRV.tmp 2]) (tbPut 115 (fxOf 35 lc115 [LRV.tmp 4]) (tbPut 114 (fxOf 18 lc114 [LRV.tmp 2]) (tbPut 113 (fxOf 13 lc113 [LRV.tmp 2]) (tbPut 112 (fxOf 189 lc112 [LRV.cell 4 true 32]) (tbPut 111 (fxOf 14 lc111 [LRV.tmp 2]) (tbPut 110 (fxOf 15 lc110 []) (tbPut 103 (fxOf 8 lc103 [LRV.cell 2 true 4]) (tbPut 102 (fxOf 38 lc102 [LRV.cell 2 true 15]) (tbPut 101 (fxOf 8 lc101 [LRV.cell 2 true 2]) tb5))))))))))))
theorem tb6_ok : TbOk Tryz.prog tb6 := (tb_put (tb_put (tb_put (tb_put (tb_put (tb_put (tb_put (tb_put (tb_put (tb_put (tb_put (tb_put tb5_ok (by kernel_rfl) (fx_fn fd101 (by kernel_rfl))) (by kernel_rfl) (fx_fn fd102 (by kernel_rfl))) (by kernel_rfl) (fx_fn fd103 (by kernel_rfl))) (by kernel_rfl) (fx_fn fd110 (by kernel_rfl))) (by kernel_rfl) (fx_fn fd111 (by kernel_rfl))) (by kernel_rfl) (fx_fn fd112 (by kernel_rfl))) (by kernel_rfl) (fx_fn fd113 (by kernel_rfl))) (by kernel_rfl) (fx_fn fd114 (by kernel_rfl))) (by kernel_rfl) (fx_fn fd115 (by kernel_rfl))) (by kernel_rfl) (fx_fn fd116 (by kernel_rfl))) (by kernel_rfl) (fx_fn fd117 (by kernel_rfl))) (by kernel_rfl) (fx_fn fd118 (by kernel_rfl)))
noncomputable def tb7 : Tq Fx := (tbPut 143 (fxOf 22 lc143 [LRV.tmp 2]) (tbPut 142 (fxOf 30 lc142 [LRV.cell 4 true 2]) (tbPut 141 (fxOf 33 lc141 [LRV.tmp 2]) (tbPut 140 (fxOf 7 lc140 [LRV.cell 2 true 2]) (tbPut 139 (fxOf 42 lc139 [LRV.cell 2 true 4]) (tbPut 138 (fxOf 138 lc138 [LRV.cell 2 true 15]) (tbPut 129 (fxOf 19 lc129 [LRV.tmp 4]) (tbPut 128 (fxOf 8 lc128 [LRV.tmp 3]) (tbPut 127 (fxOf 9 lc127 [LRV.tmp 4]) (tbPut 125 (fxOf 22 lc125 [LRV.tmp 2]) (tbPut 120 (fxOf 25 lc120 [LRV.tmp 2]) (tbPut 119 (fxOf 20 lc119 [LRV.tmp 4]) tb6))))))))))))
theorem tb7_ok : TbOk Tryz.prog tb7 := (tb_put (tb_put (tb_put (tb_put (tb_put (tb_put (tb_put (tb_put (tb_put (tb_put (tb_put (tb_put tb6_ok (by kernel_rfl) (fx_fn fd119 (by kernel_rfl))) (by kernel_rfl) (fx_fn fd120 (by kernel_rfl))) (by kernel_rfl) (fx_fn fd125 (by kernel_rfl))) (by kernel_rfl) (fx_fn fd127 (by kernel_rfl))) (by kernel_rfl) (fx_fn fd128 (by kernel_rfl))) (by kernel_rfl) (fx_fn fd129 (by kernel_rfl))) (by kernel_rfl) (fx_fn fd138 (by kernel_rfl))) (by kernel_rfl) (fx_fn fd139 (by kernel_rfl))) (by kernel_rfl) (fx_fn fd140 (by kernel_rfl))) (by kernel_rfl) (fx_fn fd141 (by kernel_rfl))) (by kernel_rfl) (fx_fn fd142 (by kernel_rfl))) (by kernel_rfl) (fx_fn fd143 (by kernel_rfl)))
noncomputable def tb8 : Tq Fx := (tbPut 168 (fxOf 17 lc168 [LRV.tmp 4]) (tbPut 167 (fxOf 59 lc167 [LRV.tmp 4]) (tbPut 166 (fxOf 11 lc166 [LRV.tmp 2]) (tbPut 162 (fxOf 22 lc162 [LRV.cell 4 true 32]) (tbPut 161 (fxOf 80 lc161 [LRV.tmp 4]) (tbPut 160 (fxOf 46 lc160 [LRV.tmp 2]) (tbPut 159 (fxOf 95 lc159 [LRV.tmp 2]) (tbPut 158 (fxOf 29 lc158 [LRV.tmp 2]) (tbPut 157 (fxOf 15 lc157 [LRV.tmp 2]) (tbPut 155 (fxOf 52 lc155 [LRV.cell 4 true 15]) (tbPut 149 (fxOf 19 lc149 [LRV.tmp 4]) (tbPut 144 (fxOf 113 lc144 [LRV.tmp 4]) tb7))))))))))))
theorem tb8_ok : TbOk Tryz.prog tb8 := (tb_put (tb_put (tb_put (tb_put (tb_put (tb_put (tb_put (tb_put (tb_put (tb_put (tb_put (tb_put tb7_ok (by kernel_rfl) (fx_fn fd144 (by kernel_rfl))) (by kernel_rfl) (fx_fn fd149 (by kernel_rfl))) (by kernel_rfl) (fx_fn fd155 (by kernel_rfl))) (by kernel_rfl) (fx_fn fd157 (by kernel_rfl))) (by kernel_rfl) (fx_fn fd158 (by kernel_rfl))) (by kernel_rfl) (fx_fn fd159 (by kernel_rfl))) (by kernel_rfl) (fx_fn fd160 (by kernel_rfl))) (by kernel_rfl) (fx_fn fd161 (by kernel_rfl))) (by kernel_rfl) (fx_fn fd162 (by kernel_rfl))) (by kernel_rfl) (fx_fn fd166 (by kernel_rfl))) (by kernel_rfl) (fx_fn fd167 (by kernel_rfl))) (by kernel_rfl) (fx_fn fd168 (by kernel_rfl)))
noncomputable def tb9 : Tq Fx := (tbPut 186 (fxOf 32 lc186 [LRV.tmp 6]) (tbPut 185 (fxOf 32 lc185 [LRV.tmp 6]) (tbPut 184 (fxOf 19 lc184 [LRV.tmp 4]) (tbPut 181 (fxOf 32 lc181 [LRV.tmp 6]) (tbPut 180 (fxOf 11 lc180 [LRV.tmp 6]) (tbPut 179 (fxOf 11 lc179 [LRV.tmp 6]) (tbPut 178 (fxOf 26 lc178 [LRV.tmp 4]) (tbPut 177 (fxOf 6 lc177 [LRV.tmp 2]) (tbPut 176 (fxOf 9 lc176 [LRV.tmp 4]) (tbPut 171 (fxOf 11 lc171 [LRV.tmp 6]) (tbPut 170 (fxOf 24 lc170 [LRV.tmp 4]) (tbPut 169 (fxOf 31 lc169 [LRV.tmp 4]) tb8))))))))))))
theorem tb9_ok : TbOk Tryz.prog tb9 := (tb_put (tb_put (tb_put (tb_put (tb_put (tb_put (tb_put (tb_put (tb_put (tb_put (tb_put (tb_put tb8_ok (by kernel_rfl) (fx_fn fd169 (by kernel_rfl))) (by kernel_rfl) (fx_fn fd170 (by kernel_rfl))) (by kernel_rfl) (fx_fn fd171 (by kernel_rfl))) (by kernel_rfl) (fx_fn fd176 (by kernel_rfl))) (by kernel_rfl) (fx_fn fd177 (by kernel_rfl))) (by kernel_rfl) (fx_fn fd178 (by kernel_rfl))) (by kernel_rfl) (fx_fn fd179 (by kernel_rfl))) (by kernel_rfl) (fx_fn fd180 (by kernel_rfl))) (by kernel_rfl) (fx_fn fd181 (by kernel_rfl))) (by kernel_rfl) (fx_fn fd184 (by kernel_rfl))) (by kernel_rfl) (fx_fn fd185 (by kernel_rfl))) (by kernel_rfl) (fx_fn fd186 (by kernel_rfl)))
noncomputable def tbAll : Tq Fx := tb9
theorem tbAll_ok : TbOk Tryz.prog tbAll := tb9_ok
end Go.Proofs.YtlnphjjhfgghkaaGreatDoor

namespace Go.Proofs
open Go.Shelf
def Tryz.lays144_ren : Go.Shelf.Ren := ⟨fun | 144 => 126 | 143 => 148 | 219 => 163 | 217 => 172 | 225 => 173 | 224 => 174 | 267 => 175 | 266 => 182 | 314 => 183 | n => n, fun | 9 => 9 | 4 => 4 | 3 => 3 | 5 => 5 | 46 => 223 | 146 => 228 | 51 => 227 | n => n, fun | 1 => 1 | n => n⟩
theorem Tryz.lays144 : Go.Proofs.Lays.n144 Tryz.prog Tryz.lays144_ren := {
  mixed := by kernel_rfl
  f143 := Tryz.func148.trans (congrArg some (by kernel_rfl))
  f144 := Tryz.func126.trans (congrArg some (by kernel_rfl))
  f217 := Tryz.func172.trans (congrArg some (by kernel_rfl))
  f219 := Tryz.func163.trans (congrArg some (by kernel_rfl))
  f224 := Tryz.func174.trans (congrArg some (by kernel_rfl))
  f225 := Tryz.func173.trans (congrArg some (by kernel_rfl))
  f266 := Tryz.func182.trans (congrArg some (by kernel_rfl))
  f267 := Tryz.func175.trans (congrArg some (by kernel_rfl))
  f314 := Tryz.func183.trans (congrArg some (by kernel_rfl))
  t3 := Tryz.underlying3
  a3 := Tryz.isAgg3
  z3 := Tryz.sizeOf3
  v3 := Tryz.zeroValue3
  t4 := Tryz.underlying4
  a4 := Tryz.isAgg4
  z4 := Tryz.sizeOf4
  v4 := Tryz.zeroValue4
  t5 := Tryz.underlying5
  a5 := Tryz.isAgg5
  z5 := Tryz.sizeOf5
  v5 := Tryz.zeroValue5
  t9 := Tryz.underlying9
  a9 := Tryz.isAgg9
  z9 := Tryz.sizeOf9
  v9 := Tryz.zeroValue9
  t46 := Tryz.underlying223
  a46 := Tryz.isAgg223
  z46 := Tryz.sizeOf223
  v46 := Tryz.zeroValue223
  t51 := Tryz.underlying227
  a51 := Tryz.isAgg227
  z51 := Tryz.sizeOf227
  v51 := Tryz.zeroValue227
  t146 := Tryz.underlying228
  a146 := Tryz.isAgg228
  z146 := Tryz.sizeOf228
  v146 := Tryz.zeroValue228
  g1 := by kernel_rfl }
open Go.RowKit Go.Lib in
/-- strings.Contains: "Contains reports whether substr is within s.": IT RETURNS 'Lib.contains s substr'; the world is as it was. (LAID: no walk: one application.) -/
theorem Tryz.strings_Contains (s sub : ByteArray) (m : Int) (w : World) (hs : s.size < 4294967281) (hm : w.cell? ⟨1, 0, none⟩ = some (.int .i64 m)) :
    Calls Tryz.prog 126 #[.string s, .string sub] w fun e w' => e = .returned (.bool (Lib.contains s.data.toList sub.data.toList)) ∧ w' = w := Any.strings_Contains Tryz.lays144 s sub m w hs hm
def Tryz.lays145_ren : Go.Shelf.Ren := ⟨fun | 145 => 156 | 220 => 165 | 219 => 163 | 217 => 172 | 225 => 173 | 224 => 174 | 267 => 175 | 266 => 182 | 314 => 183 | n => n, fun | 9 => 9 | 4 => 4 | 59 => 214 | 3 => 3 | 5 => 5 | 46 => 223 | 146 => 228 | 51 => 227 | n => n, fun | 1 => 1 | n => n⟩
theorem Tryz.lays145 : Go.Proofs.Lays.n145 Tryz.prog Tryz.lays145_ren := {
  mixed := by kernel_rfl
  f145 := Tryz.func156.trans (congrArg some (by kernel_rfl))
  f217 := Tryz.func172.trans (congrArg some (by kernel_rfl))
  f219 := Tryz.func163.trans (congrArg some (by kernel_rfl))
  f220 := Tryz.func165.trans (congrArg some (by kernel_rfl))
  f224 := Tryz.func174.trans (congrArg some (by kernel_rfl))
  f225 := Tryz.func173.trans (congrArg some (by kernel_rfl))
  f266 := Tryz.func182.trans (congrArg some (by kernel_rfl))
  f267 := Tryz.func175.trans (congrArg some (by kernel_rfl))
  f314 := Tryz.func183.trans (congrArg some (by kernel_rfl))
  t3 := Tryz.underlying3
  a3 := Tryz.isAgg3
  z3 := Tryz.sizeOf3
  v3 := Tryz.zeroValue3
  t4 := Tryz.underlying4
  a4 := Tryz.isAgg4
  z4 := Tryz.sizeOf4
  v4 := Tryz.zeroValue4
  t5 := Tryz.underlying5
  a5 := Tryz.isAgg5
  z5 := Tryz.sizeOf5
  v5 := Tryz.zeroValue5
  t9 := Tryz.underlying9
  a9 := Tryz.isAgg9
  z9 := Tryz.sizeOf9
  v9 := Tryz.zeroValue9
  t46 := Tryz.underlying223
  a46 := Tryz.isAgg223
  z46 := Tryz.sizeOf223
  v46 := Tryz.zeroValue223
  t51 := Tryz.underlying227
  a51 := Tryz.isAgg227
  z51 := Tryz.sizeOf227
  v51 := Tryz.zeroValue227
  t59 := Tryz.underlying214
  a59 := Tryz.isAgg214
  z59 := Tryz.sizeOf214
  v59 := Tryz.zeroValue214
  t146 := Tryz.underlying228
  a146 := Tryz.isAgg228
  z146 := Tryz.sizeOf228
  v146 := Tryz.zeroValue228
  g1 := by kernel_rfl }
open Go.RowKit Go.Lib in
/-- strings.Cut: "Cut slices s around the first instance of sep, returning the text before and after sep. The found result reports whether sep appears in s. If sep does not appear in s, cut returns s, "", false.": IT RETURNS 'Lib.cut s sep'; the world is as it was but for the count of draws. (LAID: no walk: one application.) -/
theorem Tryz.strings_Cut (s sep : ByteArray) (m : Int) (w : World) (hs : s.size < 4294967281) (hm : w.cell? ⟨1, 0, none⟩ = some (.int .i64 m)) :
    Calls Tryz.prog 156 #[.string s, .string sep] w fun e w' => e = .returned (.tuple #[.string ⟨(Lib.cut s.data.toList sep.data.toList).1.toArray⟩, .string ⟨(Lib.cut s.data.toList sep.data.toList).2.1.toArray⟩, .bool (Lib.cut s.data.toList sep.data.toList).2.2]) ∧ ∃ n, w' = w.drewN n := Any.strings_Cut Tryz.lays145 s sep m w hs hm
def Tryz.laysM144_ren : Go.Shelf.Ren := ⟨fun | 144 => 126 | 143 => 148 | 219 => 163 | 217 => 172 | 225 => 173 | 224 => 174 | 267 => 175 | 266 => 182 | 314 => 183 | n => n, fun | 9 => 9 | 4 => 4 | 3 => 3 | 5 => 5 | 46 => 223 | 146 => 228 | 51 => 227 | n => n, fun | 1 => 1 | n => n⟩
theorem Tryz.laysM144 : Go.Proofs.LaysM.n144 Tryz.prog Tryz.laysM144_ren := {
  mixed := by kernel_rfl
  f143 := Tryz.func148.trans (congrArg some (by kernel_rfl))
  f144 := Tryz.func126.trans (congrArg some (by kernel_rfl))
  f217 := Tryz.func172.trans (congrArg some (by kernel_rfl))
  f219 := Tryz.func163.trans (congrArg some (by kernel_rfl))
  f224 := Tryz.func174.trans (congrArg some (by kernel_rfl))
  f225 := Tryz.func173.trans (congrArg some (by kernel_rfl))
  f266 := Tryz.func182.trans (congrArg some (by kernel_rfl))
  f267 := Tryz.func175.trans (congrArg some (by kernel_rfl))
  f314 := Tryz.func183.trans (congrArg some (by kernel_rfl))
  t3 := Tryz.underlying3
  a3 := Tryz.isAgg3
  z3 := Tryz.sizeOf3
  v3 := Tryz.zeroValue3
  t4 := Tryz.underlying4
  a4 := Tryz.isAgg4
  z4 := Tryz.sizeOf4
  v4 := Tryz.zeroValue4
  t5 := Tryz.underlying5
  a5 := Tryz.isAgg5
  z5 := Tryz.sizeOf5
  v5 := Tryz.zeroValue5
  t9 := Tryz.underlying9
  a9 := Tryz.isAgg9
  z9 := Tryz.sizeOf9
  v9 := Tryz.zeroValue9
  t46 := Tryz.underlying223
  a46 := Tryz.isAgg223
  z46 := Tryz.sizeOf223
  v46 := Tryz.zeroValue223
  t51 := Tryz.underlying227
  a51 := Tryz.isAgg227
  z51 := Tryz.sizeOf227
  v51 := Tryz.zeroValue227
  t146 := Tryz.underlying228
  a146 := Tryz.isAgg228
  z146 := Tryz.sizeOf228
  v146 := Tryz.zeroValue228
  g1 := by kernel_rfl
  i3 := by kernel_rfl
  i4 := by kernel_rfl
  i5 := by kernel_rfl
  i9 := by kernel_rfl
  i46 := by kernel_rfl
  i51 := by kernel_rfl
  i146 := by kernel_rfl
  m1 := by kernel_rfl
  s1_3 := fun w h => Go.Proofs.cell_of_shapedOpen_int (zero := #[.int .i64 0]) (t := 3) h (of_decide_eq_true (by kernel_rfl)) (by kernel_rfl) rfl (by kernel_rfl) (by kernel_rfl) Tryz.underlying3 }
end Go.Proofs

set_option linter.unusedSimpArgs false
set_option linter.unusedVariables false
namespace Go.Proofs.YtlnphjjhfgghkaaGreatDoor
open Go Go.Lg Go.RowKit Go.Extern.Stop Go.Stop Go.Extern

/-- errors.As(nil, target). -/
theorem as_nil (t : Value) (w : World) :
    Calls Tryz.prog 95 #[.nilIface, t] w fun e w' => e = .returned (.bool false) ∧ w' = w := by
  go_enter Tryz.func95, Tryz.ntmps95
  go_wp2
  go_ret
  exact ⟨rfl, rfl⟩

/-! ### CLOSED FACTS ON THE MODEL's ENTRIES FOR internal/reflectlite, at this program's types: 25: *p.E · 27: **p.E · 23: error · 45: reflectlite's rtype · 1: how many package-level variables the dump has -/
theorem As.valueOf27 (t : Addr) (w : World) : (ReflectliteValue.unpack (.iface 153 (.pointer (some t)))).run Tryz.prog w
    = .ok (.agg #[.pointer (some ⟨2, 153, none⟩), .pointer (some ⟨w.heap.size, 0, none⟩), .int .u64 150]) (w.alloc (.cells #[.pointer (some t)] 153)) := by kernel_rfl
theorem As.type27 (a : Addr) (w : World) : (ReflectliteValue.methodAny (ReflectliteValue.valueError "reflectlite.Value.Type" 0) (fun t _ _ _ => ReflectliteType.toType t) #[.agg #[.pointer (some ⟨2, 153, none⟩), .pointer (some a), .int .u64 150]]).run Tryz.prog w
    = .ok (.iface 194 (.agg #[.pointer (some ⟨2, 153, none⟩)])) w := by kernel_rfl
theorem As.methodKind (h : Value) (w : World) : (Go.method 359 194 (.agg #[h]) "Kind").run Tryz.prog w = .ok (201, h) w := by kernel_rfl
theorem As.kind27 (w : World) : ((ReflectliteType.abiMethod fun t => (fun a : Nat => Value.int IntKind.u8 (a : Int)) <$> Rtype.kind t) #[.pointer (some ⟨2, 153, none⟩)]).run Tryz.prog w = .ok (.int .u8 22) w := by kernel_rfl
theorem As.kind25 (w : World) : ((ReflectliteType.abiMethod fun t => (fun a : Nat => Value.int IntKind.u8 (a : Int)) <$> Rtype.kind t) #[.pointer (some ⟨2, 92, none⟩)]).run Tryz.prog w = .ok (.int .u8 22) w := by kernel_rfl

/-! ### THE ENTRIES THAT READ OR WRITE MEMORY: laws with a premise on the cell (after Derived/Lib/ReflectliteSlice.lean's manner: each unfolding a lemma of its own, by rfl) -/
theorem rlm (z : Sem Value) (f : TypeId → Addr → Nat → Nat → Sem Value) (v : Value) :
    ReflectliteValue.method z f #[v] = (do match ← ReflectliteValue.parts v with | none => z | some (t, a, fl) => f t a fl (fl % 32)) := rfl
theorem As.parts27 (a : Addr) (w : World) : (ReflectliteValue.parts (.agg #[.pointer (some ⟨2, 153, none⟩), .pointer (some a), .int .u64 150])).run Tryz.prog w = .ok (some (153, a, 150)) w := by kernel_rfl
/-- (Value).IsNil at the Value of a **p.E that is not nil. -/
theorem As.isNil27 (a p : Addr) (W : World) (ha : W.cell? a = some (.pointer (some p))) :
    (ReflectliteValue.method (ReflectliteValue.valueError "reflectlite.Value.IsNil" 0) ReflectliteValue.isNil #[.agg #[.pointer (some ⟨2, 153, none⟩), .pointer (some a), .int .u64 150]]).run Tryz.prog W = .ok (.bool false) W := by
  rw [rlm]
  simp only [Sem.run_bind, As.parts27, Result.andThen]
  simp [ReflectliteValue.isNil, loadVar, isAgg, underlying, Tryz.underlying153, ha, Result.andThen]

theorem As.methodElem (h : Value) (w : World) : (Go.method 359 194 (.agg #[h]) "Elem").run Tryz.prog w = .ok (213, .agg #[h]) w := by kernel_rfl
theorem As.methodImplements (h : Value) (w : World) : (Go.method 359 194 (.agg #[h]) "Implements").run Tryz.prog w = .ok (214, .agg #[h]) w := by kernel_rfl
theorem As.methodAssignableTo (h : Value) (w : World) : (Go.method 359 194 (.agg #[h]) "AssignableTo").run Tryz.prog w = .ok (211, .agg #[h]) w := by kernel_rfl
theorem As.elem27 (w : World) : (ReflectliteType.method ReflectliteType.elem #[.agg #[.pointer (some ⟨2, 153, none⟩)]]).run Tryz.prog w = .ok (.iface 194 (.agg #[.pointer (some ⟨2, 92, none⟩)])) w := by kernel_rfl
theorem As.implements25 (w : World) : (ReflectliteType.relation "Implements" ReflectliteType.implements_ #[.agg #[.pointer (some ⟨2, 92, none⟩)], .iface 194 (.agg #[.pointer (some ⟨2, 33, none⟩)])]).run Tryz.prog w = .ok (.bool true) w := by kernel_rfl
theorem As.typeOf25 (v : Value) (w : World) : (ReflectliteType.typeOf #[.iface 92 v]).run Tryz.prog w = .ok (.iface 194 (.agg #[.pointer (some ⟨2, 92, none⟩)])) w := by kernel_rfl
theorem As.assignable25 (w : World) : (ReflectliteType.relation "AssignableTo" ReflectliteType.assignableTo #[.agg #[.pointer (some ⟨2, 92, none⟩)], .iface 194 (.agg #[.pointer (some ⟨2, 92, none⟩)])]).run Tryz.prog w = .ok (.bool true) w := by kernel_rfl
theorem As.valueOf25 (e : Addr) (w : World) : (ReflectliteValue.unpack (.iface 92 (.pointer (some e)))).run Tryz.prog w
    = .ok (.agg #[.pointer (some ⟨2, 92, none⟩), .pointer (some ⟨w.heap.size, 0, none⟩), .int .u64 150]) (w.alloc (.cells #[.pointer (some e)] 92)) := by kernel_rfl

theorem As.elemOf27 (w : World) : (Rtype.elem? 153).run Tryz.prog w = .ok (some 92) w := by kernel_rfl
theorem As.mk25 (p : Addr) (w : World) : (ReflectliteValue.mk 92 p ReflectliteValue.flagAddr).run Tryz.prog w = .ok (.agg #[.pointer (some ⟨2, 92, none⟩), .pointer (some p), .int .u64 406]) w := by kernel_rfl
/-- (Value).Elem at the Value of a **p.E that is not nil: the Value of the *p.E variable that it points to, addressable. -/
theorem As.elemV27 (a p : Addr) (W : World) (ha : W.cell? a = some (.pointer (some p))) :
    (ReflectliteValue.method (ReflectliteValue.valueError "reflectlite.Value.Elem" 0) ReflectliteValue.elem #[.agg #[.pointer (some ⟨2, 153, none⟩), .pointer (some a), .int .u64 150]]).run Tryz.prog W
      = .ok (.agg #[.pointer (some ⟨2, 92, none⟩), .pointer (some p), .int .u64 406]) W := by
  rw [rlm]
  simp only [Sem.run_bind, As.parts27, Result.andThen]
  simp [ReflectliteValue.elem, loadVar, isAgg, underlying, Tryz.underlying153, ha, Result.andThen, As.elemOf27, As.mk25]
theorem rls (v x : Value) : ReflectliteValue.set #[v, x] = (do
    let (some (dst, a, fl), some (src, b, _)) := (← ReflectliteValue.parts v, ← ReflectliteValue.parts x)
      | unsupported (.noEntry "extern/(internal/reflectlite.Value).Set.zeroValue")
    if fl / ReflectliteValue.flagAddr % 2 == 0 then unsupported (.noEntry "extern/(internal/reflectlite.Value).Set.unaddressable")
    let val ← loadVar src b
    if ← Rtype.directlyAssignable dst src then storeVar dst a val
    else if ← Rtype.implements dst src then
      if (← Rtype.kind src) == 20 then
        match val with
        | .nilIface => unsupported (.noEntry "extern/reflectlite: a nil value of one interface type handed on as a value of another")
        | _ => storeVar dst a val
      else storeVar dst a (.iface src val)
    else panicString ("reflectlite.Set: value of type " ++ (← Rtype.spelt src) ++ " is not assignable to type " ++ (← Rtype.spelt dst))
    pure (.tuple #[])) := rfl
theorem As.parts25a (a : Addr) (w : World) : (ReflectliteValue.parts (.agg #[.pointer (some ⟨2, 92, none⟩), .pointer (some a), .int .u64 406])).run Tryz.prog w = .ok (some (92, a, 406)) w := by kernel_rfl
theorem As.parts25 (a : Addr) (w : World) : (ReflectliteValue.parts (.agg #[.pointer (some ⟨2, 92, none⟩), .pointer (some a), .int .u64 150])).run Tryz.prog w = .ok (some (92, a, 150)) w := by kernel_rfl
theorem As.direct25 (w : World) : (Rtype.directlyAssignable 92 92).run Tryz.prog w = .ok true w := by kernel_rfl
/-- (Value).Set: the *p.E variable at 'ta' gets what the Value's own variable 'b' holds. -/
theorem As.set25 (ta b e : Addr) (old : Value) (W : World) (hb : W.cell? b = some (.pointer (some e))) (ht : W.cell? ta = some old) (hf : W.frozen? ta = false) :
    (ReflectliteValue.set #[.agg #[.pointer (some ⟨2, 92, none⟩), .pointer (some ta), .int .u64 406], .agg #[.pointer (some ⟨2, 92, none⟩), .pointer (some b), .int .u64 150]]).run Tryz.prog W
      = .ok (.tuple #[]) (W.setCell ta (.pointer (some e))) := by
  rw [rls]
  simp only [Sem.run_bind, As.parts25a, As.parts25, Result.andThen]
  simp [ReflectliteValue.flagAddr, loadVar, isAgg, underlying, Tryz.underlying92, hb, Result.andThen, As.direct25, storeVar, Value.cells, storeCells, Addr.add]
  rw [run_store Tryz.prog W ta _ _ (by rfl)]
  simp [ht, hf]

set_option maxRecDepth 100000 in
set_option maxHeartbeats 4000000 in
theorem as_hit (e t : Addr) (old : Value) (w : World) (hg : w.cell? ⟨0, 0, none⟩ = some (.iface 194 (.agg #[.pointer (some ⟨2, 33, none⟩)]))) (ht0 : w.cell? t = some old) (hf0 : w.frozen? t = false) :
    Calls Tryz.prog 95 #[.iface 92 (.pointer (some e)), .iface 153 (.pointer (some t))] w fun ev w' => ev = .returned (.bool true) ∧ w' = ((((w.alloc (.cells #[.pointer (some t)] 153)).alloc (.cells #[.pointer (some ⟨2, 153, none⟩), .pointer (some ⟨w.heap.size, 0, none⟩), .int .u64 150] 171)).alloc (.cells #[.pointer (some ⟨2, 153, none⟩), .pointer (some ⟨w.heap.size, 0, none⟩), .int .u64 150] 171)).alloc (.cells #[.pointer (some e)] 92)).setCell t (.pointer (some e)) := by
  have h6 := @run_callFunc_extern Tryz.prog 121 _ (fun args => ReflectliteValue.unpack (args.getD 0 (.tuple #[]))) Tryz.func121 (by kernel_rfl) (by kernel_rfl) (by kernel_rfl) (by kernel_rfl)
  have h7 := @run_callFunc_extern Tryz.prog 122 _ (ReflectliteValue.methodAny (ReflectliteValue.valueError "reflectlite.Value.Type" 0) (fun t _ _ _ => ReflectliteType.toType t)) Tryz.func122 (by kernel_rfl) (by kernel_rfl) (by kernel_rfl) (by kernel_rfl)
  have h8 := @run_callFunc_extern Tryz.prog 123 _ (ReflectliteValue.method (ReflectliteValue.valueError "reflectlite.Value.IsNil" 0) ReflectliteValue.isNil) Tryz.func123 (by kernel_rfl) (by kernel_rfl) (by kernel_rfl) (by kernel_rfl)
  have h27 := @run_callFunc_extern Tryz.prog 201 _ (ReflectliteType.abiMethod fun t => do pure (.int .u8 (← Rtype.kind t))) Tryz.func201 (by kernel_rfl) (by kernel_rfl) (by kernel_rfl) (by kernel_rfl)
  have h37 := @run_callFunc_extern Tryz.prog 213 _ (ReflectliteType.method ReflectliteType.elem) Tryz.func213 (by kernel_rfl) (by kernel_rfl) (by kernel_rfl) (by kernel_rfl)
  have h38 := @run_callFunc_extern Tryz.prog 214 _ (ReflectliteType.relation "Implements" ReflectliteType.implements_) Tryz.func214 (by kernel_rfl) (by kernel_rfl) (by kernel_rfl) (by kernel_rfl)
  have h10 := @run_callFunc_extern Tryz.prog 145 _ ReflectliteType.typeOf Tryz.func145 (by kernel_rfl) (by kernel_rfl) (by kernel_rfl) (by kernel_rfl)
  have h35 := @run_callFunc_extern Tryz.prog 211 _ (ReflectliteType.relation "AssignableTo" ReflectliteType.assignableTo) Tryz.func211 (by kernel_rfl) (by kernel_rfl) (by kernel_rfl) (by kernel_rfl)
  have h11 := @run_callFunc_extern Tryz.prog 146 _ (ReflectliteValue.method (ReflectliteValue.valueError "reflectlite.Value.Elem" 0) ReflectliteValue.elem) Tryz.func146 (by kernel_rfl) (by kernel_rfl) (by kernel_rfl) (by kernel_rfl)
  have h12 := @run_callFunc_extern Tryz.prog 147 _ ReflectliteValue.set Tryz.func147 (by kernel_rfl) (by kernel_rfl) (by kernel_rfl) (by kernel_rfl)
  have tO := As.typeOf25
  have mA := As.methodAssignableTo
  have a25 := As.assignable25
  have v25 := As.valueOf25
  have f6 := As.valueOf27
  have f7 := As.type27
  have mK := As.methodKind
  have mE := As.methodElem
  have mI := As.methodImplements
  have k27 := As.kind27
  have k25 := As.kind25
  have e27 := As.elem27
  have i25 := As.implements25
  have n8 := As.isNil27 ⟨w.heap.size, 0, none⟩ t ((w.alloc (.cells #[.pointer (some t)] 153)).alloc (.cells #[.pointer (some ⟨2, 153, none⟩), .pointer (some ⟨w.heap.size, 0, none⟩), .int .u64 150] 171)) (by simp)
  have hlt : 0 < w.heap.size := by
    rcases Nat.eq_zero_or_pos w.heap.size with h0 | h
    · simp [World.cell?, h0] at hg
    · exact h
  have hg2 : ((w.alloc (.cells #[.pointer (some t)] 153)).alloc (.cells #[.pointer (some ⟨2, 153, none⟩), .pointer (some ⟨w.heap.size, 0, none⟩), .int .u64 150] 171)).cell? ⟨0, 0, none⟩ = some (.iface 194 (.agg #[.pointer (some ⟨2, 33, none⟩)])) := by
    rw [World.cell?_alloc_lt _ _ ⟨0, 0, none⟩ (by simp), World.cell?_alloc_lt _ _ ⟨0, 0, none⟩ hlt]; exact hg
  have htl : t.block < w.heap.size := by
    rcases Nat.lt_or_ge t.block w.heap.size with h | h
    · exact h
    · simp [World.cell?, Array.getElem?_eq_none h] at ht0
  have el := As.elemV27 ⟨w.heap.size, 0, none⟩ t (((w.alloc (.cells #[.pointer (some t)] 153)).alloc (.cells #[.pointer (some ⟨2, 153, none⟩), .pointer (some ⟨w.heap.size, 0, none⟩), .int .u64 150] 171)).alloc (.cells #[.pointer (some ⟨2, 153, none⟩), .pointer (some ⟨w.heap.size, 0, none⟩), .int .u64 150] 171)) (by rw [World.cell?_alloc_lt _ _ ⟨w.heap.size, 0, none⟩ (by simp; omega)]; simp)
  have st := As.set25 t ⟨w.heap.size + 1 + 1 + 1, 0, none⟩ e old ((((w.alloc (.cells #[.pointer (some t)] 153)).alloc (.cells #[.pointer (some ⟨2, 153, none⟩), .pointer (some ⟨w.heap.size, 0, none⟩), .int .u64 150] 171)).alloc (.cells #[.pointer (some ⟨2, 153, none⟩), .pointer (some ⟨w.heap.size, 0, none⟩), .int .u64 150] 171)).alloc (.cells #[.pointer (some e)] 92))
    (by rw [World.cell?_alloc_at _ _ _ _ (by simp)]; rfl)
    (by rw [World.cell?_alloc_lt _ _ t (by simp; omega), World.cell?_alloc_lt _ _ t (by simp; omega), World.cell?_alloc_lt _ _ t (by simp; omega), World.cell?_alloc_lt _ _ t htl]; exact ht0)
    (by rw [World.frozen?_alloc_old _ _ t (by simp; omega), World.frozen?_alloc_old _ _ t (by simp; omega), World.frozen?_alloc_old _ _ t (by simp; omega), World.frozen?_alloc_old _ _ t (Nat.ne_of_lt htl)]; exact hf0)
  go_enter Tryz.func95, Tryz.ntmps95
  go_wp2
  refine wp_loop_rounds 1 ?_
  rw [rounds_succ]
  go_wp2
  go_ret
  exact ⟨rfl, rfl⟩
end Go.Proofs.YtlnphjjhfgghkaaGreatDoor

set_option linter.unusedSimpArgs false
set_option linter.unusedVariables false
namespace Go.Lg
open Go Go.RowKit

section
variable {P : Program} {E : Env} {g : Gh} {σ : St} {a : Act} {w : World}
theorem two_args {vs : Array Value} {x y : V} (hsz : vs.size = [x, y].length) (h : ∀ (j : Nat) (u : Value) (c : V), vs[j]? = some u → ([x, y] : List V)[j]? = some c → Rep g w u c) : ∃ u v, vs = #[u, v] ∧ Rep g w u x ∧ Rep g w v y := by
  have hsz : vs.size = 2 := hsz
  refine ⟨vs[0], vs[1], ?_, h 0 _ _ (Array.getElem?_eq_getElem (by omega)) rfl, h 1 _ _ (Array.getElem?_eq_getElem (by omega)) rfl⟩
  apply Array.ext
  · simpa using hsz
  · intro i h1 h2
    have : i = 0 ∨ i = 1 := by omega
    rcases this with rfl | rfl <;> rfl

/-! strings.Contains, strings.Cut. -/
noncomputable def shortS (l : List UInt8) : Bool := Nat.blt (lenA l 0) 4294967281
theorem shortS_ok {l : List UInt8} (h : shortS l = true) : (ByteArray.mk ⟨l⟩).size < 4294967281 := by
  unfold shortS at h
  rw [nblt, lenA_eq, decide_eq_true_eq] at h
  exact h
noncomputable def xCon (args : List V) (h : Hq) : Rc := match args with
  | [x, y] => S6.rec (motive := fun _ => Rc) (.err 20) (fun l => S6.rec (motive := fun _ => Rc) (.err 20) (fun m => Bool.rec (motive := fun _ => Rc) (.err 20) (Bool.rec (motive := fun _ => Rc) (.ok (.bool false) h) (.ok (.bool true) h) (Lib.contains l m)) (shortS l)) (asS y)) (asS x)
  | _ => .err 20
noncomputable def xCut (args : List V) (h : Hq) : Rc := match args with
  | [x, y] => S6.rec (motive := fun _ => Rc) (.err 21) (fun l => S6.rec (motive := fun _ => Rc) (.err 21) (fun m => Bool.rec (motive := fun _ => Rc) (.err 21) (.ok (.tup [.str ⟨(Lib.cut l m).1.toArray⟩, .str ⟨(Lib.cut l m).2.1.toArray⟩, .bool (Lib.cut l m).2.2]) h) (shortS l)) (asS y)) (asS x)
  | _ => .err 21
theorem rBool {b : Bool} {x : Rc} {n : Nat} {v : V} {h : Hq} (e : Bool.rec (motive := fun _ => Rc) (.err n) x b = .ok v h) : b = true ∧ x = .ok v h := fBool e
theorem strs_of {x y : V} {l m : List UInt8} {u v : Value} (hx : asS x = .ok l) (hy : asS y = .ok m) (hu : Rep g w u x) (hv : Rep g w v y) : u = .string ⟨⟨l⟩⟩ ∧ v = .string ⟨⟨m⟩⟩ := by
  rw [asS_ok hx] at hu
  rw [asS_ok hy] at hv
  exact ⟨hu.str_inv, hv.str_inv⟩
theorem fx_con {f : FuncId} (hen : entersOk P f = true) (hc : ∀ (s sub : ByteArray) (w : World), GOk P w → s.size < 4294967281 → Calls P f #[.string s, .string sub] w fun e w' => e = .returned (.bool (Lib.contains s.data.toList sub.data.toList)) ∧ w' = w) : FxOk P f (.ext xCon) := by
  intro args h v h' e tm
  match args, e with
  | [x, y], e =>
    have e : S6.rec (motive := fun _ => Rc) (.err 20) (fun l => S6.rec (motive := fun _ => Rc) (.err 20) (fun m => Bool.rec (motive := fun _ => Rc) (.err 20) (Bool.rec (motive := fun _ => Rc) (.ok (.bool false) h) (.ok (.bool true) h) (Lib.contains l m)) (shortS l)) (asS y)) (asS x) = .ok v h' := e
    cases hx : asS x with
    | no => rw [hx] at e; cases e
    | ok l =>
      cases hy : asS y with
      | no => rw [hx, hy] at e; cases e
      | ok m =>
        rw [hx, hy] at e
        obtain ⟨hs, e⟩ := rBool e
        have e : v = .bool (Lib.contains l m) ∧ h' = h := by
          cases hb : Lib.contains l m with
          | false => rw [hb] at e; cases e; exact ⟨rfl, rfl⟩
          | true => rw [hb] at e; cases e; exact ⟨rfl, rfl⟩
        obtain ⟨rfl, rfl⟩ := e
        refine ⟨hen, fun E hE g a w vs hsim hsz hrep => ?_⟩
        obtain ⟨u1, u2, rfl, r1, r2⟩ := two_args hsz hrep
        obtain ⟨rfl, rfl⟩ := strs_of hx hy r1 r2
        refine (hc _ _ w (EOk.gok hsim) (shortS_ok hs)).mono ?_
        rintro e w' ⟨rfl, rfl⟩
        exact ⟨_, _, _, g, rfl, hsim, .imm _ _ (.bool _), rfl, rfl⟩
theorem fx_cut {f : FuncId} (hen : entersOk P f = true) (hc : ∀ (s sep : ByteArray) (w : World), GOk P w → s.size < 4294967281 → Calls P f #[.string s, .string sep] w fun e w' => e = .returned (.tuple #[.string ⟨(Lib.cut s.data.toList sep.data.toList).1.toArray⟩, .string ⟨(Lib.cut s.data.toList sep.data.toList).2.1.toArray⟩, .bool (Lib.cut s.data.toList sep.data.toList).2.2]) ∧ ∃ n, w' = w.drewN n) : FxOk P f (.ext xCut) := by
  intro args h v h' e tm
  match args, e with
  | [x, y], e =>
    have e : S6.rec (motive := fun _ => Rc) (.err 21) (fun l => S6.rec (motive := fun _ => Rc) (.err 21) (fun m => Bool.rec (motive := fun _ => Rc) (.err 21) (.ok (.tup [.str ⟨(Lib.cut l m).1.toArray⟩, .str ⟨(Lib.cut l m).2.1.toArray⟩, .bool (Lib.cut l m).2.2]) h) (shortS l)) (asS y)) (asS x) = .ok v h' := e
    cases hx : asS x with
    | no => rw [hx] at e; cases e
    | ok l =>
      cases hy : asS y with
      | no => rw [hx, hy] at e; cases e
      | ok m =>
        rw [hx, hy] at e
        obtain ⟨hs, e⟩ := rBool e
        cases e
        refine ⟨hen, fun E hE g a w vs hsim hsz hrep => ?_⟩
        obtain ⟨u1, u2, rfl, r1, r2⟩ := two_args hsz hrep
        obtain ⟨rfl, rfl⟩ := strs_of hx hy r1 r2
        refine (hc _ _ w (EOk.gok hsim) (shortS_ok hs)).mono ?_
        rintro e w' ⟨rfl, n, rfl⟩
        have hb : BelowD w.heap.size w (w.drewN n) := ⟨⟨rfl, rfl, rfl, Nat.le_refl _, fun _ _ => rfl⟩, Nat.le_add_right _ _⟩
        refine ⟨_, _, _, g, rfl, hsim.grow_same hb, .imm _ _ (.tup _ _ rfl fun j u c hu hcj => ?_), rfl, rfl⟩
        match j, hu, hcj with
        | 0, hu, hcj => simp at hu hcj; subst hu hcj; exact .str _
        | 1, hu, hcj => simp at hu hcj; subst hu hcj; exact .str _
        | 2, hu, hcj => simp at hu hcj; subst hu hcj; exact .bool _
        | j + 3, hu, _ => simp at hu

/-! errors.As, where what is looked for is of one pointer type. -/
noncomputable def xAs (tF tPF : TypeId) (args : List V) (h : Hq) : Rc := match args with
  | [x, y] => C6.rec (motive := fun _ => Rc) (.err 22) (.ok (.bool false) h) (fun t p => Bool.rec (motive := fun _ => Rc) (.err 22) (P6.rec (motive := fun _ => Rc) (.err 22) (fun _ _ => C6.rec (motive := fun _ => Rc) (.err 22) (.err 22) (fun t' q => Bool.rec (motive := fun _ => Rc) (.err 22) (Option.rec (motive := fun _ => Rc) (.err 22) (fun h' => .ok (.bool true) h') (qStore 1 h q p)) (Nat.beq t' tPF)) (asC y)) (fun _ _ _ => C6.rec (motive := fun _ => Rc) (.err 22) (.err 22) (fun t' q => Bool.rec (motive := fun _ => Rc) (.err 22) (Option.rec (motive := fun _ => Rc) (.err 22) (fun h' => .ok (.bool true) h') (qStore 1 h q p)) (Nat.beq t' tPF)) (asC y)) (asP p)) (Nat.beq t tF)) (asC x)
  | _ => .err 22
theorem ptr_of {v : Value} {p : V} (h : Rep g w v p) (hp : (∃ cs off, asP p = .ip cs off) ∨ ∃ k n off, asP p = .mp k n off) : ∃ e, v = .pointer (some e) := by
  rcases hp with ⟨cs, off, hp⟩ | ⟨k, n, off, hp⟩
  · rw [asP_ip hp] at h
    obtain ⟨b, o, us, T, fz, rfl, _⟩ := h.ip_inv
    exact ⟨_, rfl⟩
  · rw [asP_mp hp] at h
    obtain ⟨b, cap, _, rfl⟩ := h.mp_inv
    exact ⟨_, rfl⟩
theorem fx_as {f : FuncId} {tF tPF : TypeId} (hen : entersOk P f = true) (hsz1 : szT P tF = some 1) (hnil : ∀ (t : Value) (w : World), Calls P f #[.nilIface, t] w fun e w' => e = .returned (.bool false) ∧ w' = w)
    (hhit : ∀ (e t : Addr) (old : Value) (w : World), GOk P w → w.cell? t = some old → w.frozen? t = false → Calls P f #[.iface tF (.pointer (some e)), .iface tPF (.pointer (some t))] w fun ev w' => ev = .returned (.bool true) ∧ ∃ o1 o2 o3 o4, w' = ((((w.alloc o1).alloc o2).alloc o3).alloc o4).setCell t (.pointer (some e))) :
    FxOk P f (.ext (xAs tF tPF)) := by
  intro args h v h' e tm
  match args, e with
  | [x, y], e =>
    have e : C6.rec (motive := fun _ => Rc) (.err 22) (.ok (.bool false) h) (fun t p => Bool.rec (motive := fun _ => Rc) (.err 22) (P6.rec (motive := fun _ => Rc) (.err 22) (fun _ _ => C6.rec (motive := fun _ => Rc) (.err 22) (.err 22) (fun t' q => Bool.rec (motive := fun _ => Rc) (.err 22) (Option.rec (motive := fun _ => Rc) (.err 22) (fun h' => .ok (.bool true) h') (qStore 1 h q p)) (Nat.beq t' tPF)) (asC y)) (fun _ _ _ => C6.rec (motive := fun _ => Rc) (.err 22) (.err 22) (fun t' q => Bool.rec (motive := fun _ => Rc) (.err 22) (Option.rec (motive := fun _ => Rc) (.err 22) (fun h' => .ok (.bool true) h') (qStore 1 h q p)) (Nat.beq t' tPF)) (asC y)) (asP p)) (Nat.beq t tF)) (asC x) = .ok v h' := e
    cases hx : asC x with
    | no => rw [hx] at e; cases e
    | nil =>
      rw [hx] at e
      cases e
      refine ⟨hen, fun E hE g a w vs hsim hsz hrep => ?_⟩
      obtain ⟨u1, u2, rfl, r1, r2⟩ := two_args hsz hrep
      rw [asC_nil hx] at r1
      rw [r1.nili_inv]
      refine (hnil u2 w).mono ?_
      rintro e w' ⟨rfl, rfl⟩
      exact ⟨_, _, _, g, rfl, hsim, .imm _ _ (.bool _), rfl, rfl⟩
    | ifc t p =>
      rw [hx] at e
      obtain ⟨ht, e2⟩ := rBool e
      clear e
      have ht := Nat.eq_of_beq_eq_true ht
      subst ht
      have key : ((∃ cs off, asP p = .ip cs off) ∨ ∃ k n off, asP p = .mp k n off) ∧ ∃ q, asC y = .ifc tPF q ∧ qStore 1 h q p = some h' ∧ v = .bool true := by
        have fin : C6.rec (motive := fun _ => Rc) (.err 22) (.err 22) (fun t' q => Bool.rec (motive := fun _ => Rc) (.err 22) (Option.rec (motive := fun _ => Rc) (.err 22) (fun h' => .ok (.bool true) h') (qStore 1 h q p)) (Nat.beq t' tPF)) (asC y) = .ok v h' → ∃ q, asC y = .ifc tPF q ∧ qStore 1 h q p = some h' ∧ v = .bool true := by
          intro e
          cases hy : asC y with
          | no => rw [hy] at e; cases e
          | nil => rw [hy] at e; cases e
          | ifc t' q =>
            rw [hy] at e
            obtain ⟨ht, e3⟩ := rBool e
            clear e
            have ht := Nat.eq_of_beq_eq_true ht
            subst ht
            cases hq : qStore 1 h q p with
            | none => rw [hq] at e3; cases e3
            | some h1 => rw [hq] at e3; cases e3; exact ⟨q, rfl, hq, rfl⟩
        cases hp : asP p with
        | no => rw [hp] at e2; cases e2
        | ip cs off => rw [hp] at e2; exact ⟨.inl ⟨cs, off, rfl⟩, fin e2⟩
        | mp k n off => rw [hp] at e2; exact ⟨.inr ⟨k, n, off, rfl⟩, fin e2⟩
      obtain ⟨hp, q, hy, hq, rfl⟩ := key
      obtain ⟨pre, H', s1, s2, s3, s4⟩ := qStore_ok hq
      refine ⟨hen, fun E hE g a w vs hsim hsz hrep => ?_⟩
      obtain ⟨u1, u2, rfl, r1, r2⟩ := two_args hsz hrep
      rw [asC_ifc hx] at r1
      rw [asC_ifc hy] at r2
      obtain ⟨v1, rfl, k1⟩ := r1.ifc_inv
      obtain ⟨v2, rfl, k2⟩ := r2.ifc_inv
      obtain ⟨ad, rfl⟩ := ptr_of k1 hp
      -- the target: an object's cell
      have hs1 : ∀ w1, SimG E g ⟨tm, h.H, h.c⟩ a w1 → Rep g w1 (.pointer (some ad)) p → Rep g w1 v2 q → ∃ t old, v2 = .pointer (some t) ∧ w1.cell? t = some old ∧ w1.frozen? t = false ∧ t.block < w1.heap.size ∧ ∃ g', SimG E g' ⟨tm, H', h.c⟩ a (w1.setCell t (.pointer (some ad))) := by
        intro w1 hsim1 q1 q2
        have hst := store_ok (P := P) (s := 0) hsim1 hsz1 q2 q1
        rw [s1] at hst
        obtain ⟨n, w2, g', e1, _, e3⟩ := hst s2
        cases hqq : q <;> rw [hqq] at s1 <;> simp only [lstore] at s1 <;> try (cases s1; done)
        rename_i k gn off
        rw [hqq] at q2
        obtain ⟨b, cap, hb, rfl⟩ := q2.mp_inv
        cases hk : h.H k with
        | none => rw [hk] at s1; cases s1
        | some o =>
          cases o with
          | map es => rw [hk] at s1; cases s1
          | it _ _ => rw [hk] at s1; cases s1
          | row g0 esz cs =>
            rw [hk] at s1
            simp only [] at s1
            by_cases hg : g0 = gn
            case neg => rw [if_neg hg] at s1; cases s1
            rw [if_pos hg] at s1
            subst hg
            cases s1
            obtain ⟨c1, c2, c3⟩ := s2
            obtain ⟨blk, cap', z1, z2, z3⟩ := hsim1.obj k _ hk
            rw [hb] at z1; cases z1
            obtain ⟨p1, p2, p3, us, T, fz, y1, y2, y3, y4, y5⟩ := z3
            have hoff : off < us.size := by omega
            have hc : w1.cell? ⟨b, off, none⟩ = some us[off] := by rw [cell_at y1]; exact Array.getElem?_eq_getElem hoff
            have hf : w1.frozen? ⟨b, off, none⟩ = false := frozen_at y1 (y2.1 off hoff)
            refine ⟨⟨b, off, none⟩, us[off], rfl, hc, hf, p2, g', ?_⟩
            have hrun : (do Instr.storeAt t (.pointer (some ⟨b, off, none⟩)) (.pointer (some ad)); pure .skip : Sem Next).run P w1 = .ok .skip (w1.setCell ⟨b, off, none⟩ (.pointer (some ad))) := by
              have hst1 := run_store P w1 ⟨b, off, none⟩ (.pointer (some ad)) .plain rfl
              rw [hc] at hst1
              simp only [hf] at hst1
              simp only [Instr.storeAt, Instr.sureAddr, storeVar]
              simp [szT_run hsz1, Value.cells, storeCells, Addr.add, hst1]
            rw [hrun] at e1
            cases e1
            exact e3
      obtain ⟨t0, old, e1, e2, e3, e4, _⟩ := hs1 w hsim k1 k2
      subst e1
      refine (hhit ad t0 old w (EOk.gok hsim) e2 e3).mono ?_
      rintro ev w' ⟨rfl, o1, o2, o3, o4, rfl⟩
      have hb : BelowD w.heap.size w ((((w.alloc o1).alloc o2).alloc o3).alloc o4) := ((((BelowD.refl _ _).alloc (Nat.le_refl _) _).alloc (by simp) _).alloc (by simp; omega) _).alloc (by simp; omega) _
      have hmono : ∀ v x, Rep g w v x → Rep g ((((w.alloc o1).alloc o2).alloc o3).alloc o4) v x := fun v x h => h.mono (fun _ h => h) (fun b hm => hb.block b (hsim.immlt b hm)) (fun _ _ _ h => h)
      obtain ⟨t1, _, f1, _, _, _, g', f5⟩ := hs1 _ (hsim.grow_same hb) (hmono _ _ k1) (hmono _ _ k2)
      cases f1
      refine ⟨_, _, ⟨tm, h'.H, h'.c⟩, g', rfl, ?_, .imm _ _ (.bool _), rfl, rfl⟩
      rw [s3, s4]
      exact f5
end
end Go.Lg

set_option linter.unusedSimpArgs false
set_option linter.unusedVariables false
namespace Go.Lg
open Go Go.RowKit

def LC.l : LC → LC
  | .seq x _ => x
  | .join x _ => x
  | c => c
def LC.r : LC → LC
  | .seq _ y => y
  | .join _ y => y
  | c => c
end Go.Lg

set_option linter.unusedSimpArgs false
set_option linter.unusedVariables false
namespace Go.Proofs.YtlnphjjhfgghkaaGreatDoor
open Go Go.Lg Go.RowKit
set_option maxRecDepth 100000

theorem gl_eq : glOf Tryz.prog = [(1, .int), (0, .val (.iface 194 (.agg #[.pointer (some ⟨2, 33, none⟩)])))] := by kernel_rfl
theorem gok_err {w : World} (h : GOk Tryz.prog w) : w.cell? ⟨0, 0, none⟩ = some (.iface 194 (.agg #[.pointer (some ⟨2, 33, none⟩)])) :=
  (h (0, .val (.iface 194 (.agg #[.pointer (some ⟨2, 33, none⟩)]))) (by rw [gl_eq]; simp)).2
theorem gok_max {w : World} (h : GOk Tryz.prog w) : ∃ m, w.cell? ⟨1, 0, none⟩ = some (.int .i64 m) :=
  (h (1, .int) (by rw [gl_eq]; simp)).2
theorem fxCon : FxOk Tryz.prog 126 (.ext xCon) :=
  fx_con (by kernel_rfl) fun s sub w hg hs => by
    obtain ⟨m, hm⟩ := gok_max hg
    exact Tryz.strings_Contains s sub m w hs hm
theorem fxCut : FxOk Tryz.prog 156 (.ext xCut) :=
  fx_cut (by kernel_rfl) fun s sub w hg hs => by
    obtain ⟨m, hm⟩ := gok_max hg
    exact Tryz.strings_Cut s sub m w hs hm
theorem fxAs : FxOk Tryz.prog 95 (.ext (xAs 92 153)) :=
  fx_as (by kernel_rfl) (by kernel_rfl) (fun t w => as_nil t w) fun e t old w hg ht hf => (as_hit e t old w (gok_err hg) ht hf).mono fun ev w' ⟨h1, h2⟩ => ⟨h1, _, _, _, _, h2⟩
noncomputable def tbX : Tq Fx := tbPut 95 (.ext (xAs 92 153)) (tbPut 126 (.ext xCon) (tbPut 156 (.ext xCut) tbAll))
theorem tbX_ok : TbOk Tryz.prog tbX := tb_put (tb_put (tb_put tbAll_ok (by kernel_rfl) fxCut) (by kernel_rfl) fxCon) (by kernel_rfl) fxAs
theorem told_ret : PRet Tryz.prog 9 [] (.bool true) := true_of_cl tbX_ok 60 (by kernel_rfl)
end Go.Proofs.YtlnphjjhfgghkaaGreatDoor

set_option linter.unusedSimpArgs false
set_option linter.unusedVariables false
namespace Go.Proofs.YtlnphjjhfgghkaaGreatDoor
open Go Go.Lg Go.RowKit
set_option linter.unusedVariables false
set_option linter.unusedSimpArgs false
theorem maxLen_eq : maxLen = 9223372036854775807 := by decide
theorem scopeOver_ret (F : FnC) (a b d : ByteArray) (hL : F.lives.length ≤ maxLen) (hO : ∀ p ∈ F.lives, p.2.length ≤ maxLen) : PRet Tryz.prog 4 [.agg F.cells, .str a, .str b, .str d] (.bool true) := by
  rw [maxLen_eq] at hL hO
  refine pret_intro fdv4 (by simp) ?_
  simp only [lcv4, VCA, simprocAttr, encL, FnC.onec, V.cells, FnC.ldA, FnC.snapc, FnC.sokc, FnC.ld2]
  refine condD_of (fun h => ?_) (fun h => ?_)
  · simp only [VCA, simprocAttr, encL]
    refine callX_of told_ret (.inl rfl) ?_
    simp only [VCA, simprocAttr, encL]
  have hl : F.lives.length ≤ 20 := by omega
  simp only [VCA, simprocAttr, encL]
  refine loop_vcg (ι := Nat × (Nat → Nat)) (fun (i, c) => stO [(1, .val (.str a)), (2, .val (.str b)), (3, .val (.str d)), (4, .box F.cells), (9, .val (.int .i64 i))] c)
    (fun (i, _) => i ≤ F.lives.length ∧ ∀ u, u < i → ∀ p, F.lives[u]? = some p → p.2.length ≤ 20) (fun (i, _) => F.lives.length - i) (0, _) ⟨Nat.zero_le _, fun u hu => by omega⟩ (ent_of _ [] rfl rfl (by simp only [VCA, simprocAttr, encL, FnC.imvc])) ?_
  rintro ⟨i, c⟩ ⟨hi, hn⟩
  have hi : i ≤ F.lives.length := hi
  simp only [VCA, simprocAttr, encL, FnC.ld2]
  refine condD_of (fun h => ?_) (fun h => ?_)
  · have hi' : i < F.lives.length := by omega
    have ii : 0 ≤ (i : Int) ∧ (i : Int) < F.lives.length := by omega
    have i2 : InI64 ((i : Int) + 1) := by unfold InI64; omega
    simp only [VCA, simprocAttr, encL, FnC.ld2, ii, lf_1 hi']
    refine condD_of (fun h => ?_) (fun h => ?_)
    · simp only [VCA, simprocAttr, encL]
      refine callX_of told_ret (.inl rfl) ?_
      simp only [VCA, simprocAttr, encL]
    · simp only [VCA, simprocAttr, encL, i2]
      refine backTo_of (i + 1, _) ⟨hi', fun u hu p hp => ?_⟩ (by simp only []; omega) (ent_of _ [] rfl rfl (by simp only [VCA, simprocAttr, encL, FnC.imvc]))
      by_cases e : u = i
      · subst e
        rw [List.getElem?_eq_getElem hi'] at hp
        cases hp; omega
      · exact hn u (by omega) p hp
  obtain rfl : i = F.lives.length := by omega
  have hO : ∀ p ∈ F.lives, p.2.length ≤ 20 := by
    intro p hp
    obtain ⟨u, hu⟩ := List.getElem?_of_mem hp
    exact hn u (List.getElem?_eq_some_iff.1 hu).1 p hu
  clear hn
  have over := fun x y => over_ret F x y hl hO
  have rover := fun x y => rover_ret F x y hl hO
  have hself : ∀ {i : Nat} (h : i < F.lives.length), overB F.lives F.lives[i].1 F.lives[i].1 = true := fun h => overB_true.2 (OverL.refl (List.getElem_mem h))
  have htr : overB F.lives a b = true → overB F.lives b d = true → overB F.lives a d = true := fun h1 h2 => overB_true.2 ((overB_true.1 h1).trans (overB_true.1 h2))
  simp only [VCA, simprocAttr, encL, FnC.ldA, FnC.snapc, FnC.sokc]
  refine callV_of (over a b) (.inr rfl) ?_
  simp only [VCA, simprocAttr, encL, FnC.ldA, FnC.snapc, FnC.sokc]
  refine callV_of (rover a b) (.inr rfl) ?_
  simp only [VCA, simprocAttr, encL, FnC.ldA, FnC.snapc, FnC.sokc, bne_self_eq_false]
  refine callV_of (over a b) (.inr rfl) ?_
  cases q1 : overB F.lives a b
  case' true =>
    simp only [VCA, simprocAttr, encL, FnC.ldA, FnC.snapc, FnC.sokc]
    refine callV_of (over b d) (.inr rfl) ?_
    cases q2 : overB F.lives b d
    case' true =>
      simp only [VCA, simprocAttr, encL, FnC.ldA, FnC.snapc, FnC.sokc]
      refine callV_of (over a d) (.inr rfl) ?_
      rw [htr q1 q2]
  all_goals
    simp only [VCA, simprocAttr, encL]
    refine loop_vcg (ι := Nat × (Nat → Nat)) (fun (i, c) => stO [(4, .box F.cells), (10, .val (.int .i64 i))] c)
      (fun (i, _) => i ≤ F.lives.length) (fun (i, _) => F.lives.length - i) (0, _) (Nat.zero_le _) (ent_of _ [] rfl rfl (by simp only [VCA, simprocAttr, encL, FnC.imvc])) ?_
    rintro ⟨i, c⟩ hi
    have hi : i ≤ F.lives.length := hi
    simp only [VCA, simprocAttr, encL, FnC.ld2]
    refine condD_of (fun h => ?_) (fun h => ?_)
    · have hi' : i < F.lives.length := by omega
      have ii : 0 ≤ (i : Int) ∧ (i : Int) < F.lives.length := by omega
      have i2 : InI64 ((i : Int) + 1) := by unfold InI64; omega
      simp only [VCA, simprocAttr, encL, FnC.ldA, FnC.snapc, FnC.sokc, FnC.ld2, ii, lf_0 hi']
      refine callV_of (over _ _) (.inr rfl) ?_
      simp only [VCA, simprocAttr, encL, hself hi', i2]
      exact backTo_of (i + 1, _) hi' (by simp only []; omega) (ent_of _ [] rfl rfl (by simp only [VCA, simprocAttr, encL, FnC.imvc]))
    · simp only [VCA, simprocAttr, encL]
      refine callX_of told_ret (.inl rfl) ?_
      simp only [VCA, simprocAttr, encL]
end Go.Proofs.YtlnphjjhfgghkaaGreatDoor

set_option linter.unusedSimpArgs false
set_option linter.unusedVariables false
namespace Go.Proofs.YtlnphjjhfgghkaaGreatDoor
open Go Go.Lg Go.RowKit Go.ChangeShapes Go.WideShapes Go.ChangeAt
set_option linter.unusedVariables false

theorem own : ownKnob Tryz.prog.godebug = none := by kernel_rfl
theorem laidOut : laidOutB Tryz.prog = true := by kernel_rfl
theorem et : Tryz.prog.globalNamed "errors.errorType" = some 0 := by kernel_rfl
theorem rt : (Tryz.prog.cutTypes.find? (·.1 == "internal/reflectlite.rtype")).map (·.2) = some 194 := by kernel_rfl
theorem oneRow : ((List.range Tryz.prog.types.size).filter fun t => Tryz.prog.rowNamed t [101, 114, 114, 111, 114]) = [33] := by kernel_rfl
theorem handle_of_laid {W : World} (h : laidMetH Tryz.prog Rows.scopeOverRow.laid W) : W.cell? ⟨0, 0, none⟩ = some (.iface 194 (.agg #[.pointer (some ⟨2, 33, none⟩)])) := by
  have h' : laidMet Tryz.prog [] W ∧ handlesMet Tryz.prog Rows.scopeOverRow.laid W := h
  obtain ⟨name, u, ty, e1, e2, e3, e4, e5⟩ := h'.2 _ (List.mem_singleton.2 rfl)
  have en : name = [101, 114, 114, 111, 114] := (Option.some.inj e1).symm
  subst en
  obtain rfl := Option.some.inj (rt.symm.trans e2)
  have hm : ty ∈ (List.range Tryz.prog.types.size).filter fun t => Tryz.prog.rowNamed t [101, 114, 114, 111, 114] := List.mem_filter.2 ⟨List.mem_range.2 e3, e4⟩
  rw [oneRow] at hm
  obtain rfl := List.mem_singleton.1 hm
  have hh : typeHandle Tryz.prog 33 = .pointer (some ⟨2, 33, none⟩) := by kernel_rfl
  rw [hh] at e5
  simpa using World.var?_cell et e5 0
theorem lt_of_cell {W : World} {b : Nat} {v : Value} (h : W.cell? ⟨b, 0, none⟩ = some v) : b < W.heap.size := by
  rcases Nat.lt_or_ge b W.heap.size with h1 | h1
  · exact h1
  · simp [World.cell?, Array.getElem?_eq_none h1] at h
theorem gok {W : World} (h : laidMetH Tryz.prog Rows.scopeOverRow.laid W) (hsh : W.ShapedOpen Tryz.prog) : GOk Tryz.prog W := by
  have h1 := handle_of_laid h
  obtain ⟨m, hm⟩ : ∃ m, W.cell? ⟨1, 0, none⟩ = some (.int .i64 m) := Tryz.laysM144.s1_3 W hsh
  intro p hp
  rw [gl_eq] at hp
  rcases List.mem_cons.1 hp with rfl | hp
  · exact ⟨lt_of_cell hm, m, hm⟩
  · obtain rfl := List.mem_singleton.1 hp
    exact ⟨lt_of_cell h1, h1⟩

/-- A world that meets the condition. -/
noncomputable def laidWorld (os : Os) : World :=
  let w0 := World.holding Tryz.prog os ⟨#[], #[], []⟩
  { w0 with heap := w0.heap.modify 0 fun
      | .cells _ t frozen => .cells #[.iface 194 (.agg #[.pointer (some ⟨2, 33, none⟩)])] t frozen
      | o => o }
theorem laidWorld_met (os : Os) (args : Array Value) : laidMetH Tryz.prog Rows.scopeOverRow.laid ((laidWorld os).forCall (fun _ _ => 0) ⟨#[], args, []⟩).memory :=
  laidMetH_of_parts (laidMet_nil _ _) (by kernel_rfl)

/-- The wrap: what the row lists and the world's shape are both handed on. -/
theorem lifted_of {H : Type} {enc : TypeId × Value → H} {a : Assume} {C : Checked} {os : Os} {f : FuncId} {fn : Func} {s : ChangeSpec} {conds : List PathCond} {apart fresh handsOn again : Bool} {X : World → Array Value → Prop}
    (hX : ∀ (w w' : World) (args : Array Value), w.heap = w'.heap → X w args → X w' args)
    (own : ownKnob C.prog.godebug = none) (started : os.Started) (noInit : C.prog.inits.idxOf? f = none) (hfn : C.prog.funcs[f]? = some fn)
    (witness : ∃ (w : World) (tape : Tape) (i : Input), w.os = os ∧ (w.forCall tape i).Shaped C.prog ∧ i.vars = [] ∧ Input.okWide C.prog (w.forCall tape i) .any w.heap.size f i ∧
      ((s.pre enc C.prog fn conds apart (w.forCall tape i).memory i.args ∧ X (w.forCall tape i).memory i.args) ∧ sizedMet enc C.prog fn (OpenSpec.ofChange s) apart (w.forCall tape i).memory i.args) ∧ a.holds C.prog (lone (Frame.enter C.prog f i.args .normal) [] (w.forCall tape i)))
    (contract : ∀ (W : World) (base : Nat) (args : Array Value) (ds gs : List (DataW H)) (before : List MemPlace),
      (∀ (j : Nat) t v, fn.params[j]? = some t → args[j]? = some v → Value.okWide C.prog W .any base t v) →
      DataW.Whole enc C.prog fn.params.toList s.vars apart W args.toList ds gs before →
      X W args → W.ShapedOpen C.prog →
      Calls C.prog f args W fun e W' => ∃ v, e = .returned v ∧ s.post enc C.prog fn apart fresh handsOn again W args v W') :
    ReturnsInHanded a C os f .any (fun w args => (s.pre enc C.prog fn conds apart w args ∧ X w args) ∧ sizedMet enc C.prog fn (OpenSpec.ofChange s) apart w args) (s.post enc C.prog fn apart fresh handsOn again) := by
  refine returnsInHanded_of_calls own started noInit witness ?_
  intro w tape i _ hsh _ hok hpre hholds
  obtain ⟨_, _, _, fn', hfn', _, _, _, _, hval⟩ := hok
  have e : fn' = fn := Option.some.inj (hfn'.symm.trans hfn)
  subst e
  obtain ⟨⟨⟨ds, gs, before, hw, hc⟩, hx⟩, hz⟩ := hpre
  have hw' := DataW.Whole.of_heap (w' := w.forCall tape i) (by rfl) hw
  refine (contract (w.forCall tape i) w.heap.size i.args ds gs before hval hw' (hX _ _ _ (by rfl) hx) hsh).mono fun e W' ⟨v, he, hp⟩ => ?_
  subst he
  exact ChangeSpec.post_blind hp
end Go.Proofs.YtlnphjjhfgghkaaGreatDoor

set_option linter.unusedSimpArgs false
set_option linter.unusedVariables false
namespace Go.Proofs.YtlnphjjhfgghkaaGreatDoor
open Go Go.Lg Go.RowKit Go.ChangeShapes Go.WideShapes Go.ChangeAt
set_option linter.unusedVariables false
theorem tiles : tilesOk Tryz.prog = true := by kernel_rfl
theorem arg_agg {P : Program} (htile : tilesOk P = true) {H : Type} {enc : TypeId × Value → H} {w : World} {t : TypeId} {fs : Array Field} {α : Type} {f : α → List V} {ok : α → Prop} {r : Reach} {b0 : Nat} {v : Value} {d : DataW H} {p : List MemPlace}
    (ht : P.underlying t = some (.struct fs)) (hin : t < P.types.size) (hT : IsT P t f ok) (hv : Value.okWide P w r b0 t v) (h : DataW.Trod enc P w 0 (fun _ => true) true t v d p) :
    ∃ x : α, ok x ∧ RepI (· < w.heap.size) w v (.agg (f x)) := by
  obtain ⟨cs, rfl, hsz⟩ := okWide_struct ht hv
  obtain ⟨fuel, hf⟩ := h
  obtain ⟨xs, hty, hl, hr⟩ := trod_rep htile fuel t _ d p hin hf
  obtain ⟨x, rfl, hok⟩ := hT xs hty
  simp only [Value.cells] at hl hr
  exact ⟨x, hok, .agg cs _ (by simpa using hl.symm) fun j v c hv hc => hr j v c (by simpa using hv) hc⟩
theorem arg_one {P : Program} (htile : tilesOk P = true) {H : Type} {enc : TypeId × Value → H} {w : World} {t : TypeId} {d0 : TypeDesc} {α : Type} {f : α → V} {ok : α → Prop} {r : Reach} {b0 : Nat} {v : Value} {d : DataW H} {p : List MemPlace}
    (ht : P.underlying t = some d0) (hd : (∃ q, d0 = .int q) ∨ (∃ e, d0 = .slice e) ∨ d0 = .string) (hin : t < P.types.size) (hT : IsT P t (fun x => [f x]) ok) (hv : Value.okWide P w r b0 t v) (h : DataW.Trod enc P w 0 (fun _ => true) true t v d p) :
    ∃ x : α, ok x ∧ RepI (· < w.heap.size) w v (f x) := by
  have hna : v.cells = #[v] := by
    cases v with
    | agg cs =>
      exfalso
      rcases hd with ⟨q, rfl⟩ | ⟨e, rfl⟩ | rfl <;> simp [Value.okWide, Cell.okWide, Cell.ok, ht] at hv
    | _ => rfl
  obtain ⟨fuel, hf⟩ := h
  obtain ⟨xs, hty, hl, hr⟩ := trod_rep htile fuel t _ d p hin hf
  obtain ⟨x, rfl, hok⟩ := hT xs hty
  rw [hna] at hr
  exact ⟨x, hok, hr 0 v (f x) rfl rfl⟩
theorem tyInt : IsT Tryz.prog 3 (fun n : Int => cI n) InI64 := isInt (by kernel_rfl)
theorem tyBool : IsT Tryz.prog 4 (fun n : Bool => cB n) (fun _ => True) := isBool (by kernel_rfl)
theorem tyStr : IsT Tryz.prog 9 (fun n : ByteArray => cS n) (fun s => s.size ≤ maxLen) := isStr (by kernel_rfl)
theorem tyStrs : IsT Tryz.prog 45 (fun l : List ByteArray => [encL cS l]) (fun l => l.length ≤ maxLen ∧ ∀ x ∈ l, x.size ≤ maxLen) := isSl (e := 9) (s := 1) (by kernel_rfl) (by decide) cS_len tyStr
theorem tyLife : IsT Tryz.prog 53 cLif (fun p => p.2.length ≤ maxLen) := by
  intro xs hx
  have hp := hx.st (ts := [9, 45]) (by kernel_rfl)
  obtain ⟨_, _, rfl, h0, _, _, rfl, h1, rfl⟩ := hp
  obtain ⟨l, rfl, o0⟩ := tyStr _ h0
  obtain ⟨s, rfl, o1⟩ := tyStrs _ h1
  exact ⟨(l, s), rfl, o1.1⟩
theorem tyLifes : IsT Tryz.prog 43 (fun l : List Lif => [encL cLif l]) (fun l => l.length ≤ maxLen ∧ ∀ p ∈ l, p.2.length ≤ maxLen) := isSl (e := 53) (s := 2) (by kernel_rfl) (by decide) cLif_len tyLife
theorem tySome {P : Program} {t e : TypeId} {s : Nat} {xs : List V} (h : Ty P t xs) (hs : slF P t = some (e, s)) (hp : 0 < s) : ∃ n cs, xs = [.sl n cs] := by
  obtain ⟨n, cs, h1, _⟩ := h.sl hs hp
  exact ⟨n, cs, h1⟩
theorem tyFunc : IsT Tryz.prog 51 FnC.cells (fun F => F.lives.length ≤ maxLen ∧ ∀ p ∈ F.lives, p.2.length ≤ maxLen) := by
  intro xs hx
  have hp := hx.st (ts := [4, 9, 43, 44, 48, 49, 3]) (by kernel_rfl)
  obtain ⟨_, _, rfl, h0, _, _, rfl, h1, _, _, rfl, h2, _, _, rfl, h3, _, _, rfl, h4, _, _, rfl, h5, _, _, rfl, h6, rfl⟩ := hp
  have h4 := h4.st (ts := [3, 9, 45, 46]) (by kernel_rfl)
  obtain ⟨_, _, rfl, g0, _, _, rfl, g1, _, _, rfl, g2, _, _, rfl, g3, rfl⟩ := h4
  obtain ⟨x0, rfl, _⟩ := tyBool _ h0
  obtain ⟨x1, rfl, _⟩ := tyStr _ h1
  obtain ⟨x2, rfl, o2⟩ := tyLifes _ h2
  obtain ⟨n3, c3, rfl⟩ := tySome h3 (e := 65) (s := 6) (by kernel_rfl) (by decide)
  obtain ⟨y0, rfl, _⟩ := tyInt _ g0
  obtain ⟨y1, rfl, _⟩ := tyStr _ g1
  obtain ⟨n2, c2, rfl⟩ := tySome g2 (e := 9) (s := 1) (by kernel_rfl) (by decide)
  obtain ⟨m3, d3, rfl⟩ := tySome g3 (e := 48) (s := 4) (by kernel_rfl) (by decide)
  obtain ⟨n5, c5, rfl⟩ := tySome h5 (e := 140) (s := 32) (by kernel_rfl) (by decide)
  obtain ⟨x6, rfl, _⟩ := tyInt _ h6
  exact ⟨⟨.bool x0, .str x1, x2, [.sl n3 c3, .int .i64 y0, .str y1, .sl n2 c2, .sl m3 d3, .sl n5 c5, .int .i64 x6], rfl, rfl, rfl, rfl⟩, rfl, o2⟩
end Go.Proofs.YtlnphjjhfgghkaaGreatDoor

set_option linter.unusedSimpArgs false
set_option linter.unusedVariables false
namespace Go.Proofs.YtlnphjjhfgghkaaGreatDoor
open Go
set_option maxRecDepth 100000
theorem soInPlace : (Rows.scopeOverRow.inPlace == Tryz.prog.inPlace 4) = true := by kernel_rfl
theorem soUnfollowed : (Rows.scopeOverRow.unfollowed == Tryz.prog.unfollowed 4) = true := by kernel_rfl
theorem soRecurses : (Rows.scopeOverRow.recurses == Tryz.prog.recurses 4) = true := by kernel_rfl
theorem soNamed : (Rows.scopeOverRow.named == Tryz.prog.varsNamed 4) = true := by kernel_rfl
theorem soEnter : Tryz.prog.mayEnter = true := by kernel_rfl
theorem soLifted : (Rows.scopeOverRow.lifted == Tryz.prog.liftsFinal) = true := by kernel_rfl
theorem soWf : Rows.scopeOverRow.wf (OpenSpec.ofChange Rows.scopeOverSpec) = true := by kernel_rfl
theorem soOut : laidOutB Tryz.prog = true := by kernel_rfl
theorem soMaps : mapsRowed Tryz.prog = true := by kernel_rfl
theorem soKeys : (Rows.scopeOverRow.plainKeys == Tryz.prog.plainKeys) = true := by kernel_rfl
theorem scopeOver_closed : joinedFacts Tryz.prog 4 Tryz.f4 Rows.scopeOverSpec Rows.scopeOverRow = true := by
  unfold joinedFacts
  rw [soInPlace, soUnfollowed, soRecurses, soNamed, soEnter, soLifted, soWf, soOut, soMaps, soKeys]
  kernel_rfl
#print axioms scopeOver_closed
end Go.Proofs.YtlnphjjhfgghkaaGreatDoor
