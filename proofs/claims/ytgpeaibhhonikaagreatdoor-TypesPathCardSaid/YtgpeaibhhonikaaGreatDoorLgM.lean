/-
  Regions that draw their order: two operations that do not touch each other may change places; so the walk in the text's order serves every order.
-/
import Derived.Test.YtgpeaibhhonikaaGreatDoorLgL
set_option linter.unusedSimpArgs false
set_option linter.unusedVariables false
namespace Go.Lg
open Go Go.RowKit

/-- May the second one (behind the first in the text) come first? -/
def compat : Cls → Cls → Bool
  | .A, _ | _, .A => true
  | .B, .B | .B, .L | .L, .B | .L, .L => true
  | .B, .C | .L, .C | .C, .C | .D, .C | .E, .C => true
  | .B, .E | .L, .E | .C, .E | .E, .E => true
  | .C, .L | .E, .L => true
  | _, _ => false

section
variable {P : Program} {σ σ1 σ2 : St} {tm : Nat → V}

theorem RStep.put {s : Nat} {r : LRes} {v : V} {σ' : St} {d : Option Nat} {u : V} (h : RStep P (σ.put d u) s r v σ') : ∃ σ0, RStep P σ s r v σ0 ∧ σ' = σ0.put d u := by
  cases r with
  | A pre x => obtain ⟨h1, h2, h3⟩ := h; exact ⟨σ, ⟨h1, h2, rfl⟩, h3⟩
  | C pre o mk => obtain ⟨h1, h2, h3⟩ := h; exact ⟨_, ⟨h1, h2, rfl⟩, h3⟩
  | D pre x H' => obtain ⟨h1, h2, h3⟩ := h; exact ⟨_, ⟨h1, h2, rfl⟩, h3⟩
  | call pre f a b => obtain ⟨h1, h2, h3, h4⟩ := h; exact ⟨σ, ⟨h1, h2, h3, rfl⟩, h4⟩
  | bad => exact h.elim
theorem RStep.put' {s : Nat} {r : LRes} {v : V} {σ0 : St} {d : Option Nat} {u : V} (h : RStep P σ s r v σ0) : RStep P (σ.put d u) s r v (σ0.put d u) := by
  cases r with
  | A pre x => obtain ⟨h1, h2, h3⟩ := h; exact ⟨h1, h2, by rw [h3]⟩
  | C pre o mk => obtain ⟨h1, h2, h3⟩ := h; exact ⟨h1, h2, by rw [h3]; rfl⟩
  | D pre x H' => obtain ⟨h1, h2, h3⟩ := h; exact ⟨h1, h2, by rw [h3]; rfl⟩
  | call pre f a b => obtain ⟨h1, h2, h3, h4⟩ := h; exact ⟨h1, h2, h3, by rw [h4]⟩
  | bad => exact h.elim

theorem RStep.tm_eq {s : Nat} {r : LRes} {v : V} {σ' : St} (h : RStep P σ s r v σ') : σ'.tm = σ.tm := by
  cases r with
  | A pre x => obtain ⟨h1, h2, h3⟩ := h; rw [h3]
  | C pre o mk => obtain ⟨h1, h2, h3⟩ := h; rw [h3]
  | D pre x H' => obtain ⟨h1, h2, h3⟩ := h; rw [h3]
  | call pre f a b => obtain ⟨h1, h2, h3, h4⟩ := h; rw [h4]
  | bad => exact h.elim

/-- A step that makes or turns nothing. -/
theorem RStep.same {s : Nat} {r : LRes} {v : V} {σ' : St} (hr : isB r = true) (h : RStep P σ s r v σ') : σ' = σ ∧ ∀ σ0 s0, RStep P σ0 s0 r v σ0 := by
  cases r with
  | A pre x => obtain ⟨h1, h2, h3⟩ := h; exact ⟨h3, fun σ0 s0 => ⟨h1, h2, rfl⟩⟩
  | C => cases hr
  | D => cases hr
  | call pre f a b => obtain ⟨h1, h2, h3, h4⟩ := h; exact ⟨h4, fun σ0 s0 => ⟨h1, h2, h3, rfl⟩⟩
  | bad => exact h.elim

theorem isA_isB {r : LRes} (h : isA r = true) : isB r = true := by cases r <;> first | rfl | cases h

theorem cls_B' {op : IOp} (h : op.cls = .B ∨ op.cls = .L) {H H' : Heap} (hs : Heap.sub H H') : isB (lop op tm H) = true ∧ ∀ {s v σ'}, RStep P σ s (lop op tm H) v σ' → ∀ σ0 s0, RStep P σ0 s0 (lop op tm H') v σ0 := by
  rcases cls_B h tm hs with ⟨pre, x, e1, e2⟩ | ⟨pre, pre', f, a, b, e1, e2⟩ | e
  · rw [e1, e2]
    refine ⟨rfl, ?_⟩
    rintro s v σ' ⟨h1, h2, h3⟩ σ0 s0
    exact ⟨h1, h2, rfl⟩
  · rw [e1]
    refine ⟨rfl, ?_⟩
    rintro s v σ' ⟨h1, h2, h3, h4⟩ σ0 s0
    obtain ⟨h5, h6⟩ := e2 h1
    rw [h6]
    exact ⟨h5, h2, h3, rfl⟩
  · rw [e]
    exact ⟨rfl, fun h => h.elim⟩

theorem swap0 {si sj : Nat} {oi oj : IOp} {v u : V} (hne : si ≠ sj) (hc : compat oi.cls oj.cls = true) (hwf : WF σ) (hmd : mdOp oj tm σ.cnt) (hi : RStep P σ si (lop oi tm σ.H) v σ1) (hj : RStep P σ1 sj (lop oj tm σ1.H) u σ2) :
    ∃ σ1', RStep P σ sj (lop oj tm σ.H) u σ1' ∧ RStep P σ1' si (lop oi tm σ1'.H) v σ2 := by
  have fresh : ∀ s, σ.H (s, σ.cnt s) = none := fun s => hwf s _ (Nat.le_refl _)
  -- the second one is of class A
  by_cases cj : oj.cls = .A
  · obtain ⟨e1, e2⟩ := cls_A cj tm σ.H σ1.H
    rw [e1] at hj
    obtain ⟨e3, e4⟩ := RStep.same (isA_isB e2) hj
    subst e3
    exact ⟨σ, e4 _ _, hi⟩
  by_cases ci : oi.cls = .A
  · obtain ⟨_, e2⟩ := cls_A ci tm σ.H σ.H
    obtain ⟨e3, e4⟩ := RStep.same (isA_isB e2) hi
    subst e3
    refine ⟨σ2, hj, ?_⟩
    rw [(cls_A ci tm σ1.H σ2.H).1]
    exact e4 _ _
  have hoi : (oi.cls = .B ∨ oi.cls = .L) ∨ (oi.cls = .C ∨ oi.cls = .E) ∨ oi.cls = .D := by
    cases h : oi.cls <;> simp_all
  -- the first one makes an object
  have mk1 : oi.cls = .C ∨ oi.cls = .E → ∃ pre2 ob2 mk2, lop oi tm σ.H = .C pre2 ob2 mk2 ∧ pre2 ∧ v = mk2 (si, σ.cnt si) ∧ σ1 = ⟨σ.tm, hupd σ.H (si, σ.cnt si) ob2, cupd σ.cnt si⟩ ∧ ∀ H', Heap.sub σ.H H' → lop oi tm H' = .C pre2 ob2 mk2 := by
    intro h
    rcases cls_mk h tm (fun _ _ h => h : Heap.sub σ.H σ.H) with ⟨pre2, ob2, mk2, e1, _⟩ | e1
    · rw [e1] at hi
      obtain ⟨i1, i2, i3⟩ := hi
      refine ⟨pre2, ob2, mk2, e1, i1, i2, i3, fun H' hs => ?_⟩
      rcases cls_mk h tm hs with ⟨p3, o3, m3, f1, f2⟩ | f1
      · rw [e1] at f1; cases f1; exact f2
      · rw [e1] at f1; cases f1
    · rw [e1] at hi; exact hi.elim
  -- the second one makes an object
  by_cases cmk : oj.cls = .C ∨ oj.cls = .E
  · have e1 : lop oj tm σ1.H = lop oj tm σ.H := by
      rcases cmk with cC | cE
      · exact (cls_C cC tm σ.H σ1.H).1
      · rcases hoi with h | h | h
        · obtain ⟨b1, b2⟩ := cls_B' (P := P) (σ := σ) (tm := tm) h (fun _ _ h => h : Heap.sub σ.H σ.H)
          rw [(RStep.same b1 hi).1]
        · obtain ⟨p2, o2, m2, _, _, _, e, _⟩ := mk1 h
          rw [e]
          exact cls_E_made cE tm hmd si o2
        · rw [h, cE] at hc; cases hc
    rw [e1] at hj
    rcases cls_mk cmk tm (fun _ _ h => h : Heap.sub σ.H σ.H) with ⟨pre, ob, mk, hr, _⟩ | hr
    case inr => rw [hr] at hj; exact hj.elim
    rw [hr] at hj
    obtain ⟨j1, j2, j3⟩ := hj
    have sub : Heap.sub σ.H (hupd σ.H (sj, σ.cnt sj) ob) := hupd_sub (fresh sj)
    rcases hoi with h | h | hcl
    · obtain ⟨b1, b2⟩ := cls_B' (P := P) (σ := σ) (tm := tm) h sub
      obtain ⟨e3, e4⟩ := RStep.same b1 hi
      subst e3
      exact ⟨_, by rw [hr]; exact ⟨j1, j2, rfl⟩, by rw [j3]; exact b2 hi _ _⟩
    · obtain ⟨pre2, ob2, mk2, _, i1, i2, i3, i4⟩ := mk1 h
      subst i3
      refine ⟨_, by rw [hr]; exact ⟨j1, by rw [j2]; simp only [cupd_ne (Ne.symm hne)], rfl⟩, ?_⟩
      simp only []
      rw [i4 _ sub]
      refine ⟨i1, by rw [i2]; simp only [cupd_ne hne], ?_⟩
      rw [j3]
      simp only [cupd_ne hne, cupd_ne (Ne.symm hne)]
      rw [hupd_comm (by intro h; exact hne (Prod.mk.inj h).1), cupd_comm hne]
    · rcases cls_D hcl tm (o := ob) (fresh sj) with ⟨pre2, x2, H2, d1, d2, d3⟩ | ⟨pre2, ob2, mk2, d1, d2⟩ | d
      · rw [d1] at hi
        obtain ⟨i1, i2, i3⟩ := hi
        subst i3
        exact ⟨_, by rw [hr]; exact ⟨j1, j2, rfl⟩, by simp only []; rw [d2]; exact ⟨i1, i2, j3⟩⟩
      · rw [d1] at hi
        obtain ⟨i1, i2, i3⟩ := hi
        subst i3
        refine ⟨_, by rw [hr]; exact ⟨j1, by rw [j2]; simp only [cupd_ne (Ne.symm hne)], rfl⟩, ?_⟩
        simp only []
        rw [d2]
        refine ⟨i1, by rw [i2]; simp only [cupd_ne hne], ?_⟩
        rw [j3]
        simp only [cupd_ne hne, cupd_ne (Ne.symm hne)]
        rw [hupd_comm (by intro h; exact hne (Prod.mk.inj h).1), cupd_comm hne]
      · rw [d] at hi; exact hi.elim
  -- the second one reads
  have hoj : oj.cls = .B ∨ oj.cls = .L ∨ oj.cls = .D := by
    cases h : oj.cls <;> simp_all
  rcases hoi with h | h | h
  · have hojr : oj.cls = .B ∨ oj.cls = .L := by
      rcases hoj with hj' | hj' | hj'
      · exact .inl hj'
      · exact .inr hj'
      · rcases h with h | h <;> rw [h, hj'] at hc <;> cases hc
    obtain ⟨b1, b2⟩ := cls_B' (P := P) (σ := σ) (tm := tm) h (fun _ _ h => h : Heap.sub σ.H σ.H)
    obtain ⟨e3, e4⟩ := RStep.same b1 hi
    subst e3
    obtain ⟨b3, b4⟩ := cls_B' (P := P) (σ := σ1) (tm := tm) hojr (fun _ _ h => h : Heap.sub σ1.H σ1.H)
    obtain ⟨e5, e6⟩ := RStep.same b3 hj
    subst e5
    exact ⟨σ2, hj, hi⟩
  · have hojL : oj.cls = .L := by
      rcases hoj with hj' | hj' | hj'
      · rcases h with h | h <;> rw [h, hj'] at hc <;> cases hc
      · exact hj'
      · rcases h with h | h <;> rw [h, hj'] at hc <;> cases hc
    obtain ⟨p2, o2, m2, _, _, _, e, _⟩ := mk1 h
    have e1 : lop oj tm σ1.H = lop oj tm σ.H := by rw [e]; exact cls_L_made hojL tm hmd si o2
    rw [e1] at hj
    obtain ⟨b3, b4⟩ := cls_B' (P := P) (σ := σ) (tm := tm) (.inr hojL) (fun _ _ h => h : Heap.sub σ.H σ.H)
    obtain ⟨e5, e6⟩ := RStep.same b3 hj
    subst e5
    exact ⟨σ, e6 _ _, hi⟩
  · rcases hoj with hj' | hj' | hj' <;> rw [h, hj'] at hc <;> cases hc

/-- Slots that do not meet. -/
def apartO (x y : LOp) : Bool :=
  (match x.dst with | some d => !(y.slots.contains d) && y.dst != some d | none => true) && (match y.dst with | some d => !(x.slots.contains d) | none => true)

theorem dput_comm {f : Nat → V} {d e : Option Nat} {v u : V} (h : ∀ t, d = some t → e ≠ some t) : dput (dput f d v) e u = dput (dput f e u) d v := by
  cases d with
  | none => rfl
  | some d =>
    cases e with
    | none => rfl
    | some e =>
      have hne : e ≠ d := fun he => h d rfl (by rw [he])
      funext x
      simp only [dput, tupd]
      split <;> split <;> simp_all

theorem gd_congr {tm tm' : Nat → V} {o : LOp} (h : ∀ t ∈ o.slots, tm' t = tm t) : gd tm' o.guard = gd tm o.guard := by
  cases hg : o.guard with
  | none => rfl
  | some x =>
    obtain ⟨t, want⟩ := x
    simp only [gd]
    rw [h t (by simp [LOp.slots, hg])]

theorem op_congr {tm tm' : Nat → V} {o : LOp} {H : Heap} (h : ∀ t ∈ o.slots, tm' t = tm t) : lop o.op tm' H = lop o.op tm H :=
  lop_congr fun t ht => h t (by simp only [LOp.slots, List.mem_append]; exact .inr ht)

theorem swap {si sj : Nat} {oi oj : LOp} (hne : si ≠ sj) (hc : compat oi.op.cls oj.op.cls = true) (hap : apartO oi oj = true) (hwf : WF σ) (hmd : mdOp oj.op σ.tm σ.cnt) (hi : LStep P si oi σ σ1) (hj : LStep P sj oj σ1 σ2) :
    ∃ σ1', LStep P sj oj σ σ1' ∧ LStep P si oi σ1' σ2 := by
  have h1 : ∀ t, oi.dst = some t → t ∉ oj.slots := by
    intro t ht; simp [apartO, ht] at hap; exact hap.1.1
  have h2 : ∀ t, oi.dst = some t → oj.dst ≠ some t := by
    intro t ht; simp [apartO, ht] at hap; exact hap.1.2
  have h3 : ∀ t, oj.dst = some t → t ∉ oi.slots := by
    intro t ht; simp [apartO, ht] at hap; exact hap.2
  have ki : ∀ (f : Nat → V) (u : V), ∀ t ∈ oi.slots, dput f oj.dst u t = f t := by
    intro f u t ht
    cases hd : oj.dst with
    | none => rfl
    | some d =>
      simp only [dput, tupd]
      rw [if_neg]
      rintro rfl; exact h3 t hd ht
  have kj : ∀ (f : Nat → V) (u : V), ∀ t ∈ oj.slots, dput f oi.dst u t = f t := by
    intro f u t ht
    cases hd : oi.dst with
    | none => rfl
    | some d =>
      simp only [dput, tupd]
      rw [if_neg]
      rintro rfl; exact h1 t hd ht
  rcases hi with ⟨gi, v, τ, ri, rfl⟩ | ⟨gi, rfl⟩
  · have htm : τ.tm = σ.tm := ri.tm_eq
    rcases hj with ⟨gj, u, τ2, rj, rfl⟩ | ⟨gj, rfl⟩
    · have gj' : gd σ.tm oj.guard = some true := by
        rw [← gj]; simp only [St.put]; rw [gd_congr (kj τ.tm v), htm]
      have elop : lop oj.op (τ.put oi.dst v).tm (τ.put oi.dst v).H = lop oj.op σ.tm τ.H := by
        simp only [St.put]; rw [op_congr (kj τ.tm v), htm]
      rw [elop] at rj
      obtain ⟨τ3, rk, rfl⟩ := RStep.put rj
      obtain ⟨τ1, r1, r2⟩ := swap0 hne hc hwf hmd ri rk
      refine ⟨τ1.put oj.dst u, .inl ⟨gj', u, τ1, r1, rfl⟩, .inl ⟨?_, v, τ3.put oj.dst u, ?_, ?_⟩⟩
      · simp only [St.put]; rw [gd_congr (ki τ1.tm u), r1.tm_eq]; exact gi
      · have e2 : lop oi.op (τ1.put oj.dst u).tm (τ1.put oj.dst u).H = lop oi.op σ.tm τ1.H := by
          simp only [St.put]; rw [op_congr (ki τ1.tm u), r1.tm_eq]
        rw [e2]
        exact r2.put'
      · simp only [St.put]; rw [dput_comm h2]
    · have gj' : gd σ.tm oj.guard = some false := by
        rw [← gj]; simp only [St.put]; rw [gd_congr (kj τ.tm v), htm]
      refine ⟨σ.put oj.dst (.tup []), .inr ⟨gj', rfl⟩, .inl ⟨?_, v, τ.put oj.dst (.tup []), ?_, ?_⟩⟩
      · simp only [St.put]; rw [gd_congr (ki σ.tm (.tup []))]; exact gi
      · have e2 : lop oi.op (σ.put oj.dst (.tup [])).tm (σ.put oj.dst (.tup [])).H = lop oi.op σ.tm σ.H := by
          simp only [St.put]; rw [op_congr (ki σ.tm (.tup []))]
        rw [e2]
        exact ri.put'
      · simp only [St.put]; rw [dput_comm h2]
  · rcases hj with ⟨gj, u, τ2, rj, rfl⟩ | ⟨gj, rfl⟩
    · have gj' : gd σ.tm oj.guard = some true := by
        rw [← gj]; simp only [St.put]; rw [gd_congr (kj σ.tm (.tup []))]
      have elop : lop oj.op (σ.put oi.dst (.tup [])).tm (σ.put oi.dst (.tup [])).H = lop oj.op σ.tm σ.H := by
        simp only [St.put]; rw [op_congr (kj σ.tm (.tup []))]
      rw [elop] at rj
      obtain ⟨τ3, rk, rfl⟩ := RStep.put rj
      refine ⟨τ3.put oj.dst u, (.inl ⟨gj', u, τ3, rk, rfl⟩), .inr ⟨?_, ?_⟩⟩
      · simp only [St.put]; rw [gd_congr (ki τ3.tm u), rk.tm_eq]; exact gi
      · simp only [St.put]; rw [dput_comm h2]
    · have gj' : gd σ.tm oj.guard = some false := by
        rw [← gj]; simp only [St.put]; rw [gd_congr (kj σ.tm (.tup []))]
      refine ⟨σ.put oj.dst (.tup []), .inr ⟨gj', rfl⟩, .inr ⟨?_, ?_⟩⟩
      · simp only [St.put]; rw [gd_congr (ki σ.tm (.tup []))]; exact gi
      · simp only [St.put]; rw [dput_comm h2]

theorem RStep.wf {op : IOp} {s : Nat} {v : V} {σ' : St} {tm : Nat → V} (hwf : WF σ) (h : RStep P σ s (lop op tm σ.H) v σ') : WF σ' := by
  have fresh : ∀ s, σ.H (s, σ.cnt s) = none := fun s => hwf s _ (Nat.le_refl _)
  have newC : ∀ (o : LObj), WF ⟨σ.tm, hupd σ.H (s, σ.cnt s) o, cupd σ.cnt s⟩ := by
    intro o s' n hn
    simp only [cupd] at hn
    simp only [hupd]
    by_cases he : (s', n) = (s, σ.cnt s)
    · injection he with e1 e2
      subst e1; rw [if_pos rfl] at hn; omega
    · rw [if_neg he]
      refine hwf s' n ?_
      split at hn
      · rename_i e; subst e; omega
      · exact hn
  cases hcl : op.cls with
  | A =>
    obtain ⟨e, _⟩ := RStep.same (isA_isB (cls_A hcl tm σ.H σ.H).2) h
    rw [e]; exact hwf
  | B =>
    obtain ⟨e, _⟩ := RStep.same (cls_B' (P := P) (σ := σ) (.inl hcl) (fun _ _ h => h : Heap.sub σ.H σ.H)).1 h
    rw [e]; exact hwf
  | L =>
    obtain ⟨e, _⟩ := RStep.same (cls_B' (P := P) (σ := σ) (.inr hcl) (fun _ _ h => h : Heap.sub σ.H σ.H)).1 h
    rw [e]; exact hwf
  | E =>
    rcases cls_E hcl tm (fun _ _ h => h : Heap.sub σ.H σ.H) with ⟨pre, ob, mk, e1, _⟩ | e1
    · rw [e1] at h; rw [h.2.2]; exact newC ob
    · rw [e1] at h; exact h.elim
  | C =>
    have c2 := (cls_C hcl tm σ.H σ.H).2
    cases hr : lop op tm σ.H with
    | A => rw [hr] at c2; cases c2
    | D => rw [hr] at c2; cases c2
    | call => rw [hr] at c2; cases c2
    | bad => rw [hr] at h; exact h.elim
    | C pre ob mk => rw [hr] at h; rw [h.2.2]; exact newC ob
  | D =>
    rcases cls_D hcl tm (o := .row 0 0 []) (fresh s) with ⟨pre2, x2, H2, d1, d2, d3⟩ | ⟨pre2, ob2, mk2, d1, d2⟩ | d
    · rw [d1] at h
      rw [h.2.2]
      intro s' n hn
      exact (d3 _).2 (hwf s' n hn)
    · rw [d1] at h; rw [h.2.2]; exact newC ob2
    · rw [d] at h; exact h.elim

theorem LStep.wf {s : Nat} {o : LOp} {σ' : St} (hwf : WF σ) (h : LStep P s o σ σ') : WF σ' := by
  rcases h with ⟨_, v, τ, r, rfl⟩ | ⟨_, rfl⟩
  · exact (r.wf hwf).put
  · exact hwf.put

end
end Go.Lg
