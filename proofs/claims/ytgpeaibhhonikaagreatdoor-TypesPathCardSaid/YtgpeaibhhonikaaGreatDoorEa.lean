/-
  The reckoning, in boxes: each part of a body is made ready once, then run; here: trees, places of slots and objects, values.
-/
import Derived.Test.YtgpeaibhhonikaaGreatDoorEv
set_option linter.unusedSimpArgs false
set_option linter.unusedVariables false
namespace Go.Lg
open Go Go.RowKit

/-! Trees with a thing at each number; boxes that get and set. -/
inductive Tq (α : Type) where
  | nil
  | node (l : Tq α) (v : α) (r : Tq α)

noncomputable def Tq.get {α : Type} (d : α) (t : Tq α) : Nat → α := Tq.rec (motive := fun _ => Nat → α) (fun _ => d) (fun _ v _ gl gr k => if k = 0 then v else if k % 2 = 1 then gl (k / 2) else gr (k / 2 - 1)) t
theorem Tq.get_nil {α : Type} (d : α) (k : Nat) : (Tq.nil : Tq α).get d k = d := rfl
theorem Tq.get_node {α : Type} (d : α) (l : Tq α) (v : α) (r : Tq α) (k : Nat) : (Tq.node l v r).get d k = if k = 0 then v else if k % 2 = 1 then l.get d (k / 2) else r.get d (k / 2 - 1) := rfl

/-- A place in a tree: how it is read, how it is set. -/
structure Ac (α : Type) where
  g : Tq α → α
  s : α → Tq α → Tq α
noncomputable def acZ {α : Type} (d : α) : Ac α := ⟨fun t => Tq.rec (motive := fun _ => α) d (fun _ v _ _ _ => v) t, fun x t => Tq.rec (motive := fun _ => Tq α) (.node .nil x .nil) (fun l _ r _ _ => .node l x r) t⟩
noncomputable def acL {α : Type} (d : α) (a : Ac α) : Ac α := ⟨fun t => Tq.rec (motive := fun _ => α) d (fun l _ _ _ _ => a.g l) t, fun x t => Tq.rec (motive := fun _ => Tq α) (.node (a.s x .nil) d .nil) (fun l v r _ _ => .node (a.s x l) v r) t⟩
noncomputable def acR {α : Type} (d : α) (a : Ac α) : Ac α := ⟨fun t => Tq.rec (motive := fun _ => α) d (fun _ _ r _ _ => a.g r) t, fun x t => Tq.rec (motive := fun _ => Tq α) (.node .nil d (a.s x .nil)) (fun l v r _ _ => .node l v (a.s x r)) t⟩
noncomputable def acF {α : Type} (d : α) (f : Nat) : Nat → Ac α := Nat.rec (motive := fun _ => Nat → Ac α) (fun _ => acZ d) (fun _ ih k => Bool.rec (motive := fun _ => Ac α) (Bool.rec (motive := fun _ => Ac α) (acR d (ih (k / 2 - 1))) (acL d (ih (k / 2))) (Nat.beq (k % 2) 1)) (acZ d) (Nat.beq k 0)) f
noncomputable def acOf {α : Type} (d : α) (k : Nat) : Ac α := acF d 40 k

theorem acF_succ {α : Type} (d : α) (f k : Nat) : acF d (f + 1) k = if k = 0 then acZ d else if k % 2 = 1 then acL d (acF d f (k / 2)) else acR d (acF d f (k / 2 - 1)) := by
  show Bool.rec (motive := fun _ => Ac α) (Bool.rec (motive := fun _ => Ac α) (acR d (acF d f (k / 2 - 1))) (acL d (acF d f (k / 2))) (Nat.beq (k % 2) 1)) (acZ d) (Nat.beq k 0) = _
  rw [nbeq, nbeq]
  by_cases h0 : k = 0
  · simp [h0]
  · by_cases h1 : k % 2 = 1
    · simp [h0, h1]
    · simp [h0, h1]

theorem acF_ok {α : Type} (d : α) : ∀ (f k : Nat), k + 1 < 2 ^ f → (∀ t, (acF d f k).g t = t.get d k) ∧ ∀ x t j, ((acF d f k).s x t).get d j = if j = k then x else t.get d j
  | 0, k, h => by simp at h
  | f + 1, k, h => by
    rw [acF_succ]
    rw [Nat.pow_succ] at h
    by_cases k0 : k = 0
    · subst k0
      rw [if_pos rfl]
      refine ⟨fun t => by cases t <;> rfl, fun x t j => ?_⟩
      cases t with
      | nil =>
        show (Tq.node .nil x .nil).get d j = _
        rw [Tq.get_node]
        by_cases j0 : j = 0
        · simp [j0]
        · simp [j0, Tq.get_nil]
      | node l v r =>
        show (Tq.node l x r).get d j = _
        rw [Tq.get_node, Tq.get_node]
        by_cases j0 : j = 0 <;> simp [j0]
    · rw [if_neg k0]
      by_cases k1 : k % 2 = 1
      · rw [if_pos k1]
        obtain ⟨h1, h2⟩ := acF_ok d f (k / 2) (by omega)
        have key : ∀ (l : Tq α) (v : α) (r : Tq α) x j, (Tq.node ((acF d f (k / 2)).s x l) v r).get d j = if j = k then x else (Tq.node l v r).get d j := by
          intro l v r x j
          rw [Tq.get_node, Tq.get_node, h2]
          by_cases j0 : j = 0
          · have : ¬ j = k := by omega
            simp [j0, Ne.symm k0]
          · by_cases j1 : j % 2 = 1
            · simp only [j0, j1, if_false, if_true]
              by_cases e : j = k
              · rw [if_pos e, if_pos (by omega)]
              · rw [if_neg e, if_neg (by omega)]
            · have : ¬ j = k := by rintro rfl; exact j1 k1
              simp only [j0, j1, this, if_false]
        refine ⟨fun t => ?_, fun x t j => ?_⟩
        · cases t with
          | nil => rfl
          | node l v r =>
            show (acF d f (k / 2)).g l = _
            rw [h1, Tq.get_node, if_neg k0, if_pos k1]
        · cases t with
          | nil =>
            show (Tq.node ((acF d f (k / 2)).s x .nil) d .nil).get d j = _
            rw [key, Tq.get_node]
            simp [Tq.get_nil]
          | node l v r => exact key l v r x j
      · rw [if_neg k1]
        obtain ⟨h1, h2⟩ := acF_ok d f (k / 2 - 1) (by omega)
        have key : ∀ (l : Tq α) (v : α) (r : Tq α) x j, (Tq.node l v ((acF d f (k / 2 - 1)).s x r)).get d j = if j = k then x else (Tq.node l v r).get d j := by
          intro l v r x j
          rw [Tq.get_node, Tq.get_node, h2]
          by_cases j0 : j = 0
          · have : ¬ j = k := by omega
            simp [j0, Ne.symm k0]
          · by_cases j1 : j % 2 = 1
            · have : ¬ j = k := by rintro rfl; exact k1 j1
              simp only [j0, j1, this, if_false, if_true]
            · simp only [j0, j1, if_false]
              by_cases e : j = k
              · rw [if_pos e, if_pos (by omega)]
              · rw [if_neg e, if_neg (by omega)]
        refine ⟨fun t => ?_, fun x t j => ?_⟩
        · cases t with
          | nil => rfl
          | node l v r =>
            show (acF d f (k / 2 - 1)).g r = _
            rw [h1, Tq.get_node, if_neg k0, if_neg k1]
        · cases t with
          | nil =>
            show (Tq.node .nil d ((acF d f (k / 2 - 1)).s x .nil)).get d j = _
            rw [key, Tq.get_node]
            simp [Tq.get_nil]
          | node l v r => exact key l v r x j
theorem p40 : (2 : Nat) ^ 40 = 1099511627776 := by decide
theorem acOf_g {α : Type} {d : α} {k : Nat} (h : k < 1099511627775) (t : Tq α) : (acOf d k).g t = t.get d k := (acF_ok d 40 k (by rw [p40]; omega)).1 t
theorem acOf_s {α : Type} {d : α} {k : Nat} (h : k < 1099511627775) (x : α) (t : Tq α) (j : Nat) : ((acOf d k).s x t).get d j = if j = k then x else t.get d j := (acF_ok d 40 k (by rw [p40]; omega)).2 x t j

/-! Objects: of a region, of a place in it, the last one first. -/
inductive Ol where
  | mk (c : Nat) (l : List LObj)
def Ol.z : Ol := .mk 0 []
def Ol.c : Ol → Nat
  | .mk c _ => c
abbrev Hq := Tq (Tq Ol)
noncomputable def Hq.ol (h : Hq) (s : Nat) : Ol := (Tq.get Tq.nil h (s / 4096)).get Ol.z (s % 4096)
def Ol.at (o : Ol) (n : Nat) : Option LObj := match o with
  | .mk c l => if n < c then l[c - 1 - n]? else none
noncomputable def Hq.H (h : Hq) : Heap := fun k => (h.ol k.1).at k.2
noncomputable def Hq.c (h : Hq) : Nat → Nat := fun s => (h.ol s).c

noncomputable def lnth (l : List LObj) : Nat → Option LObj := List.rec (motive := fun _ => Nat → Option LObj) (fun _ => none) (fun x _ ih n => Nat.rec (motive := fun _ => Option LObj) (some x) (fun k _ => ih k) n) l
theorem lnth_eq : ∀ (l : List LObj) (n : Nat), lnth l n = l[n]?
  | [], n => by simp [lnth]
  | x :: l, 0 => rfl
  | x :: l, n + 1 => by show lnth l n = _; rw [lnth_eq l n]; rfl
noncomputable def lset (o : LObj) (l : List LObj) : Nat → List LObj := List.rec (motive := fun _ => Nat → List LObj) (fun _ => []) (fun x t ih n => Nat.rec (motive := fun _ => List LObj) (o :: t) (fun k _ => x :: ih k) n) l
theorem lset_eq (o : LObj) : ∀ (l : List LObj) (n : Nat), lset o l n = l.set n o
  | [], n => by simp [lset]
  | x :: l, 0 => rfl
  | x :: l, n + 1 => by show x :: lset o l n = _; rw [lset_eq o l n]; rfl

/-- An object read. -/
noncomputable def oat (o : Ol) (n : Nat) : Option LObj := Ol.rec (motive := fun _ => Option LObj) (fun c l => Bool.rec (motive := fun _ => Option LObj) none (lnth l (c - 1 - n)) (Nat.blt n c)) o
theorem oat_eq (o : Ol) (n : Nat) : oat o n = o.at n := by
  cases o with
  | mk c l =>
    show Bool.rec (motive := fun _ => Option LObj) none (lnth l (c - 1 - n)) (Nat.blt n c) = _
    rw [nblt, lnth_eq, Ol.at]
    by_cases h : n < c <;> simp [h]
noncomputable def hget (h : Hq) (k : Key) : Option LObj := Prod.rec (motive := fun _ => Option LObj) (fun s n => oat ((acOf Ol.z (s % 4096)).g ((acOf Tq.nil (s / 4096)).g h)) n) k
theorem hget_eq {h : Hq} {k : Key} (hk : k.1 < 1099511627775) : hget h k = h.H k := by
  obtain ⟨s, n⟩ := k
  show oat ((acOf Ol.z (s % 4096)).g ((acOf Tq.nil (s / 4096)).g h)) n = _
  have hk : s < 1099511627775 := hk
  rw [oat_eq, acOf_g (by omega), acOf_g (by omega)]
  rfl
noncomputable def okK (k : Key) : Bool := Prod.rec (motive := fun _ => Bool) (fun s _ => Nat.blt s 1099511627775) k
theorem okK_ok {k : Key} (h : okK k = true) : k.1 < 1099511627775 := by
  obtain ⟨s, n⟩ := k
  have h : Nat.blt s 1099511627775 = true := h
  rw [nblt] at h
  exact of_decide_eq_true h

theorem Hq_ol_set {h : Hq} {s : Nat} {o : Ol} (hs : s < 1099511627775) (j : Nat) :
    Hq.ol ((acOf Tq.nil (s / 4096)).s ((acOf Ol.z (s % 4096)).s o ((acOf Tq.nil (s / 4096)).g h)) h) j = if j = s then o else h.ol j := by
  unfold Hq.ol
  rw [acOf_s (by omega), acOf_g (by omega)]
  by_cases h1 : j / 4096 = s / 4096
  · rw [if_pos h1, acOf_s (by omega)]
    by_cases h2 : j % 4096 = s % 4096
    · rw [if_pos h2, if_pos (by omega)]
    · rw [if_neg h2, if_neg (by omega), h1]
  · rw [if_neg h1, if_neg (by omega)]

/-- A place that makes objects: where it lies among them. -/
noncomputable def onew (o : LObj) (x : Ol) (K : Nat → Ol → Option (Hq × Nat)) : Option (Hq × Nat) := Ol.rec (motive := fun _ => Option (Hq × Nat)) (fun c l => Nat.rec (motive := fun _ => Option (Hq × Nat)) (K 0 (.mk 1 (o :: l))) (fun k _ => K (Nat.succ k) (.mk (Nat.succ (Nat.succ k)) (o :: l))) c) x
theorem onew_eq (o : LObj) (c : Nat) (l : List LObj) (K : Nat → Ol → Option (Hq × Nat)) : onew o (.mk c l) K = K c (.mk (c + 1) (o :: l)) := by cases c <;> rfl
noncomputable def newH (s : Nat) (o : LObj) (h : Hq) : Option (Hq × Nat) := Bool.rec (motive := fun _ => Option (Hq × Nat)) none
  (onew o ((acOf Ol.z (s % 4096)).g ((acOf Tq.nil (s / 4096)).g h)) fun c x => some ((acOf Tq.nil (s / 4096)).s ((acOf Ol.z (s % 4096)).s x ((acOf Tq.nil (s / 4096)).g h)) h, c)) (Nat.blt s 1099511627775)
theorem newH_ok {h h' : Hq} {s : Nat} {o : LObj} {n : Nat} (e : newH s o h = some (h', n)) : n = h.c s ∧ h'.H = hupd h.H (s, h.c s) o ∧ h'.c = cupd h.c s := by
  unfold newH at e
  rw [nblt] at e
  by_cases hs : s < 1099511627775
  case neg => rw [decide_eq_false hs] at e; cases e
  rw [decide_eq_true hs] at e
  have e : onew o ((acOf Ol.z (s % 4096)).g ((acOf Tq.nil (s / 4096)).g h)) (fun c x => some ((acOf Tq.nil (s / 4096)).s ((acOf Ol.z (s % 4096)).s x ((acOf Tq.nil (s / 4096)).g h)) h, c)) = some (h', n) := e
  have ho : (acOf Ol.z (s % 4096)).g ((acOf Tq.nil (s / 4096)).g h) = h.ol s := by rw [acOf_g (by omega), acOf_g (by omega)]; rfl
  rw [ho] at e
  cases hol : h.ol s with
  | mk c l =>
    rw [hol, onew_eq] at e
    simp only [Option.some.injEq, Prod.mk.injEq] at e
    obtain ⟨e1, e2⟩ := e
    subst e2
    have hc : h.c s = c := by unfold Hq.c; rw [hol]; rfl
    have hset : ∀ j, h'.ol j = if j = s then .mk (c + 1) (o :: l) else h.ol j := by
      intro j; rw [← e1]; exact Hq_ol_set hs j
    refine ⟨hc.symm, ?_, ?_⟩
    · funext k
      obtain ⟨a, b⟩ := k
      show (h'.ol a).at b = _
      rw [hset, hc]
      simp only [hupd, Prod.mk.injEq]
      by_cases ea : a = s
      · subst ea
        rw [if_pos rfl]
        show (if b < c + 1 then (o :: l)[c + 1 - 1 - b]? else none) = _
        have hold : h.H (a, b) = if b < c then l[c - 1 - b]? else none := by
          show (h.ol a).at b = _
          rw [hol]; rfl
        by_cases eb : b = c
        · subst eb
          rw [if_pos (by omega), if_pos ⟨rfl, rfl⟩, show b + 1 - 1 - b = 0 by omega]; rfl
        · have hne : ¬ (a = a ∧ b = c) := fun h => eb h.2
          rw [if_neg hne, hold]
          by_cases hlt : b < c
          · rw [if_pos (by omega), if_pos hlt, show c + 1 - 1 - b = (c - 1 - b) + 1 by omega, List.getElem?_cons_succ]
          · rw [if_neg (by omega), if_neg hlt]
      · have hne : ¬ (a = s ∧ b = c) := fun h => ea h.1
        rw [if_neg ea, if_neg hne]
        rfl
    · funext a
      show (h'.ol a).c = _
      rw [hset]
      simp only [cupd]
      by_cases ea : a = s
      · subst ea
        rw [if_pos rfl, if_pos rfl, hc]; rfl
      · rw [if_neg ea, if_neg ea]; rfl
/-- An object set. -/
noncomputable def osetF (o : LObj) (n : Nat) (x : Ol) : Option Ol := Ol.rec (motive := fun _ => Option Ol) (fun c l => Bool.rec (motive := fun _ => Option Ol) none (some (.mk c (lset o l (c - 1 - n)))) (Bool.rec (motive := fun _ => Bool) false (Nat.blt (c - 1 - n) l.length) (Nat.blt n c))) x
noncomputable def setH2 (s n : Nat) (o : LObj) (h : Hq) : Option Hq := Bool.rec (motive := fun _ => Option Hq) none
  (Option.rec (motive := fun _ => Option Hq) none (fun x => some ((acOf Tq.nil (s / 4096)).s ((acOf Ol.z (s % 4096)).s x ((acOf Tq.nil (s / 4096)).g h)) h)) (osetF o n ((acOf Ol.z (s % 4096)).g ((acOf Tq.nil (s / 4096)).g h)))) (Nat.blt s 1099511627775)
noncomputable def setH (k : Key) (o : LObj) (h : Hq) : Option Hq := Prod.rec (motive := fun _ => Option Hq) (fun s n => setH2 s n o h) k
theorem setH_ok {h h' : Hq} {k : Key} {o : LObj} (e : setH k o h = some h') : h'.H = hupd h.H k o ∧ h'.c = h.c := by
  obtain ⟨s, n⟩ := k
  have e : setH2 s n o h = some h' := e
  unfold setH2 at e
  rw [nblt] at e
  by_cases hs : s < 1099511627775
  case neg => rw [decide_eq_false hs] at e; cases e
  rw [decide_eq_true hs] at e
  have ho : (acOf Ol.z (s % 4096)).g ((acOf Tq.nil (s / 4096)).g h) = h.ol s := by rw [acOf_g (by omega), acOf_g (by omega)]; rfl
  have e : Option.rec (motive := fun _ => Option Hq) none (fun x => some ((acOf Tq.nil (s / 4096)).s ((acOf Ol.z (s % 4096)).s x ((acOf Tq.nil (s / 4096)).g h)) h)) (osetF o n ((acOf Ol.z (s % 4096)).g ((acOf Tq.nil (s / 4096)).g h))) = some h' := e
  rw [ho] at e
  cases hol : h.ol s with
  | mk c l =>
    rw [hol] at e
    have hos : osetF o n (.mk c l) = if n < c ∧ c - 1 - n < l.length then some (.mk c (l.set (c - 1 - n) o)) else none := by
      show Bool.rec (motive := fun _ => Option Ol) none (some (.mk c (lset o l (c - 1 - n)))) (Bool.rec (motive := fun _ => Bool) false (Nat.blt (c - 1 - n) l.length) (Nat.blt n c)) = _
      rw [nblt, nblt, lset_eq]
      by_cases h1 : n < c
      · by_cases h2 : c - 1 - n < l.length
        · simp [h1, h2]
        · simp [h1, h2]
      · simp [h1]
    rw [hos] at e
    by_cases hb : n < c ∧ c - 1 - n < l.length
    case neg => rw [if_neg hb] at e; cases e
    rw [if_pos hb] at e
    obtain ⟨h1, h2⟩ := hb
    have e : some _ = some h' := e
    simp only [Option.some.injEq] at e
    have hset : ∀ j, h'.ol j = if j = s then .mk c (l.set (c - 1 - n) o) else h.ol j := by
      intro j; rw [← e]; exact Hq_ol_set hs j
    refine ⟨?_, ?_⟩
    · funext q
      obtain ⟨a, b⟩ := q
      show (h'.ol a).at b = _
      rw [hset]
      simp only [hupd, Prod.mk.injEq]
      by_cases ea : a = s
      · subst ea
        rw [if_pos rfl]
        show (if b < c then (l.set (c - 1 - n) o)[c - 1 - b]? else none) = _
        have hold : h.H (a, b) = if b < c then l[c - 1 - b]? else none := by
          show (h.ol a).at b = _
          rw [hol]; rfl
        by_cases eb : b = n
        · subst eb
          rw [if_pos h1, if_pos ⟨rfl, rfl⟩, List.getElem?_set_self h2]
        · have hne : ¬ (a = a ∧ b = n) := fun h => eb h.2
          rw [if_neg hne, hold]
          by_cases hlt : b < c
          · rw [if_pos hlt, if_pos hlt, List.getElem?_set_ne (by omega)]
          · rw [if_neg hlt, if_neg hlt]
      · have hne : ¬ (a = s ∧ b = n) := fun h => ea h.1
        rw [if_neg ea, if_neg hne]; rfl
    · funext a
      show (h'.ol a).c = (h.ol a).c
      rw [hset]
      by_cases ea : a = s
      · subst ea; rw [if_pos rfl, hol]; rfl
      · rw [if_neg ea]
end Go.Lg
