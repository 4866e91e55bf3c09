/-
  A region, in whatever order the model draws, ends as the walk in the text's order ends.
-/
import Derived.Test.YtgpeaibhhonikaaGreatDoorLgM
set_option linter.unusedSimpArgs false
set_option linter.unusedVariables false
namespace Go.Lg
open Go Go.RowKit

/-- The place of an operation: where its object's keys begin. -/
def siteOf (rid i : Nat) : Nat := rid * 4096 + i

def Run (P : Program) (rid : Nat) (lo : Nat → LOp) : List Nat → St → St → Prop
  | [], σ, σ' => σ' = σ
  | i :: r, σ, σ' => ∃ σ1, LStep P (siteOf rid i) (lo i) σ σ1 ∧ Run P rid lo r σ1 σ'

section
variable {P : Program} {E : Env} {σ σ1 σe : St} {a : Act} {w : World} {rid : Nat} {lo : Nat → LOp} {ops : Array Oper} {Q : Exit → Act → World → Prop}

def indep (x y : LOp) : Bool := compat x.op.cls y.op.cls && apartO x y

theorem okm_mono {c c' : Nat → Nat} (h : ∀ s, c s ≤ c' s) {v : V} (hv : okm c v) : okm c' v := by
  cases v with
  | mp k g off => exact Nat.lt_of_lt_of_le hv (h _)
  | msl k g off n => exact Nat.lt_of_lt_of_le hv (h _)
  | mm k => exact Nat.lt_of_lt_of_le hv (h _)
  | _ => trivial
theorem mdOp_mono {op : IOp} {tm tm' : Nat → V} {c c' : Nat → Nat} (h : ∀ s, c s ≤ c' s) (ht : ∀ t ∈ op.slots, tm' t = tm t) (hm : mdOp op tm c) : mdOp op tm' c' := by
  cases op with
  | load agg n x =>
    simp only [mdOp] at hm ⊢
    rw [Rd.get_congr fun t h' => ht t h']
    exact okm_mono h hm
  | mlk kt ok z x i =>
    simp only [mdOp] at hm ⊢
    rw [Rd.get_congr fun t h' => ht t (by simp [IOp.slots, h'])]
    exact okm_mono h hm
  | mlen x =>
    simp only [mdOp] at hm ⊢
    rw [Rd.get_congr fun t h' => ht t h']
    exact okm_mono h hm
  | b2s x =>
    simp only [mdOp] at hm ⊢
    rw [Rd.get_congr fun t h' => ht t h']
    exact okm_mono h hm
  | msb x =>
    simp only [mdOp] at hm ⊢
    rw [Rd.get_congr fun t h' => ht t h']
    exact okm_mono h hm
  | appE e b x y =>
    simp only [mdOp] at hm ⊢
    rw [Rd.get_congr fun t h' => ht t (by simp [IOp.slots, h'])]
    exact okm_mono h hm
  | _ => trivial
theorem RStep.cnt_le {s : Nat} {r : LRes} {v : V} {σ' : St} (h : RStep P σ s r v σ') : ∀ x, σ.cnt x ≤ σ'.cnt x := by
  intro x
  cases r with
  | A pre u => rw [h.2.2]; exact Nat.le_refl _
  | C pre o mk =>
    rw [h.2.2]
    simp only [cupd]
    split
    · rename_i e; subst e; omega
    · exact Nat.le_refl _
  | D pre u H' => rw [h.2.2]; exact Nat.le_refl _
  | call pre f a b => rw [h.2.2.2]; exact Nat.le_refl _
  | bad => exact h.elim
theorem LStep.md {s : Nat} {o y : LOp} {σ' : St} (h : LStep P s o σ σ') (hap : apartO o y = true) (hm : mdOp y.op σ.tm σ.cnt) : mdOp y.op σ'.tm σ'.cnt := by
  have h1 : ∀ t, o.dst = some t → t ∉ y.op.slots := by
    intro t ht; simp [apartO, ht, LOp.slots] at hap; exact hap.1.1.2
  have key : ∀ (f : Nat → V) (u : V), ∀ t ∈ y.op.slots, dput f o.dst u t = f t := by
    intro f u t ht
    cases hd : o.dst with
    | none => rfl
    | some d =>
      simp only [dput, tupd]
      rw [if_neg]
      rintro rfl; exact h1 t hd ht
  rcases h with ⟨_, v, τ, r, rfl⟩ | ⟨_, rfl⟩
  · refine mdOp_mono (r.cnt_le) (fun t ht => ?_) hm
    simp only [St.put]
    rw [key τ.tm v t ht, r.tm_eq]
  · refine mdOp_mono (fun _ => Nat.le_refl _) (fun t ht => ?_) hm
    simp only [St.put]
    rw [key σ.tm _ t ht]

theorem bubble {i : Nat} {post : List Nat} : ∀ {pre : List Nat} {σ : St}, WF σ → mdOp (lo i).op σ.tm σ.cnt → Run P rid lo (pre ++ i :: post) σ σe → (∀ j ∈ pre, j ≠ i ∧ indep (lo j) (lo i) = true) →
    ∃ σ1, LStep P (siteOf rid i) (lo i) σ σ1 ∧ Run P rid lo (pre ++ post) σ1 σe
  | [], σ, _, _, h, _ => h
  | j :: pre, σ, hwf, hmd, h, hp => by
    obtain ⟨τ, h1, h2⟩ := h
    obtain ⟨hne, hi⟩ := hp j (List.mem_cons_self ..)
    simp only [indep, Bool.and_eq_true] at hi
    obtain ⟨τ1, h3, h4⟩ := bubble (h1.wf hwf) (h1.md hi.2 hmd) h2 fun k hk => hp k (List.mem_cons_of_mem _ hk)
    obtain ⟨σ1, h5, h6⟩ := swap (by simp only [siteOf]; omega) hi.1 hi.2 hwf hmd h1 h3
    exact ⟨σ1, h5, τ1, h6, h4⟩

theorem Sim.wf (h : Sim E σ a w) : WF σ := by
  obtain ⟨g, h⟩ := h
  exact fun s n hn => (h.fresh s n hn).1

theorem Rep.okm {g : Gh} {v : Value} {x : V} (hs : SimG E g σ a w) (h : Rep g w v x) : okm σ.cnt x := by
  cases x with
  | mp k gen off =>
    obtain ⟨b, cap, hr, _⟩ := h.mp_inv
    rcases Nat.lt_or_ge k.2 (σ.cnt k.1) with hlt | hge
    · exact hlt
    · have := (hs.fresh k.1 k.2 hge).2 gen
      rw [hr] at this; cases this
  | msl k gen off n =>
    obtain ⟨c, A, blk, cap, _, hr, _⟩ := h.msl_inv
    rcases Nat.lt_or_ge k.2 (σ.cnt k.1) with hlt | hge
    · exact hlt
    · have := (hs.fresh k.1 k.2 hge).2 gen
      rw [hr] at this; cases this
  | mm k =>
    obtain ⟨b, cap, hr, _⟩ := h.mm_inv
    rcases Nat.lt_or_ge k.2 (σ.cnt k.1) with hlt | hge
    · exact hlt
    · have := (hs.fresh k.1 k.2 hge).2 0
      rw [hr] at this; cases this
  | _ => trivial

/-- The constants of an operation lead to no object. -/
def conR : Rd → Bool
  | .con (.mp ..) | .con (.msl ..) | .con (.mm ..) => false
  | _ => true
def conOk (op : IOp) : Bool := match op with
  | .load _ _ x | .appE _ _ _ x | .mlk _ _ _ x _ | .mlen x | .b2s x | .msb x => conR x
  | _ => true
theorem Sim.md {op : IOp} (h : Sim E σ a w) (hc : conOk op = true) : mdOp op σ.tm σ.cnt := by
  obtain ⟨g, hs⟩ := h
  have key : ∀ x : Rd, conR x = true → Go.Lg.okm σ.cnt (x.get σ.tm) := by
    intro x hx
    cases x with
    | tmp t => exact Rep.okm hs (hs.tm t)
    | con v => cases v <;> first | trivial | cases hx
  cases op with
  | load agg n x => exact key x hc
  | mlk kt ok z x i => exact key x hc
  | mlen x => exact key x hc
  | b2s x => exact key x hc
  | msb x => exact key x hc
  | appE e b x y => exact key y hc
  | _ => trivial

theorem Sim.drew (h : Sim E σ a w) : Sim E σ a w.drew := by
  obtain ⟨g, h⟩ := h
  exact ⟨g, h.grow_same (BelowD.refl _ _).drew⟩

/-- Slots are there; a guard asks an operation that has one. -/
def opOk (N : Nat) (ops : Array Oper) (o : Oper) : Bool :=
  (match o.dst with | some d => decide (d < N) | none => true) &&
  (match o.guard with | none => true | some (j, _) => match (ops[j]?).bind (·.dst) with | some d => decide (d < N) | none => false)

theorem opOk_dst {N : Nat} {o : Oper} (h : opOk N ops o = true) : ∀ t, o.dst = some t → t < N := by
  intro t ht
  simp [opOk, ht] at h
  exact h.1

theorem rep_undef (g : Gh) (w : World) : Rep g w undef (.tup []) := .imm _ _ (.tup #[] [] rfl fun j v c h => by simp at h)

theorem wanted_gd {o : Oper} (hok : opOk E.N ops o = true) (hs : Sim E σ a w) : ∀ b, gd σ.tm (trO P ops o).guard = some b → Region.wanted o (yielded ops a.tmps) = b := by
  intro b hb
  unfold Region.wanted
  cases hg : o.guard with
  | none => simp [trO, hg, gd] at hb ⊢; exact hb.symm ▸ rfl
  | some x =>
    obtain ⟨j, want⟩ := x
    simp only [trO, hg] at hb
    simp only [opOk, hg, Bool.and_eq_true] at hok
    have h2 := hok.2
    cases hj : (ops[j]?).bind (·.dst) with
    | none => simp [hj] at h2
    | some d =>
      simp only [hj, Option.getD_some, gd] at hb h2
      split at hb
      · rename_i b' hb'
        obtain ⟨g, hs⟩ := hs
        have hr := hs.tm d
        have hdb : d < HB := Nat.lt_of_lt_of_le (by simpa using h2) hs.size.2
        rw [hb', slotV_lo hdb] at hr
        have hv := hr.bool_inv
        have hlt : d < a.tmps.size := by rw [hs.size.1]; simpa using h2
        have hv' : a.tmps[d]? = some (.bool b') := by
          rw [Array.getElem?_eq_getElem hlt]
          rw [Array.getD_eq_getD_getElem?, Array.getElem?_eq_getElem hlt] at hv
          simpa using hv
        cases hb
        simp only [yielded, hj, Option.bind_some, hv']
        cases b' <;> cases want <;> rfl
      · rename_i hb'
        obtain ⟨g, hs⟩ := hs
        have hr := hs.tm d
        have hdb : d < HB := Nat.lt_of_lt_of_le (by simpa using h2) hs.size.2
        rw [hb', slotV_lo hdb] at hr
        obtain ⟨vs, hv, hsz, _⟩ := hr.tup_inv
        have hlt : d < a.tmps.size := by rw [hs.size.1]; simpa using h2
        have hv' : a.tmps[d]? = some (.tuple vs) := by
          rw [Array.getElem?_eq_getElem hlt]
          rw [Array.getD_eq_getD_getElem?, Array.getElem?_eq_getElem hlt] at hv
          simpa using hv
        cases hb
        simp only [yielded, hj, Option.bind_some, hv']
        cases want <;> rfl
      · cases hb

theorem litR_nocall {op : IOp} {tm : Nat → V} {pre : Prop} {f : FuncId} {args sargs : List V} : ¬ litR op tm = .call pre f args sargs := by
  intro h
  unfold litR at h
  repeat' split at h
  all_goals cases h

theorem wpOp_of_step [EOk P E] {i : Nat} {o : Oper} {K : Act → World → Prop} (hi : ops[i]? = some o) (hok : opOk E.N ops o = true) (hs : Sim E σ a w) (h : LStep P (siteOf rid i) (trO P ops o) σ σ1)
    (hK : ∀ a' w', Sim E σ1 a' w' → K a' w') : wpOp P ops Q i K a w := by
  have hd := opOk_dst hok
  have hw := wanted_gd (P := P) hok hs
  unfold wpOp
  simp only [hi]
  rcases h with ⟨hg, v, τ, r, e⟩ | ⟨hg, e⟩
  · rw [hw _ hg]
    simp only [if_true]
    obtain ⟨g, hs⟩ := hs
    left
    have r' : RStep P σ (siteOf rid i) (lop (trE P ops o) σ.tm σ.H) v τ := r
    rcases lop_trE P ops o σ.tm σ.H with q | q | q
    · rw [q] at r'
      refine step_wp hs o (siteOf rid i) hd (K := fun σ' => σ' = σ1) (vres_iff.2 ⟨v, τ, r', e.symm⟩) ?_
      rintro σ' a' w' rfl hs'
      exact hK _ _ hs'
    · rw [q] at r'; exact r'.elim
    · rw [q] at r'
      refine step_wplit hs o (siteOf rid i) hd (K := fun σ' => σ' = σ1) (vres_iff.2 ⟨v, τ, r', e.symm⟩) ?_
      rintro σ' a' w' rfl hs'
      exact hK _ _ hs'
  · rw [hw _ hg]
    simp only [Bool.false_eq_true, if_false]
    obtain ⟨g, hs⟩ := hs
    subst e
    exact hK _ _ ⟨g, hs.put hd (rep_undef _ _)⟩

/-- A call in a region that is walked in the text's order: its result may be one that the caller may change. -/
def callX (P : Program) (s : Nat) (f : FuncId) (args sargs : List V) (d : Option Nat) (K : St → Prop) (σ : St) : Prop :=
  callV P f args sargs d K σ ∨ ownV P s f args sargs d K σ ∨ mutV P f args d K σ ∨ instV P f args d K σ
def vresM (P : Program) (σ : St) (s : Nat) (d : Option Nat) (K : St → Prop) : LRes → Prop
  | .A pre v => vres P σ s d K (.A pre v)
  | .C pre o mk => vres P σ s d K (.C pre o mk)
  | .D pre v H' => vres P σ s d K (.D pre v H')
  | .call pre f args sargs => pre ∧ callX P s f args sargs d K σ
  | .bad => False
def vstepM (P : Program) (s : Nat) (o : LOp) (K : St → Prop) (σ : St) : Prop :=
  match gd σ.tm o.guard with
  | some true => vresM P σ s o.dst K (lop o.op σ.tm σ.H)
  | some false => K (σ.put o.dst (.tup []))
  | none => False

theorem vresM_cases {s : Nat} {d : Option Nat} {K : St → Prop} {r : LRes} (h : vresM P σ s d K r) : vres P σ s d K r ∨ ∃ pre f args sargs, r = .call pre f args sargs ∧ pre ∧ (ownV P s f args sargs d K σ ∨ mutV P f args d K σ ∨ instV P f args d K σ) := by
  cases r with
  | call pre f args sargs =>
    obtain ⟨hp, h | h⟩ := h
    · exact .inl ⟨hp, h⟩
    · exact .inr ⟨pre, f, args, sargs, rfl, hp, h⟩
  | bad => exact h.elim
  | _ => exact .inl h

theorem wpOp_of_vstepM [EOk P E] {i : Nat} {o : Oper} {K : Act → World → Prop} {KL : St → Prop} (hi : ops[i]? = some o) (hok : opOk E.N ops o = true) (hs : Sim E σ a w) (h : vstepM P (siteOf rid i) (trO P ops o) KL σ)
    (hK : ∀ σ' a' w', KL σ' → Sim E σ' a' w' → K a' w') : wpOp P ops Q i K a w := by
  have hd := opOk_dst hok
  have hw := wanted_gd (P := P) hok hs
  unfold wpOp
  simp only [hi]
  unfold vstepM at h
  split at h
  · rename_i hg
    rw [hw _ hg]
    simp only [if_true]
    obtain ⟨g, hs⟩ := hs
    left
    have h' : vresM P σ (siteOf rid i) o.dst KL (lop (trE P ops o) σ.tm σ.H) := h
    rcases lop_trE P ops o σ.tm σ.H with q | q | q
    · rw [q] at h'
      rcases vresM_cases h' with h | ⟨pre, f, args, sargs, hl, hp, h | h | h⟩
      · exact step_wp hs o (siteOf rid i) hd h hK
      · exact step_own hs o (siteOf rid i) hd hl hp h hK
      · exact step_mut hs o (siteOf rid i) hd hl hp h hK
      · exact step_inst hs o (siteOf rid i) hd hl h hK
    · rw [q] at h'; exact h'.elim
    · rw [q] at h'
      rcases vresM_cases h' with h | ⟨pre, f, args, sargs, hl, hp, h⟩
      · exact step_wplit hs o (siteOf rid i) hd h hK
      · exact absurd hl litR_nocall
  · rename_i hg
    rw [hw _ hg]
    simp only [Bool.false_eq_true, if_false]
    obtain ⟨g, hs⟩ := hs
    exact hK _ _ _ h ⟨g, hs.put hd (rep_undef _ _)⟩
  · exact h.elim

/-- A literal that the call means to change. -/
def vstepL (P : Program) (s : Nat) (o : LOp) (K : St → Prop) (σ : St) : Prop :=
  match o.guard with
  | none => vres P σ s o.dst K (litR o.op σ.tm)
  | some _ => False

theorem wpOp_of_vstepL {i : Nat} {o : Oper} {K : Act → World → Prop} {KL : St → Prop} (hi : ops[i]? = some o) (hok : opOk E.N ops o = true) (hs : Sim E σ a w) (h : vstepL P (siteOf rid i) (trO P ops o) KL σ)
    (hK : ∀ σ' a' w', KL σ' → Sim E σ' a' w' → K a' w') : wpOp P ops Q i K a w := by
  have hd := opOk_dst hok
  have hw := wanted_gd (P := P) hok hs
  unfold wpOp
  simp only [hi]
  unfold vstepL at h
  split at h
  · rename_i hg
    rw [hw true (by rw [hg]; rfl)]
    simp only [if_true]
    obtain ⟨g, hs⟩ := hs
    left
    have h : vres P σ (siteOf rid i) o.dst KL (litR (tr P o) σ.tm) := by
      have h' : vres P σ (siteOf rid i) o.dst KL (litR (trE P ops o) σ.tm) := h
      rcases litR_trE P ops o σ.tm with q | q
      · rw [q] at h'; exact h'
      · rw [q] at h'; exact h'.elim
    exact step_wplit hs o (siteOf rid i) hd h hK
  · exact h.elim

/-- A call that is walked into: nothing is asked of what is handed in. -/
def inlC (P : Program) (o : LOp) (K : St → Prop) (σ : St) : Prop :=
  gd σ.tm o.guard = some true ∧ ∃ pre f args sargs, lop o.op σ.tm σ.H = .call pre f args sargs ∧ instV P f args o.dst K σ
/-- A step that may first say less; a call that is walked into. -/
def vstepC (P : Program) (s : Nat) (o : LOp) (K : St → Prop) (σ : St) : Prop :=
  ∃ σ', Ent σ σ' ∧ (vstepM P s o K σ' ∨ inlC P o K σ' ∨ vstepL P s o K σ')

theorem wpOp_of_vstepC [EOk P E] {i : Nat} {o : Oper} {K : Act → World → Prop} {KL : St → Prop} (hi : ops[i]? = some o) (hok : opOk E.N ops o = true) (hs : Sim E σ a w) (h : vstepC P (siteOf rid i) (trO P ops o) KL σ)
    (hK : ∀ σ' a' w', KL σ' → Sim E σ' a' w' → K a' w') : wpOp P ops Q i K a w := by
  obtain ⟨σ', he, h | ⟨hg, pre, f, args, sargs, hl, h⟩ | h⟩ := h
  · exact wpOp_of_vstepM hi hok (he _ _ _ hs) h hK
  · have hs := he _ _ _ hs
    have hd := opOk_dst hok
    have hw := wanted_gd (P := P) hok hs
    unfold wpOp
    simp only [hi]
    rw [hw _ hg]
    simp only [if_true]
    obtain ⟨g, hs⟩ := hs
    left
    have hl' : lop (trE P ops o) σ'.tm σ'.H = .call pre f args sargs := hl
    rcases lop_trE P ops o σ'.tm σ'.H with q | q | q
    · rw [q] at hl'
      exact step_inst hs o (siteOf rid i) hd hl' h hK
    · rw [q] at hl'; cases hl'
    · rw [q] at hl'; exact absurd hl' litR_nocall
  · exact wpOp_of_vstepL hi hok (he _ _ _ hs) h hK

/-- What an operation waits for. -/
def depsOf (o : Oper) : List Nat := o.after.toList.filterMap fun e => if Region.binds .any e then some e.on else none

def befs (ops : List Oper) : List Nat :=
  ops.foldl (fun acc o => acc ++ [(depsOf o).foldl (fun s k => s ||| 2 ^ k ||| acc.getD k 0) 0]) []

def drawOk (ops : Array Oper) (los : List LOp) (bs : List Nat) : Bool :=
  (List.range ops.size).all fun i => match ops[i]?, los[i]? with
    | some o, some y =>
      (depsOf o).all (fun k => decide (k < i)) && conOk y.op &&
      (List.range i).all fun j => match los[j]? with
        | some x => if (bs.getD i 0).testBit j then (depsOf o).any (fun k => k == j || (decide (j < k) && (bs.getD k 0).testBit j)) else indep x y
        | none => false
    | _, _ => false

structure Inv (ops : Array Oper) (bs : List Nat) (listed : Array Bool) (rem : List Nat) : Prop where
  size : listed.size = ops.size
  sorted : rem.Pairwise (· < ·)
  mem : ∀ k, k ∈ rem ↔ k < ops.size ∧ listed.getD k true = false
  down : ∀ k, k < ops.size → listed.getD k true = true → ∀ j, j < k → (bs.getD k 0).testBit j = true → listed.getD j true = true

theorem ready_iff {listed : Array Bool} {i : Nat} : i ∈ Region.ready .any ops listed ↔ i < ops.size ∧ listed.getD i true = false ∧ ∃ o, ops[i]? = some o ∧ ∀ k ∈ depsOf o, listed.getD k false = true := by
  unfold Region.ready
  simp only [List.mem_filter, List.mem_range, Bool.and_eq_true, Bool.not_eq_true']
  constructor
  · rintro ⟨h1, h2, h3⟩
    refine ⟨h1, h2, ?_⟩
    cases ho : ops[i]? with
    | none => simp [ho] at h3
    | some o =>
      refine ⟨o, rfl, fun k hk => ?_⟩
      simp only [ho, Option.map_some, Option.getD_some] at h3
      simp only [depsOf, List.mem_filterMap] at hk
      obtain ⟨e, he, hk⟩ := hk
      split at hk
      · rename_i hb
        cases hk
        have := Array.all_eq_true_iff_forall_mem.1 h3 e (by simpa using he)
        simpa [hb] using this
      · cases hk
  · rintro ⟨h1, h2, o, ho, h3⟩
    refine ⟨h1, h2, ?_⟩
    simp only [ho, Option.map_some, Option.getD_some]
    refine Array.all_eq_true_iff_forall_mem.2 fun e he => ?_
    by_cases hb : Region.binds .any e = true
    · have := h3 e.on (by simp only [depsOf, List.mem_filterMap]; exact ⟨e, by simpa using he, by simp [hb]⟩)
      simp [this]
    · simp [hb]

theorem any_sound [EOk P E] {los : List LOp} {bs : List Nat} (hlos : los = ops.toList.map (trO P ops)) (hlo : ∀ i x, los[i]? = some x → lo i = x) (hall : ops.toList.all (opOk E.N ops) = true) (hchk : drawOk ops los bs = true) (hQ : ∀ a' w', Sim E σe a' w' → Q .normal a' w') :
    ∀ (fuel : Nat) (listed : Array Bool) (rem : List Nat) (σ : St) (a : Act) (w : World), rem.length = fuel → Inv ops bs listed rem → Run P rid lo rem σ σe → Sim E σ a w → wpAny P .any ops Q fuel listed a w := by
  have los_get : ∀ (i : Nat) (o : Oper), ops[i]? = some o → los[i]? = some (trO P ops o) := by
    intro i o ho
    rw [hlos, List.getElem?_map, Array.getElem?_toList, ho]; rfl
  have chk : ∀ (i : Nat) (o : Oper), ops[i]? = some o → ((∀ k ∈ depsOf o, k < i) ∧ conOk (trO P ops o).op = true) ∧ ∀ j, j < i → ∃ x, los[j]? = some x ∧ ((bs.getD i 0).testBit j = true → ∃ k ∈ depsOf o, k = j ∨ j < k ∧ (bs.getD k 0).testBit j = true) ∧ ((bs.getD i 0).testBit j = false → indep x (trO P ops o) = true) := by
    intro i o ho
    have hlt : i < ops.size := by
      rcases Nat.lt_or_ge i ops.size with h | h
      · exact h
      · rw [Array.getElem?_eq_none h] at ho; cases ho
    have := List.all_eq_true.1 hchk i (List.mem_range.2 hlt)
    simp only [ho, los_get i o ho, Bool.and_eq_true] at this
    obtain ⟨⟨c1, c0⟩, c2⟩ := this
    refine ⟨⟨fun k hk => by simpa using List.all_eq_true.1 c1 k hk, c0⟩, fun j hj => ?_⟩
    have c3 := List.all_eq_true.1 c2 j (List.mem_range.2 hj)
    cases hx : los[j]? with
    | none => simp [hx] at c3
    | some x =>
      simp only [hx] at c3
      refine ⟨x, rfl, fun hb => ?_, fun hb => ?_⟩
      · rw [if_pos hb] at c3
        obtain ⟨k, hk, hk2⟩ := List.any_eq_true.1 c3
        refine ⟨k, hk, ?_⟩
        simpa using hk2
      · rw [hb] at c3
        exact c3
  have empty : ∀ (listed : Array Bool) (rem : List Nat), Inv ops bs listed rem → Region.ready .any ops listed = [] → rem = [] := by
    intro listed rem hinv hr
    cases rem with
    | nil => rfl
    | cons i r =>
      exfalso
      obtain ⟨h1, h2⟩ := (hinv.mem i).1 (List.mem_cons_self ..)
      have hmin : ∀ b ∈ r, i < b := fun b hb => List.rel_of_pairwise_cons hinv.sorted hb
      have : i ∈ Region.ready .any ops listed := ready_iff.2 ⟨h1, h2, ops[i], Array.getElem?_eq_getElem h1, fun k hk => by
        have hki := (chk i _ (Array.getElem?_eq_getElem h1)).1.1 k hk
        have hnm : k ∉ i :: r := by
          intro hm
          rcases List.mem_cons.1 hm with rfl | hm
          · omega
          · have := hmin k hm; omega
        have hk' : ¬ (listed.getD k true = false) := fun h => hnm ((hinv.mem k).2 ⟨by omega, h⟩)
        have hks : k < listed.size := by rw [hinv.size]; omega
        simp only [Array.getD_eq_getD_getElem?, Array.getElem?_eq_getElem hks, Option.getD_some] at hk' ⊢
        simpa using hk'⟩
      rw [hr] at this; cases this
  intro fuel
  induction fuel with
  | zero =>
    intro listed rem σ a w hlen hinv hrun hs
    have hrem : rem = [] := List.eq_nil_of_length_eq_zero hlen
    subst hrem
    refine ⟨?_, by cases hrun; exact hQ _ _ hs⟩
    rw [List.eq_nil_iff_forall_not_mem]
    intro i hi
    obtain ⟨h1, h2, _⟩ := ready_iff.1 hi
    have := (hinv.mem i).2 ⟨h1, h2⟩
    cases this
  | succ fuel ih =>
    intro listed rem σ a w hlen hinv hrun hs
    refine ⟨fun hr => ?_, fun i hi => ?_⟩
    · have := empty listed rem hinv hr
      subst this
      cases hlen
    · obtain ⟨h1, h2, o, ho, hdeps⟩ := ready_iff.1 hi
      have him := (hinv.mem i).2 ⟨h1, h2⟩
      obtain ⟨pre, post, rfl⟩ := List.append_of_mem him
      have hsorted := hinv.sorted
      rw [List.pairwise_append] at hsorted
      obtain ⟨s1, s2, s3⟩ := hsorted
      obtain ⟨s4, s5⟩ := List.pairwise_cons.1 s2
      have hbit : ∀ j, j < i → listed.getD j true = false → (bs.getD i 0).testBit j = false := by
        intro j hj hl
        by_cases hb : (bs.getD i 0).testBit j = true
        · obtain ⟨x, _, hx, _⟩ := (chk i o ho).2 j hj
          obtain ⟨k, hk, hk2⟩ := hx hb
          have hki := (chk i o ho).1.1 k hk
          have hkl := hdeps k hk
          have hks : k < listed.size := by rw [hinv.size]; omega
          have hkl' : listed.getD k true = true := by
            simp only [Array.getD_eq_getD_getElem?, Array.getElem?_eq_getElem hks, Option.getD_some] at hkl ⊢
            exact hkl
          rcases hk2 with rfl | hk2
          · rw [hkl'] at hl; cases hl
          · have := hinv.down k (by omega) hkl' j hk2.1 hk2.2
            rw [this] at hl; cases hl
        · simpa using hb
      obtain ⟨σ1, hst, hrest⟩ := bubble hs.wf (hs.md (by rw [hlo i _ (los_get i o ho)]; exact (chk i o ho).1.2)) hrun (fun j hj => by
        have hji : j < i := s3 j hj i (List.mem_cons_self ..)
        have hjl := ((hinv.mem j).1 (List.mem_append_left _ hj)).2
        obtain ⟨x, hx, _, hind⟩ := (chk i o ho).2 j hji
        refine ⟨by omega, ?_⟩
        rw [hlo j x hx, hlo i _ (los_get i o ho)]
        exact hind (hbit j hji hjl))
      rw [hlo i _ (los_get i o ho)] at hst
      have hok : opOk E.N ops o = true := List.all_eq_true.1 hall o (by
        rw [List.mem_iff_getElem?]
        exact ⟨i, by rw [Array.getElem?_toList]; exact ho⟩)
      refine wpOp_of_step ho hok hs hst fun a' w' hs' => ih _ (pre ++ post) σ1 a' w' ?_ ?_ hrest hs'
      · simp at hlen ⊢; omega
      · have hget : ∀ k, (listed.setIfInBounds i true).getD k true = if k = i then true else listed.getD k true := by
          intro k
          simp only [Array.getD_eq_getD_getElem?]
          by_cases e : k = i
          · subst e
            have : k < listed.size := by rw [hinv.size]; exact h1
            simp [this]
          · rw [if_neg e, Array.getElem?_setIfInBounds_ne (Ne.symm e)]
        refine ⟨by simpa using hinv.size, ?_, fun k => ?_, fun k hk hl j hj hb => ?_⟩
        · rw [List.pairwise_append]
          exact ⟨s1, s5, fun x hx y hy => s3 x hx y (List.mem_cons_of_mem _ hy)⟩
        · rw [hget]
          have hm := hinv.mem k
          simp only [List.mem_append, List.mem_cons] at hm ⊢
          by_cases e : k = i
          · subst e
            rw [if_pos rfl]
            constructor
            · rintro (h | h)
              · have := s3 k h k (List.mem_cons_self ..); omega
              · have := s4 k h; omega
            · rintro ⟨_, h⟩; cases h
          · rw [if_neg e, ← hm]
            constructor
            · rintro (h | h)
              · exact .inl h
              · exact .inr (.inr h)
            · rintro (h | h | h)
              · exact .inl h
              · exact absurd h e
              · exact .inr h
        · rw [hget] at hl ⊢
          by_cases e : k = i
          · subst e
            split
            · rfl
            · by_cases hjl : listed.getD j true = true
              · exact hjl
              · have := hbit j hj (by simpa using hjl)
                rw [this] at hb; cases hb
          · rw [if_neg e] at hl
            split
            · rfl
            · exact hinv.down k hk hl j hj hb

end
end Go.Lg
