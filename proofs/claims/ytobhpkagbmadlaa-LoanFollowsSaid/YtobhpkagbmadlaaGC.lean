/-
  Texts LgN, LgO, LgP of this claim, put together.
-/
import Derived.Test.YtobhpkagbmadlaaGB
/-
  A region, in whatever order the model draws, ends as the walk in the text's order ends.
-/
set_option linter.unusedSimpArgs false
set_option linter.unusedVariables false
namespace Go.Lg
open Go Go.RowKit

/-- The place of an operation: where its object's keys begin. -/
def siteOf (rid i : Nat) : Nat := rid * 4096 + i

def Run (P : Program) (rid : Nat) (lo : Nat → LOp) : List Nat → St → St → Prop
  | [], σ, σ' => σ' = σ
  | i :: r, σ, σ' => ∃ σ1, LStep P (siteOf rid i) (lo i) σ σ1 ∧ Run P rid lo r σ1 σ'

section
variable {P : Program} {E : Env} {σ σ1 σe : St} {a : Act} {w : World} {rid : Nat} {lo : Nat → LOp} {ops : Array Oper} {Q : Exit → Act → World → Prop}

def indep (x y : LOp) : Bool := compat x.op.cls y.op.cls && apartO x y

theorem okm_mono {c c' : Nat → Nat} (h : ∀ s, c s ≤ c' s) {v : V} (hv : okm c v) : okm c' v := by
  cases v with
  | mp k g off => exact Nat.lt_of_lt_of_le hv (h _)
  | msl k g off n => exact Nat.lt_of_lt_of_le hv (h _)
  | mm k => exact Nat.lt_of_lt_of_le hv (h _)
  | _ => trivial
theorem mdOp_mono {op : IOp} {tm tm' : Nat → V} {c c' : Nat → Nat} (h : ∀ s, c s ≤ c' s) (ht : ∀ t ∈ op.slots, tm' t = tm t) (hm : mdOp op tm c) : mdOp op tm' c' := by
  cases op with
  | load agg n x =>
    simp only [mdOp] at hm ⊢
    rw [Rd.get_congr fun t h' => ht t h']
    exact okm_mono h hm
  | mlk kt ok z x i =>
    simp only [mdOp] at hm ⊢
    rw [Rd.get_congr fun t h' => ht t (by simp [IOp.slots, h'])]
    exact okm_mono h hm
  | mlen x =>
    simp only [mdOp] at hm ⊢
    rw [Rd.get_congr fun t h' => ht t h']
    exact okm_mono h hm
  | b2s x =>
    simp only [mdOp] at hm ⊢
    rw [Rd.get_congr fun t h' => ht t h']
    exact okm_mono h hm
  | msb x =>
    simp only [mdOp] at hm ⊢
    rw [Rd.get_congr fun t h' => ht t h']
    exact okm_mono h hm
  | appE e b x y =>
    simp only [mdOp] at hm ⊢
    rw [Rd.get_congr fun t h' => ht t (by simp [IOp.slots, h'])]
    exact okm_mono h hm
  | _ => trivial
theorem RStep.cnt_le {s : Nat} {r : LRes} {v : V} {σ' : St} (h : RStep P σ s r v σ') : ∀ x, σ.cnt x ≤ σ'.cnt x := by
  intro x
  cases r with
  | A pre u => rw [h.2.2]; exact Nat.le_refl _
  | C pre o mk =>
    rw [h.2.2]
    simp only [cupd]
    split
    · rename_i e; subst e; omega
    · exact Nat.le_refl _
  | D pre u H' => rw [h.2.2]; exact Nat.le_refl _
  | call pre f a b => rw [h.2.2.2]; exact Nat.le_refl _
  | bad => exact h.elim
theorem LStep.md {s : Nat} {o y : LOp} {σ' : St} (h : LStep P s o σ σ') (hap : apartO o y = true) (hm : mdOp y.op σ.tm σ.cnt) : mdOp y.op σ'.tm σ'.cnt := by
  have h1 : ∀ t, o.dst = some t → t ∉ y.op.slots := by
    intro t ht; simp [apartO, ht, LOp.slots] at hap; exact hap.1.1.2
  have key : ∀ (f : Nat → V) (u : V), ∀ t ∈ y.op.slots, dput f o.dst u t = f t := by
    intro f u t ht
    cases hd : o.dst with
    | none => rfl
    | some d =>
      simp only [dput, tupd]
      rw [if_neg]
      rintro rfl; exact h1 t hd ht
  rcases h with ⟨_, v, τ, r, rfl⟩ | ⟨_, rfl⟩
  · refine mdOp_mono (r.cnt_le) (fun t ht => ?_) hm
    simp only [St.put]
    rw [key τ.tm v t ht, r.tm_eq]
  · refine mdOp_mono (fun _ => Nat.le_refl _) (fun t ht => ?_) hm
    simp only [St.put]
    rw [key σ.tm _ t ht]

theorem bubble {i : Nat} {post : List Nat} : ∀ {pre : List Nat} {σ : St}, WF σ → mdOp (lo i).op σ.tm σ.cnt → Run P rid lo (pre ++ i :: post) σ σe → (∀ j ∈ pre, j ≠ i ∧ indep (lo j) (lo i) = true) →
    ∃ σ1, LStep P (siteOf rid i) (lo i) σ σ1 ∧ Run P rid lo (pre ++ post) σ1 σe
  | [], σ, _, _, h, _ => h
  | j :: pre, σ, hwf, hmd, h, hp => by
    obtain ⟨τ, h1, h2⟩ := h
    obtain ⟨hne, hi⟩ := hp j (List.mem_cons_self ..)
    simp only [indep, Bool.and_eq_true] at hi
    obtain ⟨τ1, h3, h4⟩ := bubble (h1.wf hwf) (h1.md hi.2 hmd) h2 fun k hk => hp k (List.mem_cons_of_mem _ hk)
    obtain ⟨σ1, h5, h6⟩ := swap (by simp only [siteOf]; omega) hi.1 hi.2 hwf hmd h1 h3
    exact ⟨σ1, h5, τ1, h6, h4⟩

theorem Sim.wf (h : Sim E σ a w) : WF σ := by
  obtain ⟨g, h⟩ := h
  exact fun s n hn => (h.fresh s n hn).1

theorem Rep.okm {g : Gh} {v : Value} {x : V} (hs : SimG E g σ a w) (h : Rep g w v x) : okm σ.cnt x := by
  cases x with
  | mp k gen off =>
    obtain ⟨b, cap, hr, _⟩ := h.mp_inv
    rcases Nat.lt_or_ge k.2 (σ.cnt k.1) with hlt | hge
    · exact hlt
    · have := (hs.fresh k.1 k.2 hge).2 gen
      rw [hr] at this; cases this
  | msl k gen off n =>
    obtain ⟨c, A, blk, cap, _, hr, _⟩ := h.msl_inv
    rcases Nat.lt_or_ge k.2 (σ.cnt k.1) with hlt | hge
    · exact hlt
    · have := (hs.fresh k.1 k.2 hge).2 gen
      rw [hr] at this; cases this
  | mm k =>
    obtain ⟨b, cap, hr, _⟩ := h.mm_inv
    rcases Nat.lt_or_ge k.2 (σ.cnt k.1) with hlt | hge
    · exact hlt
    · have := (hs.fresh k.1 k.2 hge).2 0
      rw [hr] at this; cases this
  | _ => trivial

/-- The constants of an operation lead to no object. -/
def conR : Rd → Bool
  | .con (.mp ..) | .con (.msl ..) | .con (.mm ..) => false
  | _ => true
def conOk (op : IOp) : Bool := match op with
  | .load _ _ x | .appE _ _ _ x | .mlk _ _ _ x _ | .mlen x | .b2s x | .msb x => conR x
  | _ => true
theorem Sim.md {op : IOp} (h : Sim E σ a w) (hc : conOk op = true) : mdOp op σ.tm σ.cnt := by
  obtain ⟨g, hs⟩ := h
  have key : ∀ x : Rd, conR x = true → Go.Lg.okm σ.cnt (x.get σ.tm) := by
    intro x hx
    cases x with
    | tmp t => exact Rep.okm hs (hs.tm t)
    | con v => cases v <;> first | trivial | cases hx
  cases op with
  | load agg n x => exact key x hc
  | mlk kt ok z x i => exact key x hc
  | mlen x => exact key x hc
  | b2s x => exact key x hc
  | msb x => exact key x hc
  | appE e b x y => exact key y hc
  | _ => trivial

theorem Sim.drew (h : Sim E σ a w) : Sim E σ a w.drew := by
  obtain ⟨g, h⟩ := h
  exact ⟨g, h.grow_same (Below.refl _ _).drew⟩

/-- Slots are there; a guard asks an operation that has one. -/
def opOk (N : Nat) (ops : Array Oper) (o : Oper) : Bool :=
  (match o.dst with | some d => decide (d < N) | none => true) &&
  (match o.guard with | none => true | some (j, _) => match (ops[j]?).bind (·.dst) with | some d => decide (d < N) | none => false)

theorem opOk_dst {N : Nat} {o : Oper} (h : opOk N ops o = true) : ∀ t, o.dst = some t → t < N := by
  intro t ht
  simp [opOk, ht] at h
  exact h.1

theorem rep_undef (g : Gh) (w : World) : Rep g w undef (.tup []) := .imm _ _ (.tup #[] [] rfl fun j v c h => by simp at h)

theorem wanted_gd {o : Oper} (hok : opOk E.N ops o = true) (hs : Sim E σ a w) : ∀ b, gd σ.tm (trO P ops o).guard = some b → Region.wanted o (yielded ops a.tmps) = b := by
  intro b hb
  unfold Region.wanted
  cases hg : o.guard with
  | none => simp [trO, hg, gd] at hb ⊢; exact hb.symm ▸ rfl
  | some x =>
    obtain ⟨j, want⟩ := x
    simp only [trO, hg] at hb
    simp only [opOk, hg, Bool.and_eq_true] at hok
    have h2 := hok.2
    cases hj : (ops[j]?).bind (·.dst) with
    | none => simp [hj] at h2
    | some d =>
      simp only [hj, Option.getD_some, gd] at hb h2
      split at hb
      · rename_i b' hb'
        obtain ⟨g, hs⟩ := hs
        have hr := hs.tm d
        have hdb : d < HB := Nat.lt_of_lt_of_le (by simpa using h2) hs.size.2
        rw [hb', slotV_lo hdb] at hr
        have hv := hr.bool_inv
        have hlt : d < a.tmps.size := by rw [hs.size.1]; simpa using h2
        have hv' : a.tmps[d]? = some (.bool b') := by
          rw [Array.getElem?_eq_getElem hlt]
          rw [Array.getD_eq_getD_getElem?, Array.getElem?_eq_getElem hlt] at hv
          simpa using hv
        cases hb
        simp only [yielded, hj, Option.bind_some, hv']
        cases b' <;> cases want <;> rfl
      · rename_i hb'
        obtain ⟨g, hs⟩ := hs
        have hr := hs.tm d
        have hdb : d < HB := Nat.lt_of_lt_of_le (by simpa using h2) hs.size.2
        rw [hb', slotV_lo hdb] at hr
        obtain ⟨vs, hv, hsz, _⟩ := hr.tup_inv
        have hlt : d < a.tmps.size := by rw [hs.size.1]; simpa using h2
        have hv' : a.tmps[d]? = some (.tuple vs) := by
          rw [Array.getElem?_eq_getElem hlt]
          rw [Array.getD_eq_getD_getElem?, Array.getElem?_eq_getElem hlt] at hv
          simpa using hv
        cases hb
        simp only [yielded, hj, Option.bind_some, hv']
        cases want <;> rfl
      · cases hb

theorem litR_nocall {op : IOp} {tm : Nat → V} {pre : Prop} {f : FuncId} {args sargs : List V} : ¬ litR op tm = .call pre f args sargs := by
  intro h
  unfold litR at h
  repeat' split at h
  all_goals cases h

theorem wpOp_of_step {i : Nat} {o : Oper} {K : Act → World → Prop} (hi : ops[i]? = some o) (hok : opOk E.N ops o = true) (hs : Sim E σ a w) (h : LStep P (siteOf rid i) (trO P ops o) σ σ1)
    (hK : ∀ a' w', Sim E σ1 a' w' → K a' w') : wpOp P ops Q i K a w := by
  have hd := opOk_dst hok
  have hw := wanted_gd (P := P) hok hs
  unfold wpOp
  simp only [hi]
  rcases h with ⟨hg, v, τ, r, e⟩ | ⟨hg, e⟩
  · rw [hw _ hg]
    simp only [if_true]
    obtain ⟨g, hs⟩ := hs
    left
    have r' : RStep P σ (siteOf rid i) (lop (trE P ops o) σ.tm σ.H) v τ := r
    rcases lop_trE P ops o σ.tm σ.H with q | q | q
    · rw [q] at r'
      refine step_wp hs o (siteOf rid i) hd (K := fun σ' => σ' = σ1) (vres_iff.2 ⟨v, τ, r', e.symm⟩) ?_
      rintro σ' a' w' rfl hs'
      exact hK _ _ hs'
    · rw [q] at r'; exact r'.elim
    · rw [q] at r'
      refine step_wplit hs o (siteOf rid i) hd (K := fun σ' => σ' = σ1) (vres_iff.2 ⟨v, τ, r', e.symm⟩) ?_
      rintro σ' a' w' rfl hs'
      exact hK _ _ hs'
  · rw [hw _ hg]
    simp only [Bool.false_eq_true, if_false]
    obtain ⟨g, hs⟩ := hs
    subst e
    exact hK _ _ ⟨g, hs.put hd (rep_undef _ _)⟩

/-- A call in a region that is walked in the text's order: its result may be one that the caller may change. -/
def callX (P : Program) (s : Nat) (f : FuncId) (args sargs : List V) (d : Option Nat) (K : St → Prop) (σ : St) : Prop :=
  callV P f args sargs d K σ ∨ ownV P s f args sargs d K σ ∨ mutV P f args d K σ ∨ instV P f args d K σ
def vresM (P : Program) (σ : St) (s : Nat) (d : Option Nat) (K : St → Prop) : LRes → Prop
  | .A pre v => vres P σ s d K (.A pre v)
  | .C pre o mk => vres P σ s d K (.C pre o mk)
  | .D pre v H' => vres P σ s d K (.D pre v H')
  | .call pre f args sargs => pre ∧ callX P s f args sargs d K σ
  | .bad => False
def vstepM (P : Program) (s : Nat) (o : LOp) (K : St → Prop) (σ : St) : Prop :=
  match gd σ.tm o.guard with
  | some true => vresM P σ s o.dst K (lop o.op σ.tm σ.H)
  | some false => K (σ.put o.dst (.tup []))
  | none => False

theorem vresM_cases {s : Nat} {d : Option Nat} {K : St → Prop} {r : LRes} (h : vresM P σ s d K r) : vres P σ s d K r ∨ ∃ pre f args sargs, r = .call pre f args sargs ∧ pre ∧ (ownV P s f args sargs d K σ ∨ mutV P f args d K σ ∨ instV P f args d K σ) := by
  cases r with
  | call pre f args sargs =>
    obtain ⟨hp, h | h⟩ := h
    · exact .inl ⟨hp, h⟩
    · exact .inr ⟨pre, f, args, sargs, rfl, hp, h⟩
  | bad => exact h.elim
  | _ => exact .inl h

theorem wpOp_of_vstepM {i : Nat} {o : Oper} {K : Act → World → Prop} {KL : St → Prop} (hi : ops[i]? = some o) (hok : opOk E.N ops o = true) (hs : Sim E σ a w) (h : vstepM P (siteOf rid i) (trO P ops o) KL σ)
    (hK : ∀ σ' a' w', KL σ' → Sim E σ' a' w' → K a' w') : wpOp P ops Q i K a w := by
  have hd := opOk_dst hok
  have hw := wanted_gd (P := P) hok hs
  unfold wpOp
  simp only [hi]
  unfold vstepM at h
  split at h
  · rename_i hg
    rw [hw _ hg]
    simp only [if_true]
    obtain ⟨g, hs⟩ := hs
    left
    have h' : vresM P σ (siteOf rid i) o.dst KL (lop (trE P ops o) σ.tm σ.H) := h
    rcases lop_trE P ops o σ.tm σ.H with q | q | q
    · rw [q] at h'
      rcases vresM_cases h' with h | ⟨pre, f, args, sargs, hl, hp, h | h | h⟩
      · exact step_wp hs o (siteOf rid i) hd h hK
      · exact step_own hs o (siteOf rid i) hd hl hp h hK
      · exact step_mut hs o (siteOf rid i) hd hl hp h hK
      · exact step_inst hs o (siteOf rid i) hd hl hp h hK
    · rw [q] at h'; exact h'.elim
    · rw [q] at h'
      rcases vresM_cases h' with h | ⟨pre, f, args, sargs, hl, hp, h⟩
      · exact step_wplit hs o (siteOf rid i) hd h hK
      · exact absurd hl litR_nocall
  · rename_i hg
    rw [hw _ hg]
    simp only [Bool.false_eq_true, if_false]
    obtain ⟨g, hs⟩ := hs
    exact hK _ _ _ h ⟨g, hs.put hd (rep_undef _ _)⟩
  · exact h.elim

/-- A literal that the call means to change. -/
def vstepL (P : Program) (s : Nat) (o : LOp) (K : St → Prop) (σ : St) : Prop :=
  match o.guard with
  | none => vres P σ s o.dst K (litR o.op σ.tm)
  | some _ => False

theorem wpOp_of_vstepL {i : Nat} {o : Oper} {K : Act → World → Prop} {KL : St → Prop} (hi : ops[i]? = some o) (hok : opOk E.N ops o = true) (hs : Sim E σ a w) (h : vstepL P (siteOf rid i) (trO P ops o) KL σ)
    (hK : ∀ σ' a' w', KL σ' → Sim E σ' a' w' → K a' w') : wpOp P ops Q i K a w := by
  have hd := opOk_dst hok
  have hw := wanted_gd (P := P) hok hs
  unfold wpOp
  simp only [hi]
  unfold vstepL at h
  split at h
  · rename_i hg
    rw [hw true (by rw [hg]; rfl)]
    simp only [if_true]
    obtain ⟨g, hs⟩ := hs
    left
    have h : vres P σ (siteOf rid i) o.dst KL (litR (tr P o) σ.tm) := by
      have h' : vres P σ (siteOf rid i) o.dst KL (litR (trE P ops o) σ.tm) := h
      rcases litR_trE P ops o σ.tm with q | q
      · rw [q] at h'; exact h'
      · rw [q] at h'; exact h'.elim
    exact step_wplit hs o (siteOf rid i) hd h hK
  · exact h.elim

/-- What an operation waits for. -/
def depsOf (o : Oper) : List Nat := o.after.toList.filterMap fun e => if Region.binds .any e then some e.on else none

def befs (ops : List Oper) : List Nat :=
  ops.foldl (fun acc o => acc ++ [(depsOf o).foldl (fun s k => s ||| 2 ^ k ||| acc.getD k 0) 0]) []

def drawOk (ops : Array Oper) (los : List LOp) (bs : List Nat) : Bool :=
  (List.range ops.size).all fun i => match ops[i]?, los[i]? with
    | some o, some y =>
      (depsOf o).all (fun k => decide (k < i)) && conOk y.op &&
      (List.range i).all fun j => match los[j]? with
        | some x => if (bs.getD i 0).testBit j then (depsOf o).any (fun k => k == j || (decide (j < k) && (bs.getD k 0).testBit j)) else indep x y
        | none => false
    | _, _ => false

structure Inv (ops : Array Oper) (bs : List Nat) (listed : Array Bool) (rem : List Nat) : Prop where
  size : listed.size = ops.size
  sorted : rem.Pairwise (· < ·)
  mem : ∀ k, k ∈ rem ↔ k < ops.size ∧ listed.getD k true = false
  down : ∀ k, k < ops.size → listed.getD k true = true → ∀ j, j < k → (bs.getD k 0).testBit j = true → listed.getD j true = true

theorem ready_iff {listed : Array Bool} {i : Nat} : i ∈ Region.ready .any ops listed ↔ i < ops.size ∧ listed.getD i true = false ∧ ∃ o, ops[i]? = some o ∧ ∀ k ∈ depsOf o, listed.getD k false = true := by
  unfold Region.ready
  simp only [List.mem_filter, List.mem_range, Bool.and_eq_true, Bool.not_eq_true']
  constructor
  · rintro ⟨h1, h2, h3⟩
    refine ⟨h1, h2, ?_⟩
    cases ho : ops[i]? with
    | none => simp [ho] at h3
    | some o =>
      refine ⟨o, rfl, fun k hk => ?_⟩
      simp only [ho, Option.map_some, Option.getD_some] at h3
      simp only [depsOf, List.mem_filterMap] at hk
      obtain ⟨e, he, hk⟩ := hk
      split at hk
      · rename_i hb
        cases hk
        have := Array.all_eq_true_iff_forall_mem.1 h3 e (by simpa using he)
        simpa [hb] using this
      · cases hk
  · rintro ⟨h1, h2, o, ho, h3⟩
    refine ⟨h1, h2, ?_⟩
    simp only [ho, Option.map_some, Option.getD_some]
    refine Array.all_eq_true_iff_forall_mem.2 fun e he => ?_
    by_cases hb : Region.binds .any e = true
    · have := h3 e.on (by simp only [depsOf, List.mem_filterMap]; exact ⟨e, by simpa using he, by simp [hb]⟩)
      simp [this]
    · simp [hb]

theorem any_sound {los : List LOp} {bs : List Nat} (hlos : los = ops.toList.map (trO P ops)) (hlo : ∀ i x, los[i]? = some x → lo i = x) (hall : ops.toList.all (opOk E.N ops) = true) (hchk : drawOk ops los bs = true) (hQ : ∀ a' w', Sim E σe a' w' → Q .normal a' w') :
    ∀ (fuel : Nat) (listed : Array Bool) (rem : List Nat) (σ : St) (a : Act) (w : World), rem.length = fuel → Inv ops bs listed rem → Run P rid lo rem σ σe → Sim E σ a w → wpAny P .any ops Q fuel listed a w := by
  have los_get : ∀ (i : Nat) (o : Oper), ops[i]? = some o → los[i]? = some (trO P ops o) := by
    intro i o ho
    rw [hlos, List.getElem?_map, Array.getElem?_toList, ho]; rfl
  have chk : ∀ (i : Nat) (o : Oper), ops[i]? = some o → ((∀ k ∈ depsOf o, k < i) ∧ conOk (trO P ops o).op = true) ∧ ∀ j, j < i → ∃ x, los[j]? = some x ∧ ((bs.getD i 0).testBit j = true → ∃ k ∈ depsOf o, k = j ∨ j < k ∧ (bs.getD k 0).testBit j = true) ∧ ((bs.getD i 0).testBit j = false → indep x (trO P ops o) = true) := by
    intro i o ho
    have hlt : i < ops.size := by
      rcases Nat.lt_or_ge i ops.size with h | h
      · exact h
      · rw [Array.getElem?_eq_none h] at ho; cases ho
    have := List.all_eq_true.1 hchk i (List.mem_range.2 hlt)
    simp only [ho, los_get i o ho, Bool.and_eq_true] at this
    obtain ⟨⟨c1, c0⟩, c2⟩ := this
    refine ⟨⟨fun k hk => by simpa using List.all_eq_true.1 c1 k hk, c0⟩, fun j hj => ?_⟩
    have c3 := List.all_eq_true.1 c2 j (List.mem_range.2 hj)
    cases hx : los[j]? with
    | none => simp [hx] at c3
    | some x =>
      simp only [hx] at c3
      refine ⟨x, rfl, fun hb => ?_, fun hb => ?_⟩
      · rw [if_pos hb] at c3
        obtain ⟨k, hk, hk2⟩ := List.any_eq_true.1 c3
        refine ⟨k, hk, ?_⟩
        simpa using hk2
      · rw [hb] at c3
        exact c3
  have empty : ∀ (listed : Array Bool) (rem : List Nat), Inv ops bs listed rem → Region.ready .any ops listed = [] → rem = [] := by
    intro listed rem hinv hr
    cases rem with
    | nil => rfl
    | cons i r =>
      exfalso
      obtain ⟨h1, h2⟩ := (hinv.mem i).1 (List.mem_cons_self ..)
      have hmin : ∀ b ∈ r, i < b := fun b hb => List.rel_of_pairwise_cons hinv.sorted hb
      have : i ∈ Region.ready .any ops listed := ready_iff.2 ⟨h1, h2, ops[i], Array.getElem?_eq_getElem h1, fun k hk => by
        have hki := (chk i _ (Array.getElem?_eq_getElem h1)).1.1 k hk
        have hnm : k ∉ i :: r := by
          intro hm
          rcases List.mem_cons.1 hm with rfl | hm
          · omega
          · have := hmin k hm; omega
        have hk' : ¬ (listed.getD k true = false) := fun h => hnm ((hinv.mem k).2 ⟨by omega, h⟩)
        have hks : k < listed.size := by rw [hinv.size]; omega
        simp only [Array.getD_eq_getD_getElem?, Array.getElem?_eq_getElem hks, Option.getD_some] at hk' ⊢
        simpa using hk'⟩
      rw [hr] at this; cases this
  intro fuel
  induction fuel with
  | zero =>
    intro listed rem σ a w hlen hinv hrun hs
    have hrem : rem = [] := List.eq_nil_of_length_eq_zero hlen
    subst hrem
    refine ⟨?_, by cases hrun; exact hQ _ _ hs⟩
    rw [List.eq_nil_iff_forall_not_mem]
    intro i hi
    obtain ⟨h1, h2, _⟩ := ready_iff.1 hi
    have := (hinv.mem i).2 ⟨h1, h2⟩
    cases this
  | succ fuel ih =>
    intro listed rem σ a w hlen hinv hrun hs
    refine ⟨fun hr => ?_, fun i hi => ?_⟩
    · have := empty listed rem hinv hr
      subst this
      cases hlen
    · obtain ⟨h1, h2, o, ho, hdeps⟩ := ready_iff.1 hi
      have him := (hinv.mem i).2 ⟨h1, h2⟩
      obtain ⟨pre, post, rfl⟩ := List.append_of_mem him
      have hsorted := hinv.sorted
      rw [List.pairwise_append] at hsorted
      obtain ⟨s1, s2, s3⟩ := hsorted
      obtain ⟨s4, s5⟩ := List.pairwise_cons.1 s2
      have hbit : ∀ j, j < i → listed.getD j true = false → (bs.getD i 0).testBit j = false := by
        intro j hj hl
        by_cases hb : (bs.getD i 0).testBit j = true
        · obtain ⟨x, _, hx, _⟩ := (chk i o ho).2 j hj
          obtain ⟨k, hk, hk2⟩ := hx hb
          have hki := (chk i o ho).1.1 k hk
          have hkl := hdeps k hk
          have hks : k < listed.size := by rw [hinv.size]; omega
          have hkl' : listed.getD k true = true := by
            simp only [Array.getD_eq_getD_getElem?, Array.getElem?_eq_getElem hks, Option.getD_some] at hkl ⊢
            exact hkl
          rcases hk2 with rfl | hk2
          · rw [hkl'] at hl; cases hl
          · have := hinv.down k (by omega) hkl' j hk2.1 hk2.2
            rw [this] at hl; cases hl
        · simpa using hb
      obtain ⟨σ1, hst, hrest⟩ := bubble hs.wf (hs.md (by rw [hlo i _ (los_get i o ho)]; exact (chk i o ho).1.2)) hrun (fun j hj => by
        have hji : j < i := s3 j hj i (List.mem_cons_self ..)
        have hjl := ((hinv.mem j).1 (List.mem_append_left _ hj)).2
        obtain ⟨x, hx, _, hind⟩ := (chk i o ho).2 j hji
        refine ⟨by omega, ?_⟩
        rw [hlo j x hx, hlo i _ (los_get i o ho)]
        exact hind (hbit j hji hjl))
      rw [hlo i _ (los_get i o ho)] at hst
      have hok : opOk E.N ops o = true := List.all_eq_true.1 hall o (by
        rw [List.mem_iff_getElem?]
        exact ⟨i, by rw [Array.getElem?_toList]; exact ho⟩)
      refine wpOp_of_step ho hok hs hst fun a' w' hs' => ih _ (pre ++ post) σ1 a' w' ?_ ?_ hrest hs'
      · simp at hlen ⊢; omega
      · have hget : ∀ k, (listed.setIfInBounds i true).getD k true = if k = i then true else listed.getD k true := by
          intro k
          simp only [Array.getD_eq_getD_getElem?]
          by_cases e : k = i
          · subst e
            have : k < listed.size := by rw [hinv.size]; exact h1
            simp [this]
          · rw [if_neg e, Array.getElem?_setIfInBounds_ne (Ne.symm e)]
        refine ⟨by simpa using hinv.size, ?_, fun k => ?_, fun k hk hl j hj hb => ?_⟩
        · rw [List.pairwise_append]
          exact ⟨s1, s5, fun x hx y hy => s3 x hx y (List.mem_cons_of_mem _ hy)⟩
        · rw [hget]
          have hm := hinv.mem k
          simp only [List.mem_append, List.mem_cons] at hm ⊢
          by_cases e : k = i
          · subst e
            rw [if_pos rfl]
            constructor
            · rintro (h | h)
              · have := s3 k h k (List.mem_cons_self ..); omega
              · have := s4 k h; omega
            · rintro ⟨_, h⟩; cases h
          · rw [if_neg e, ← hm]
            constructor
            · rintro (h | h)
              · exact .inl h
              · exact .inr (.inr h)
            · rintro (h | h | h)
              · exact .inl h
              · exact absurd h e
              · exact .inr h
        · rw [hget] at hl ⊢
          by_cases e : k = i
          · subst e
            split
            · rfl
            · by_cases hjl : listed.getD j true = true
              · exact hjl
              · have := hbit j hj (by simpa using hjl)
                rw [this] at hb; cases hb
          · rw [if_neg e] at hl
            split
            · rfl
            · exact hinv.down k hk hl j hj hb

end
end Go.Lg

/-
  The plain logic's rules for code, in one function 'vcg': what is to be shown of a body; and that it suffices.
-/
set_option linter.unusedSimpArgs false
set_option linter.unusedVariables false
namespace Go.Lg
open Go Go.RowKit

inductive LC where
  | skip
  | reg (rid : Nat) (ops : List LOp)
  | rego (rid : Nat) (ops : List LOp)
  | seq (x y : LC)
  | cond (c : Rd) (x y : LC)
  | block (id : Nat) (x : LC)
  | loop (x : LC)
  | exit (id : Nat)
  | ret
  | bad
  | keep (ls : List Nat) (x : LC)
  | join (x y : LC)
  | regb (rid : Nat) (ops : List (Bool × LOp))

/-- A body without the notes on which slots still count. -/
def LC.erase : LC → LC
  | .seq x y => .seq x.erase y.erase
  | .join x y => .seq x.erase y.erase
  | .cond c x y => .cond c x.erase y.erase
  | .block id x => .block id x.erase
  | .loop x => .loop x.erase
  | .keep _ x => x.erase
  | .regb rid ops => .rego rid (ops.map (·.2))
  | c => c

def tmk : List (Nat × V) → Nat → V
  | [], _ => .junk
  | (d, v) :: r, t => if t = d then v else tmk r t
def keepL (tm : Nat → V) : List Nat → List (Nat × V)
  | [] => []
  | d :: r => (d, tm d) :: keepL tm r
def St.keep (σ : St) (ls : List Nat) : St := ⟨tmk (keepL σ.tm ls), σ.H, σ.cnt⟩
theorem keep_le (σ : St) (ls : List Nat) : St.le (σ.keep ls) σ := ⟨fun t => by
  simp only [St.keep]
  induction ls with
  | nil => exact .inr rfl
  | cons d r ih =>
    simp only [keepL, tmk]
    split
    · rename_i e; subst e; exact .inl rfl
    · exact ih, fun _ _ h => h, fun _ => Nat.le_refl _⟩

def trC (P : Program) : Code → LC
  | .skip => .skip
  | .region rid ops draw => if draw then .reg rid (ops.toList.map (trO P ops)) else .rego rid (ops.toList.map (trO P ops))
  | .seq x y => .seq (trC P x) (trC P y)
  | .cond c x y => .cond (rdOf c) (trC P x) (trC P y)
  | .block id x => .block id (trC P x)
  | .loop x => .loop (trC P x)
  | .exit id => .exit id
  | .ret => .ret
  | _ => .bad

/-- The closed checks of a body: slots; that order does not matter. -/
def codeOk (P : Program) (N : Nat) : Code → LC → Bool
  | .region _ ops draw, .reg _ los => ops.toList.all (opOk N ops) && (draw && (P.follows .mixedOrders && drawOk ops los (befs ops.toList)))
  | .region _ ops draw, .rego _ _ => ops.toList.all (opOk N ops) && !draw
  | .seq x y, .seq x' y' => codeOk P N x x' && codeOk P N y y'
  | .cond _ x y, .cond _ x' y' => codeOk P N x x' && codeOk P N y y'
  | .block _ x, .block _ x' => codeOk P N x x'
  | .loop x, .loop x' => codeOk P N x x'
  | .skip, .skip | .exit _, .exit _ | .ret, .ret => true
  | _, _ => false

def vops (P : Program) (rid : Nat) : List LOp → Nat → (St → Prop) → St → Prop
  | [], _, K, σ => K σ
  | o :: os, i, K, σ => vstep P (siteOf rid i) o (vops P rid os (i + 1) K) σ

def vopsM (P : Program) (rid : Nat) : List LOp → Nat → (St → Prop) → St → Prop
  | [], _, K, σ => K σ
  | o :: os, i, K, σ => vstepM P (siteOf rid i) o (vopsM P rid os (i + 1) K) σ

def vopsB (P : Program) (rid : Nat) : List (Bool × LOp) → Nat → (St → Prop) → St → Prop
  | [], _, K, σ => K σ
  | (false, o) :: os, i, K, σ => vstepM P (siteOf rid i) o (vopsB P rid os (i + 1) K) σ
  | (true, o) :: os, i, K, σ => vstepL P (siteOf rid i) o (vopsB P rid os (i + 1) K) σ

def thenQ (K : St → Prop) (Q : Exit → St → Prop) : Exit → St → Prop
  | .normal, σ => K σ
  | e, σ => Q e σ
def blockQ (id : Nat) (Q : Exit → St → Prop) : Exit → St → Prop
  | .exit i, σ => if i = id then Q .normal σ else Q (.exit i) σ
  | e, σ => Q e σ
def condV (v : V) (X Y : St → Prop) (σ : St) : Prop := match v with
  | .bool true => X σ
  | .bool false => Y σ
  | _ => False
theorem condV_of {b : Bool} {X Y : St → Prop} {σ : St} (h1 : b = true → X σ) (h2 : b = false → Y σ) : condV (.bool b) X Y σ := by
  cases b
  · exact h2 rfl
  · exact h1 rfl
/-- A loop: what holds at each round's head, with a number that goes down. -/
def loopV (body : (Exit → St → Prop) → St → Prop) (Q : Exit → St → Prop) (σ : St) : Prop :=
  ∃ I : Nat → St → Prop, (∃ n σ0, Ent σ σ0 ∧ I n σ0) ∧ ∀ n σ1, I n σ1 → body (thenQ (fun σ2 => ∃ m σ3, m < n ∧ Ent σ2 σ3 ∧ I m σ3) Q) σ1

def vcg (P : Program) : LC → (Exit → St → Prop) → St → Prop
  | .skip, Q, σ => Q .normal σ
  | .reg rid ops, Q, σ => vops P rid ops 0 (Q .normal) σ
  | .rego rid ops, Q, σ => vopsM P rid ops 0 (Q .normal) σ
  | .seq x y, Q, σ => vcg P x (thenQ (vcg P y Q) Q) σ
  | .cond c x y, Q, σ => condV (c.get σ.tm) (vcg P x Q) (vcg P y Q) σ
  | .block id x, Q, σ => vcg P x (blockQ id Q) σ
  | .loop x, Q, σ => loopV (vcg P x) Q σ
  | .exit id, Q, σ => Q (.exit id) σ
  | .ret, Q, σ => Q .ret σ
  | .bad, _, _ => False
  | .keep ls x, Q, σ => vcg P x Q (σ.keep ls)
  | .regb rid ops, Q, σ => vopsB P rid ops 0 (Q .normal) σ
  | .join x y, Q, σ => ∃ I : St → Prop, vcg P x (thenQ (fun σ1 => ∃ σ2, Ent σ1 σ2 ∧ I σ2) Q) σ ∧ ∀ σ2, I σ2 → vcg P y Q σ2

section
variable {P : Program} {E : Env} {σ : St} {a : Act} {w : World}

theorem vops_run {rid : Nat} {ops : Array Oper} {K : St → Prop} : ∀ (n i : Nat) (σ : St), i + n = ops.size →
    vops P rid ((ops.toList.map (trO P ops)).drop i) i K σ → ∃ σe, Run P rid (fun i => trO P ops (ops.getD i default)) (List.range' i n) σ σe ∧ K σe
  | 0, i, σ, hn, h => by
    have : (ops.toList.map (trO P ops)).drop i = [] := List.drop_eq_nil_of_le (by simp; omega)
    rw [this] at h
    exact ⟨σ, rfl, h⟩
  | n + 1, i, σ, hn, h => by
    have hlt : i < ops.size := by omega
    have hd : (ops.toList.map (trO P ops)).drop i = trO P ops ops[i] :: (ops.toList.map (trO P ops)).drop (i + 1) := by
      rw [List.drop_eq_getElem_cons (by simpa using hlt)]
      simp
    rw [hd] at h
    obtain ⟨σ1, h1, h2⟩ := vstep_iff.1 h
    obtain ⟨σe, h3, h4⟩ := vops_run n (i + 1) σ1 (by omega) h2
    refine ⟨σe, ⟨σ1, ?_, h3⟩, h4⟩
    have : ops.getD i default = ops[i] := by simp [hlt]
    simp only [this]
    exact h1

theorem ordered_sound {rid : Nat} {ops : Array Oper} {KL : St → Prop} {Q : Exit → Act → World → Prop} (hall : ops.toList.all (opOk E.N ops) = true) (hQ : ∀ σ' a' w', KL σ' → Sim E σ' a' w' → Q .normal a' w') :
    ∀ (n i : Nat) (σ : St) (a : Act) (w : World), i + n = ops.size → vopsM P rid ((ops.toList.map (trO P ops)).drop i) i KL σ → Sim E σ a w → wpOps P ops Q (List.range' i n) a w
  | 0, i, σ, a, w, hn, h, hs => by
    have : (ops.toList.map (trO P ops)).drop i = [] := List.drop_eq_nil_of_le (by simp; omega)
    rw [this] at h
    exact hQ _ _ _ h hs
  | n + 1, i, σ, a, w, hn, h, hs => by
    have hlt : i < ops.size := by omega
    have hd : (ops.toList.map (trO P ops)).drop i = trO P ops ops[i] :: (ops.toList.map (trO P ops)).drop (i + 1) := by
      rw [List.drop_eq_getElem_cons (by simpa using hlt)]
      simp
    rw [hd] at h
    rw [List.range'_succ, wpOps_cons]
    have hok : opOk E.N ops ops[i] = true := List.all_eq_true.1 hall _ (by simp)
    exact wpOp_of_vstepM (Array.getElem?_eq_getElem hlt) hok hs h fun σ' a' w' h' hs' => ordered_sound hall hQ n (i + 1) σ' a' w' (by omega) h' hs'

theorem orderedB_sound {rid : Nat} {ops : Array Oper} {KL : St → Prop} {Q : Exit → Act → World → Prop} (hall : ops.toList.all (opOk E.N ops) = true) (hQ : ∀ σ' a' w', KL σ' → Sim E σ' a' w' → Q .normal a' w') :
    ∀ (los : List (Bool × LOp)) (n i : Nat) (σ : St) (a : Act) (w : World), i + n = ops.size → los.map (·.2) = (ops.toList.map (trO P ops)).drop i → vopsB P rid los i KL σ → Sim E σ a w → wpOps P ops Q (List.range' i n) a w
  | los, 0, i, σ, a, w, hn, he, h, hs => by
    have : (ops.toList.map (trO P ops)).drop i = [] := List.drop_eq_nil_of_le (by simp; omega)
    rw [this] at he
    cases los with
    | nil => exact hQ _ _ _ h hs
    | cons _ _ => cases he
  | los, n + 1, i, σ, a, w, hn, he, h, hs => by
    have hlt : i < ops.size := by omega
    have hd : (ops.toList.map (trO P ops)).drop i = trO P ops ops[i] :: (ops.toList.map (trO P ops)).drop (i + 1) := by
      rw [List.drop_eq_getElem_cons (by simpa using hlt)]
      simp
    rw [hd] at he
    rw [List.range'_succ, wpOps_cons]
    have hok : opOk E.N ops ops[i] = true := List.all_eq_true.1 hall _ (by simp)
    cases los with
    | nil => cases he
    | cons p los =>
      obtain ⟨b, o⟩ := p
      simp only [List.map_cons, List.cons.injEq] at he
      obtain ⟨rfl, he⟩ := he
      cases b with
      | false => exact wpOp_of_vstepM (Array.getElem?_eq_getElem hlt) hok hs h fun σ' a' w' h' hs' => orderedB_sound hall hQ los n (i + 1) σ' a' w' (by omega) he h' hs'
      | true => exact wpOp_of_vstepL (Array.getElem?_eq_getElem hlt) hok hs h fun σ' a' w' h' hs' => orderedB_sound hall hQ los n (i + 1) σ' a' w' (by omega) he h' hs'

/-- What the logic says of an exit, said of the model. -/
def simQ (E : Env) (Q : Exit → St → Prop) : Exit → Act → World → Prop := fun e a w => ∃ σ, Sim E σ a w ∧ Q e σ

theorem vcg_sound0 : ∀ (c : Code) (Q : Exit → St → Prop) (σ : St) (a : Act) (w : World), codeOk P E.N c (trC P c) = true → vcg P (trC P c) Q σ → Sim E σ a w → c.wp P (simQ E Q) a w
  | .skip, Q, σ, a, w, _, h, hs => wp_skip ⟨σ, hs, h⟩
  | .region rid ops draw, Q, σ, a, w, hok, h, hs => by
    cases draw with
    | false =>
      simp only [trC, codeOk, Bool.and_eq_true, Bool.false_eq_true, if_false] at hok
      refine wp_region ?_
      rw [List.range_eq_range']
      exact ordered_sound (KL := Q .normal) hok.1 (fun σ' a' w' h' hs' => ⟨σ', hs', h'⟩) ops.size 0 σ a w (by omega) (by simpa [vcg, trC] using h) hs
    | true =>
      simp only [trC, codeOk, Bool.and_eq_true, if_true] at hok
      obtain ⟨hall, _, hm, hd⟩ := hok
      obtain ⟨σe, hrun, hq⟩ := vops_run (ops := ops) ops.size 0 σ (by omega) (by simpa [vcg, trC] using h)
      refine wp_region_any hm ?_
      refine any_sound (lo := fun i => trO P ops (ops.getD i default)) rfl (fun i x hx => ?_) hall hd (fun a' w' hs' => ⟨σe, hs', hq⟩) ops.size _ (List.range' 0 ops.size) σ a _ (by simp) ?_ hrun hs.drew
      · rw [List.getElem?_map, Option.map_eq_some_iff] at hx
        obtain ⟨o, ho, rfl⟩ := hx
        rw [Array.getElem?_toList] at ho
        simp [Array.getD_eq_getD_getElem?, ho]
      · refine ⟨by simp, by rw [← List.range_eq_range']; exact List.pairwise_lt_range, fun k => ?_, fun k hk hl => ?_⟩
        · rw [← List.range_eq_range', List.mem_range]
          simp only [Array.getD_eq_getD_getElem?]
          constructor
          · intro hk; exact ⟨hk, by simp [hk]⟩
          · exact fun h => h.1
        · simp only [Array.getD_eq_getD_getElem?] at hl
          simp [hk] at hl
  | .seq x y, Q, σ, a, w, hok, h, hs => by
    simp only [trC, codeOk, Bool.and_eq_true] at hok
    refine wp_seq (wp_mono (vcg_sound0 x _ σ a w hok.1 h hs) ?_)
    rintro e a' w' ⟨σ', hs', hq⟩
    cases e with
    | normal => exact vcg_sound0 y Q σ' a' w' hok.2 hq hs'
    | _ => exact ⟨σ', hs', hq⟩
  | .cond c x y, Q, σ, a, w, hok, h, hs => by
    simp only [trC, codeOk, Bool.and_eq_true] at hok
    have hc : ∃ b, a.eval c = .bool b ∧ (b = true → vcg P (trC P x) Q σ) ∧ (b = false → vcg P (trC P y) Q σ) := by
      obtain ⟨g, hs⟩ := hs
      have hr := rep_rd hs.tm c
      simp only [trC, vcg, condV] at h
      generalize (rdOf c).get σ.tm = C at hr h
      cases C with
      | bool b => exact ⟨b, hr.bool_inv, (fun e => by subst e; exact h), (fun e => by subst e; exact h)⟩
      | _ => exact h.elim
    obtain ⟨b, hb, h1, h2⟩ := hc
    exact wp_cond_split hb (fun e => vcg_sound0 x Q σ a w hok.1 (h1 e) hs) (fun e => vcg_sound0 y Q σ a w hok.2 (h2 e) hs)
  | .block id x, Q, σ, a, w, hok, h, hs => by
    simp only [trC, codeOk] at hok
    refine wp_block (wp_mono (vcg_sound0 x _ σ a w hok h hs) ?_)
    rintro e a' w' ⟨σ', hs', hq⟩
    cases e with
    | exit i =>
      simp only [blockQ] at hq
      simp only [Exit.inBlock]
      split
      · rename_i e; rw [if_pos e] at hq; exact ⟨σ', hs', hq⟩
      · rename_i e; rw [if_neg e] at hq; exact ⟨σ', hs', hq⟩
    | _ => exact ⟨σ', hs', hq⟩
  | .loop x, Q, σ, a, w, hok, h, hs => by
    simp only [trC, codeOk] at hok
    obtain ⟨I, ⟨n, σ0, hle, h0⟩, hround⟩ := h
    intro b k cs
    have key : ∀ n (a : Act) (w : World), (∃ σ, Sim E σ a w ∧ I n σ) →
        ∃ e a' w', simQ E Q e a' w' ∧ Arrives P (lone (b.at a (.code x :: .inLoop x :: k)) cs w) b k cs e a' w' := by
      intro n
      induction n using Nat.strongRecOn with
      | _ n ih =>
        rintro a w ⟨σ1, hs1, hI⟩
        obtain ⟨e, a₁, w₁, ⟨σ2, hs2, hq⟩, harr⟩ := vcg_sound0 x _ σ1 a w hok (hround n σ1 hI) hs1 b (.inLoop x :: k) cs
        cases e with
        | normal =>
          obtain ⟨m, σ3, hlt, hle3, hI3⟩ := hq
          obtain ⟨e₂, a₂, w₂, hq₂, harr₂⟩ := ih m hlt a₁ w₁ ⟨σ3, hle3 _ _ _ hs2, hI3⟩
          exact ⟨e₂, a₂, w₂, hq₂, .of_steps (Steps.trans harr (.one step_inLoop)) harr₂⟩
        | exit id => exact ⟨_, a₁, w₁, ⟨σ2, hs2, hq⟩, .pass (x := .inLoop x) rfl (fun _ _ => .inl (by simp)) harr⟩
        | goto l => exact ⟨_, a₁, w₁, ⟨σ2, hs2, hq⟩, .pass (x := .inLoop x) rfl (fun _ _ => .inl (by simp)) harr⟩
        | ret => exact ⟨_, a₁, w₁, ⟨σ2, hs2, hq⟩, .pass (x := .inLoop x) rfl (fun _ _ => .inl (by simp)) harr⟩
        | panic ch => exact ⟨_, a₁, w₁, ⟨σ2, hs2, hq⟩, .pass (x := .inLoop x) rfl (fun _ _ => .inl (by simp)) harr⟩
        | outgrown => exact ⟨_, a₁, w₁, ⟨σ2, hs2, hq⟩, .pass (x := .inLoop x) rfl (fun _ _ => .inl (by simp)) harr⟩
    obtain ⟨e, a', w', hq, harr⟩ := key n a w ⟨σ0, hle _ _ _ hs, h0⟩
    exact ⟨e, a', w', hq, .of_steps (.one step_loop) harr⟩
  | .exit id, Q, σ, a, w, _, h, hs => wp_exit ⟨σ, hs, h⟩
  | .ret, Q, σ, a, w, _, h, hs => wp_ret ⟨σ, hs, h⟩
  | .rangeFunc .., Q, σ, a, w, hok, h, hs => by cases hok
  | .scope _, Q, σ, a, w, hok, h, hs => by cases hok
  | .label _, Q, σ, a, w, hok, h, hs => by cases hok
  | .goto _, Q, σ, a, w, hok, h, hs => by cases hok
  | .refuse _, Q, σ, a, w, hok, h, hs => by cases hok


theorem trC_seq {x y : LC} {c : Code} (h : LC.seq x y = trC P c) : ∃ cx cy, c = .seq cx cy ∧ x = trC P cx ∧ y = trC P cy := by
  cases c with
  | seq cx cy => simp only [trC, LC.seq.injEq] at h; exact ⟨cx, cy, rfl, h.1, h.2⟩
  | region rid ops draw => simp only [trC] at h; split at h <;> cases h
  | _ => cases h
theorem trC_cond {r : Rd} {x y : LC} {c : Code} (h : LC.cond r x y = trC P c) : ∃ co cx cy, c = .cond co cx cy ∧ r = rdOf co ∧ x = trC P cx ∧ y = trC P cy := by
  cases c with
  | cond co cx cy => simp only [trC, LC.cond.injEq] at h; exact ⟨co, cx, cy, rfl, h.1, h.2.1, h.2.2⟩
  | region rid ops draw => simp only [trC] at h; split at h <;> cases h
  | _ => cases h
theorem trC_block {id : Nat} {x : LC} {c : Code} (h : LC.block id x = trC P c) : ∃ cx, c = .block id cx ∧ x = trC P cx := by
  cases c with
  | block i cx => simp only [trC, LC.block.injEq] at h; obtain ⟨rfl, h⟩ := h; exact ⟨cx, rfl, h⟩
  | region rid ops draw => simp only [trC] at h; split at h <;> cases h
  | _ => cases h
theorem trC_loop {x : LC} {c : Code} (h : LC.loop x = trC P c) : ∃ cx, c = .loop cx ∧ x = trC P cx := by
  cases c with
  | loop cx => simp only [trC, LC.loop.injEq] at h; exact ⟨cx, rfl, h⟩
  | region rid ops draw => simp only [trC] at h; split at h <;> cases h
  | _ => cases h

theorem trC_rego {rid : Nat} {os : List LOp} {c : Code} (h : LC.rego rid os = trC P c) : ∃ ops : Array Oper, c = .region rid ops false ∧ os = ops.toList.map (trO P ops) := by
  cases c with
  | region r ops draw =>
    simp only [trC] at h
    cases draw with
    | true => cases h
    | false =>
      simp only [Bool.false_eq_true, if_false, LC.rego.injEq] at h
      obtain ⟨rfl, h⟩ := h
      exact ⟨ops, rfl, h⟩
  | _ => cases h

theorem vcg_sound : ∀ (lc : LC) (c : Code) (Q : Exit → St → Prop) (σ : St) (a : Act) (w : World), lc.erase = trC P c → codeOk P E.N c (trC P c) = true → vcg P lc Q σ → Sim E σ a w → c.wp P (simQ E Q) a w
  | .keep ls x, c, Q, σ, a, w, he, hok, h, hs => vcg_sound x c Q (σ.keep ls) a w he hok h (hs.le (keep_le σ ls))
  | .skip, c, Q, σ, a, w, he, hok, h, hs => vcg_sound0 c Q σ a w hok (he ▸ h) hs
  | .reg .., c, Q, σ, a, w, he, hok, h, hs => vcg_sound0 c Q σ a w hok (he ▸ h) hs
  | .rego .., c, Q, σ, a, w, he, hok, h, hs => vcg_sound0 c Q σ a w hok (he ▸ h) hs
  | .regb rid os, c, Q, σ, a, w, he, hok, h, hs => by
    obtain ⟨ops, rfl, ho⟩ := trC_rego he
    simp only [trC, codeOk, Bool.and_eq_true, Bool.false_eq_true, if_false] at hok
    refine wp_region ?_
    rw [List.range_eq_range']
    exact orderedB_sound (KL := Q .normal) hok.1 (fun σ' a' w' h' hs' => ⟨σ', hs', h'⟩) os ops.size 0 σ a w (by omega) (by simpa using ho) h hs
  | .exit _, c, Q, σ, a, w, he, hok, h, hs => vcg_sound0 c Q σ a w hok (he ▸ h) hs
  | .ret, c, Q, σ, a, w, he, hok, h, hs => vcg_sound0 c Q σ a w hok (he ▸ h) hs
  | .bad, c, Q, σ, a, w, he, hok, h, hs => h.elim
  | .seq lx ly, c, Q, σ, a, w, he, hok, h, hs => by
    obtain ⟨x, y, rfl, ex, ey⟩ := trC_seq he
    simp only [trC, codeOk, Bool.and_eq_true] at hok
    refine wp_seq (wp_mono (vcg_sound lx x _ σ a w ex hok.1 h hs) ?_)
    rintro e a' w' ⟨σ', hs', hq⟩
    cases e with
    | normal => exact vcg_sound ly y Q σ' a' w' ey hok.2 hq hs'
    | _ => exact ⟨σ', hs', hq⟩
  | .join lx ly, c, Q, σ, a, w, he, hok, h, hs => by
    obtain ⟨x, y, rfl, ex, ey⟩ := trC_seq he
    simp only [trC, codeOk, Bool.and_eq_true] at hok
    obtain ⟨I, h1, h2⟩ := h
    refine wp_seq (wp_mono (vcg_sound lx x _ σ a w ex hok.1 h1 hs) ?_)
    rintro e a' w' ⟨σ', hs', hq⟩
    cases e with
    | normal =>
      obtain ⟨σ2, he2, hI⟩ := hq
      exact vcg_sound ly y Q σ2 a' w' ey hok.2 (h2 σ2 hI) (he2 _ _ _ hs')
    | _ => exact ⟨σ', hs', hq⟩
  | .cond r lx ly, c0, Q, σ, a, w, he, hok, h, hs => by
    obtain ⟨c, x, y, rfl, rfl, ex, ey⟩ := trC_cond he
    simp only [trC, codeOk, Bool.and_eq_true] at hok
    have hc : ∃ b, a.eval c = .bool b ∧ (b = true → vcg P lx Q σ) ∧ (b = false → vcg P ly Q σ) := by
      obtain ⟨g, hs⟩ := hs
      have hr := rep_rd hs.tm c
      simp only [vcg, condV] at h
      generalize (rdOf c).get σ.tm = C at hr h
      cases C with
      | bool b => exact ⟨b, hr.bool_inv, (fun e => by subst e; exact h), (fun e => by subst e; exact h)⟩
      | _ => exact h.elim
    obtain ⟨b, hb, h1, h2⟩ := hc
    exact wp_cond_split hb (fun e => vcg_sound lx x Q σ a w ex hok.1 (h1 e) hs) (fun e => vcg_sound ly y Q σ a w ey hok.2 (h2 e) hs)
  | .block id lx, c0, Q, σ, a, w, he, hok, h, hs => by
    obtain ⟨x, rfl, ex⟩ := trC_block he
    simp only [trC, codeOk] at hok
    refine wp_block (wp_mono (vcg_sound lx x _ σ a w ex hok h hs) ?_)
    rintro e a' w' ⟨σ', hs', hq⟩
    cases e with
    | exit i =>
      simp only [blockQ] at hq
      simp only [Exit.inBlock]
      split
      · rename_i e; rw [if_pos e] at hq; exact ⟨σ', hs', hq⟩
      · rename_i e; rw [if_neg e] at hq; exact ⟨σ', hs', hq⟩
    | _ => exact ⟨σ', hs', hq⟩
  | .loop lx, c0, Q, σ, a, w, he, hok, h, hs => by
    obtain ⟨x, rfl, ex⟩ := trC_loop he
    simp only [trC, codeOk] at hok
    obtain ⟨I, ⟨n, σ0, hle, h0⟩, hround⟩ := h
    intro b k cs
    have key : ∀ n (a : Act) (w : World), (∃ σ, Sim E σ a w ∧ I n σ) →
        ∃ e a' w', simQ E Q e a' w' ∧ Arrives P (lone (b.at a (.code x :: .inLoop x :: k)) cs w) b k cs e a' w' := by
      intro n
      induction n using Nat.strongRecOn with
      | _ n ih =>
        rintro a w ⟨σ1, hs1, hI⟩
        obtain ⟨e, a₁, w₁, ⟨σ2, hs2, hq⟩, harr⟩ := vcg_sound lx x _ σ1 a w ex hok (hround n σ1 hI) hs1 b (.inLoop x :: k) cs
        cases e with
        | normal =>
          obtain ⟨m, σ3, hlt, hle3, hI3⟩ := hq
          obtain ⟨e₂, a₂, w₂, hq₂, harr₂⟩ := ih m hlt a₁ w₁ ⟨σ3, hle3 _ _ _ hs2, hI3⟩
          exact ⟨e₂, a₂, w₂, hq₂, .of_steps (Steps.trans harr (.one step_inLoop)) harr₂⟩
        | exit id => exact ⟨_, a₁, w₁, ⟨σ2, hs2, hq⟩, .pass (x := .inLoop x) rfl (fun _ _ => .inl (by simp)) harr⟩
        | goto l => exact ⟨_, a₁, w₁, ⟨σ2, hs2, hq⟩, .pass (x := .inLoop x) rfl (fun _ _ => .inl (by simp)) harr⟩
        | ret => exact ⟨_, a₁, w₁, ⟨σ2, hs2, hq⟩, .pass (x := .inLoop x) rfl (fun _ _ => .inl (by simp)) harr⟩
        | panic ch => exact ⟨_, a₁, w₁, ⟨σ2, hs2, hq⟩, .pass (x := .inLoop x) rfl (fun _ _ => .inl (by simp)) harr⟩
        | outgrown => exact ⟨_, a₁, w₁, ⟨σ2, hs2, hq⟩, .pass (x := .inLoop x) rfl (fun _ _ => .inl (by simp)) harr⟩
    obtain ⟨e, a', w', hq, harr⟩ := key n a w ⟨σ0, hle _ _ _ hs, h0⟩
    exact ⟨e, a', w', hq, .of_steps (.one step_loop) harr⟩

end
end Go.Lg

/-
  From what is shown of a body to what a call of the function does.
-/
set_option linter.unusedSimpArgs false
set_option linter.unusedVariables false
namespace Go.Lg
open Go Go.RowKit

inductive LRV where
  | tmp (t : Nat)
  | cell (t : Nat) (agg : Bool) (n : Nat)

def trRv (P : Program) : ResultVar → Option LRV
  | .tmp t => if t < HB then some (.tmp t) else none
  | .cell t T => do
    let n ← szT P T
    let g ← aggOf P T
    if t < HB then pure (.cell t g n) else none
def trRs (P : Program) (fn : Func) : Option (List LRV) := fn.results.toList.mapM (trRv P)

/-- All closed facts of a function: how many slots, its body, its results. -/
def fnData (P : Program) (f : FuncId) : Option (Nat × LC × List LRV) := do
  let fn ← P.funcs[f]?
  let c ← fn.body
  let rs ← trRs P fn
  if entersOk P f && (decide (fn.ntmps ≤ HB) && codeOk P fn.ntmps c (trC P c)) then pure (fn.ntmps, trC P c, rs) else none

def rval (σ : St) : LRV → Option V
  | .tmp t => some (σ.tm t)
  | .cell t agg n => match lload agg n σ.H (σ.tm t) with
    | .A _ v => some v
    | _ => none

def rvals (σ : St) : List LRV → Option V
  | [x] => rval σ x
  | xs => (xs.mapM (rval σ)).map V.tup

def argTm (args : List V) : Nat → V := fun t => args.getD t .junk
def noH : Heap := fun _ => none
def noC : Nat → Nat := fun _ => 0

section
variable {P : Program} {g : Gh} {E : Env} {σ : St} {a : Act} {w : World}

theorem rval_run (hs : SimG E g σ a w) {x : ResultVar} {y : LRV} {v : V} (hx : trRv P x = some y) (hv : rval σ y = some v) :
    ∃ u, (match x with
      | .tmp t => pure (a.tmps.getD t undef)
      | .cell b t => do loadVar t (← asAddr (a.tmps.getD b undef)) : Sem Value).run P w = .ok u w ∧ Rep g w u v := by
  cases x with
  | tmp t =>
    simp only [trRv] at hx
    split at hx
    · rename_i hb
      cases hx
      cases hv
      have := hs.tm t
      rw [slotV_lo hb] at this
      exact ⟨_, rfl, this⟩
    · cases hx
  | cell t T =>
    simp only [trRv, Option.bind_eq_bind, Option.bind_eq_some_iff] at hx
    obtain ⟨n, hn, agg, hagg, hy⟩ := hx
    split at hy
    case isFalse => cases hy
    rename_i hb
    cases hy
    simp only [rval] at hv
    have ht := hs.tm t
    rw [slotV_lo hb] at ht
    have hok := load_pure (P := P) hs hn hagg ht
    generalize hl : lload agg n σ.H (σ.tm t) = L at hv hok
    cases L with
    | A pre v1 =>
      simp only [Option.some.injEq] at hv
      subst hv
      have hpre : pre := by
        generalize hX : σ.tm t = X at hl
        cases X with
        | ip cs off =>
          simp only [lload, LRes.ofOpt] at hl
          split at hl
          · cases hl; trivial
          · cases hl
        | mp key gen off =>
          simp only [lload] at hl
          split at hl
          · split at hl
            · simp only [LRes.ofOpt] at hl
              split at hl
              · cases hl; trivial
              · cases hl
            · cases hl
          · cases hl
        | _ => cases hl
      have hptr : ∃ ad, a.tmps.getD t undef = .pointer (some ad) := by
        generalize σ.tm t = X at hl ht
        cases X with
        | ip cs off => obtain ⟨b, o, us, T, fz, e, _⟩ := ht.ip_inv; exact ⟨_, e⟩
        | mp key gen off => obtain ⟨b, cap, _, e⟩ := ht.mp_inv; exact ⟨_, e⟩
        | _ => cases hl
      obtain ⟨ad, had⟩ := hptr
      obtain ⟨u, hr, hrep⟩ := hok hpre
      rw [had] at hr
      have hla : (Instr.loadAt T (.pointer (some ad))) = loadVar T ad := rfl
      rw [hla] at hr
      exact ⟨u, by simp only [had, asAddr]; simpa using hr, hrep⟩
    | _ => cases hv

theorem rvals_run (hs : SimG E g σ a w) {fn : Func} {rs : List LRV} {v : V} (hrs : trRs P fn = some rs) (hv : rvals σ rs = some v) :
    ∃ u, (results fn a.tmps).run P w = .ok u w ∧ Rep g w u v := by
  have all : ∀ (xs : List ResultVar) (rs : List LRV) (vs : List V), xs.mapM (trRv P) = some rs → rs.mapM (rval σ) = some vs →
      ∃ us : List Value, (xs.mapM (fun
        | .tmp t => pure (a.tmps.getD t undef)
        | .cell b t => do loadVar t (← asAddr (a.tmps.getD b undef)) : ResultVar → Sem Value)).run P w = .ok us w ∧ us.length = vs.length ∧ ∀ (j : Nat) (u : Value) (c : V), us[j]? = some u → vs[j]? = some c → Rep g w u c := by
    intro xs
    induction xs with
    | nil =>
      intro rs vs h1 h2
      simp at h1; subst h1
      simp at h2; subst h2
      exact ⟨[], by simp, rfl, fun j u c h => by simp at h⟩
    | cons x xs ih =>
      intro rs vs h1 h2
      rw [List.mapM_cons] at h1
      simp only [Option.bind_eq_bind, Option.bind_eq_some_iff] at h1
      obtain ⟨y, hy, rs', hrs', h1⟩ := h1
      cases h1
      rw [List.mapM_cons] at h2
      simp only [Option.bind_eq_bind, Option.bind_eq_some_iff] at h2
      obtain ⟨v, hv, vs', hvs', h2⟩ := h2
      cases h2
      obtain ⟨u, hu1, hu2⟩ := rval_run hs hy hv
      obtain ⟨us, hus, hl, hr⟩ := ih rs' vs' hrs' hvs'
      refine ⟨u :: us, ?_, by simp [hl], fun j u' c hu' hc => ?_⟩
      · rw [List.mapM_cons, Sem.run_bind, hu1, Result.andThen_ok, Sem.run_bind, hus, Result.andThen_ok]; rfl
      · cases j with
        | zero => simp at hu' hc; subst hu' hc; exact hu2
        | succ j => exact hr j u' c hu' hc
  unfold trRs at hrs
  have fin : ∀ vs, rs.mapM (rval σ) = some vs → ∃ us : List Value, us.length = vs.length ∧ (∀ (j : Nat) (u : Value) (c : V), us[j]? = some u → vs[j]? = some c → Rep g w u c) ∧
      (results fn a.tmps).run P w = .ok (if h : us.toArray.size = 1 then us.toArray[0] else .tuple us.toArray) w := by
    intro vs hvs
    obtain ⟨us, hus, hl, hr⟩ := all _ _ _ hrs hvs
    refine ⟨us, hl, hr, ?_⟩
    unfold results
    rw [Sem.run_bind, Array.mapM_eq_mapM_toList, Sem.run_map]
    erw [hus]
    rfl
  have many : ∀ rs', rs = rs' → rs'.length ≠ 1 → (rs'.mapM (rval σ)).map V.tup = some v → ∃ u, (results fn a.tmps).run P w = .ok u w ∧ Rep g w u v := by
    intro rs' e hne h
    subst e
    rw [Option.map_eq_some_iff] at h
    obtain ⟨vs, hvs, rfl⟩ := h
    obtain ⟨us, hl, hr, hrun⟩ := fin vs hvs
    have hlen : vs.length = rs.length := (mapM_spec hvs).1
    rw [dif_neg (by simp; omega)] at hrun
    exact ⟨_, hrun, .tup _ _ (by simpa using hl) fun j u c hu hc => hr j u c (by simpa using hu) hc⟩
  cases rs with
  | nil => exact many [] rfl (by simp) hv
  | cons y r =>
    cases r with
    | nil =>
      have hvs : [y].mapM (rval σ) = some [v] := by
        simp only [rvals] at hv
        simp [List.mapM_cons, hv]
      obtain ⟨us, hl, hr, hrun⟩ := fin [v] hvs
      match us, hl with
      | [u], _ =>
        rw [dif_pos (by simp)] at hrun
        exact ⟨u, by simpa using hrun, hr 0 u v rfl rfl⟩
    | cons y2 r => exact many _ rfl (by simp) hv

/-- What holds of the result behind a body. -/
def retK (rs : List LRV) (R : V → St → Prop) : Exit → St → Prop
  | .normal, σ | .ret, σ => ∃ v, rvals σ rs = some v ∧ R v σ
  | _, _ => False

theorem fn_core {f : FuncId} {args : List V} {N : Nat} {lc : LC} {rs : List LRV} {R : V → St → Prop} (hf : fnData P f = some (N, lc.erase, rs)) (hn : args.length ≤ N)
    (h : vcg P lc (retK rs R) ⟨argTm args, noH, noC⟩) : entersOk P f = true ∧ ∀ (imm : Nat → Prop) (w : World) (vs : Array Value), (∀ b, imm b → b < w.heap.size) → vs.size = args.length →
    (∀ (j : Nat) (u : Value) (c : V), vs[j]? = some u → args[j]? = some c → RepI imm w u c) →
    Calls P f vs w fun e w' => ∃ n g σ' a' u v, SimG ⟨w.heap.size, n, w, imm, fun _ => False, fun _ _ => none, fun _ => undef⟩ g σ' a' w' ∧ Rep g w' u v ∧ R v σ' ∧ e = .returned u := by
  unfold fnData at hf
  simp only [Option.bind_eq_bind, Option.bind_eq_some_iff] at hf
  obtain ⟨fn, hfn, c, hc, rs', hrs, hf⟩ := hf
  split at hf
  case isFalse => cases hf
  rename_i hchk
  have hf := Option.some.inj hf
  injection hf with e1 e2
  injection e2 with he e3
  obtain rfl := e3.symm
  subst e1
  simp only [Bool.and_eq_true] at hchk
  obtain ⟨hen, hnt, hok⟩ := hchk
  have hnt : fn.ntmps ≤ HB := of_decide_eq_true hnt
  refine ⟨hen, fun imm w vs himm hsz hargs => ?_⟩
  refine calls_of_wp hfn hc ?_
  let E : Env := ⟨w.heap.size, fn.ntmps, w, imm, fun _ => False, fun _ _ => none, fun _ => undef⟩
  have hs : Sim E ⟨argTm args, noH, noC⟩ { tmps := vs ++ Array.replicate (fn.ntmps - vs.size) undef, defers := [] } w := by
    refine ⟨⟨imm, fun _ _ => none⟩, .refl _ _ _, Nat.le_refl _, ⟨by simp [E]; omega, hnt⟩, rfl, fun t => ?_, himm, fun b h => h, fun b _ h => h, (fun k o h => by cases h), (fun k k' o o' b h => by cases h), fun s n _ => ⟨rfl, fun _ => rfl⟩, fun _ _ _ _ h => h⟩
    simp only [argTm]
    by_cases ht : t < args.length
    · have ht' : t < vs.size := by omega
      rw [slotV_lo (by omega)]
      have e1 : (vs ++ Array.replicate (fn.ntmps - vs.size) undef).getD t undef = vs[t] := by
        simp [Array.getD_eq_getD_getElem?, Array.getElem?_append, ht']
      have e2 : args.getD t .junk = args[t] := by simp [ht]
      rw [e1, e2]
      exact .imm _ _ (hargs t _ _ (Array.getElem?_eq_getElem ht') (List.getElem?_eq_getElem ht))
    · have e2 : args.getD t .junk = .junk := by simp [ht]
      rw [e2]; exact .junk _ _ _
  refine wp_mono (vcg_sound lc c _ _ _ w (E := E) he.symm hok h hs) ?_
  have fin : ∀ (a' : Act) (w' : World) (σ' : St), Sim E σ' a' w' → (∃ v, rvals σ' rs = some v ∧ R v σ') →
      a'.defers = [] ∧ ∃ v, (results fn a'.tmps).run P w' = .ok v w' ∧ ∃ n g σ1 a1 u v', SimG ⟨w.heap.size, n, w, imm, fun _ => False, fun _ _ => none, fun _ => undef⟩ g σ1 a1 w' ∧ Rep g w' u v' ∧ R v' σ1 ∧ Ending.returned v = .returned u := by
    rintro a' w' σ' ⟨g, hs'⟩ ⟨v, hv, hR⟩
    obtain ⟨u, hu, hrep⟩ := rvals_run hs' hrs hv
    exact ⟨hs'.defers, u, hu, fn.ntmps, g, σ', a', u, v, hs', hrep, hR, rfl⟩
  rintro e a' w' ⟨σ', hs', hq⟩
  cases e with
  | normal => exact fin a' w' σ' hs' hq
  | ret => exact fin a' w' σ' hs' hq
  | _ => exact hq.elim

/-- The state in which a callee begins that works on the caller's objects: the caller's slots wait. -/
def callTm (args : List V) (tm : Nat → V) : Nat → V := fun t => if t < HB then args.getD t .junk else if (t - HB) % 2 = 0 then (if (t - HB) / 2 < HB then tm ((t - HB) / 2) else .junk) else tm (HB + (t - HB) / 2)
def St.call (σ : St) (args : List V) : St := ⟨callTm args σ.tm, σ.H, σ.cnt⟩
/-- The caller's state behind such a call. -/
def backTm (tm : Nat → V) : Nat → V := fun t => if t < HB then tm (HB + 2 * t) else tm (HB + (2 * (t - HB) + 1))
def St.back (σ : St) : St := ⟨backTm σ.tm, σ.H, σ.cnt⟩

theorem pst_intro {f : FuncId} {args : List V} {σ0 : St} {N : Nat} {lc : LC} {rs : List LRV} {R : V → St → Prop} (hf : fnData P f = some (N, lc.erase, rs)) (hn : args.length ≤ N)
    (h : vcg P lc (retK rs fun v σ1 => R v σ1.back) (σ0.call args)) : PSt P f args σ0 R := by
  unfold fnData at hf
  simp only [Option.bind_eq_bind, Option.bind_eq_some_iff] at hf
  obtain ⟨fn, hfn, c, hc, rs', hrs, hf⟩ := hf
  split at hf
  case isFalse => cases hf
  rename_i hchk
  have hf := Option.some.inj hf
  injection hf with e1 e2
  injection e2 with he e3
  obtain rfl := e3.symm
  subst e1
  simp only [Bool.and_eq_true] at hchk
  obtain ⟨hen, hnt, hok⟩ := hchk
  have hnt : fn.ntmps ≤ HB := of_decide_eq_true hnt
  refine ⟨hen, fun E0 g0 a0 w vs hs0 hsz hargs => ?_⟩
  refine calls_of_wp hfn hc ?_
  let E : Env := { E0 with N := fn.ntmps, up := fun k => if k % 2 = 0 then a0.tmps.getD (k / 2) undef else E0.up (k / 2) }
  have hs : Sim E (σ0.call args) { tmps := vs ++ Array.replicate (fn.ntmps - vs.size) undef, defers := [] } w := by
    refine ⟨g0, hs0.below, hs0.sizeB, ⟨by simp [E]; omega, hnt⟩, rfl, fun t => ?_, hs0.immlt, hs0.imm0, hs0.immB, hs0.obj, hs0.apart, hs0.fresh, hs0.ref0⟩
    simp only [St.call, callTm]
    by_cases hb : t < HB
    · rw [if_pos hb, slotV_lo hb]
      by_cases ht : t < args.length
      · have ht' : t < vs.size := by omega
        have e1 : (vs ++ Array.replicate (fn.ntmps - vs.size) undef).getD t undef = vs[t] := by
          simp [Array.getD_eq_getD_getElem?, Array.getElem?_append, ht']
        have e2 : args.getD t .junk = args[t] := by simp [ht]
        rw [e1, e2]
        exact hargs t _ _ (Array.getElem?_eq_getElem ht') (List.getElem?_eq_getElem ht)
      · have e2 : args.getD t .junk = .junk := by simp [ht]
        rw [e2]; exact .junk _ _ _
    · obtain ⟨k, rfl⟩ : ∃ k, t = HB + k := ⟨t - HB, by omega⟩
      rw [if_neg hb, slotV_hi, Nat.add_sub_cancel_left]
      simp only [E]
      by_cases h2 : k % 2 = 0
      · rw [if_pos h2, if_pos h2]
        split
        · rename_i h3
          have := hs0.tm (k / 2)
          rw [slotV_lo h3] at this
          exact this
        · exact .junk _ _ _
      · rw [if_neg h2, if_neg h2]
        have := hs0.tm (HB + k / 2)
        rw [slotV_hi] at this
        exact this
  refine wp_mono (vcg_sound lc c _ _ _ w (E := E) he.symm hok h hs) ?_
  have fin : ∀ (a' : Act) (w' : World) (σ' : St), Sim E σ' a' w' → (∃ v, rvals σ' rs = some v ∧ R v σ'.back) →
      a'.defers = [] ∧ ∃ v, (results fn a'.tmps).run P w' = .ok v w' ∧ ∃ u v' σ1 g', Ending.returned v = .returned u ∧ SimG E0 g' σ1 a0 w' ∧ Rep g' w' u v' ∧ R v' σ1 := by
    rintro a' w' σ' ⟨g, hs'⟩ ⟨v, hv, hR⟩
    obtain ⟨u, hu, hrep⟩ := rvals_run hs' hrs hv
    refine ⟨hs'.defers, u, hu, u, v, σ'.back, g, rfl, ⟨hs'.below, hs'.sizeB, hs0.size, hs0.defers, fun t => ?_, hs'.immlt, hs'.imm0, hs'.immB, hs'.obj, hs'.apart, hs'.fresh, hs'.ref0⟩, hrep, hR⟩
    simp only [St.back, backTm]
    by_cases hb : t < HB
    · rw [if_pos hb, slotV_lo hb]
      have := hs'.tm (HB + 2 * t)
      rw [slotV_hi] at this
      simp only [E] at this
      rw [if_pos (by omega), show 2 * t / 2 = t by omega] at this
      exact this
    · obtain ⟨k, rfl⟩ : ∃ k, t = HB + k := ⟨t - HB, by omega⟩
      rw [if_neg hb, slotV_hi, Nat.add_sub_cancel_left]
      have := hs'.tm (HB + (2 * k + 1))
      rw [slotV_hi] at this
      simp only [E] at this
      rw [if_neg (by omega), show (2 * k + 1) / 2 = k by omega] at this
      exact this
  rintro e a' w' ⟨σ', hs', hq⟩
  cases e with
  | normal => exact fin a' w' σ' hs' hq
  | ret => exact fin a' w' σ' hs' hq
  | _ => exact hq.elim

theorem allImm_from {B N : Nat} {w₀ : World} {imm : Nat → Prop} {g : Gh} {σ : St} {a : Act} {w : World} (hs : SimG ⟨B, N, w₀, imm, fun _ => False, fun _ _ => none, fun _ => undef⟩ g σ a w) (b : Nat) (hb : allImm g σ.H b) : imm b ∨ (B ≤ b ∧ b < w.heap.size) := by
  have hlt := allImm_lt hs b hb
  rcases Nat.lt_or_ge b B with hB | hB
  · left
    rcases hb with hb | ⟨key, o, hk, hb⟩
    · exact hs.immB b hB hb
    · have : B ≤ b := by
        rcases ((hs.obj key o hk).blk hb).2.2 with h | h
        · exact h
        · exact h.2.elim
      omega
  · exact .inr ⟨hB, hlt⟩

theorem pret_intro {f : FuncId} {args : List V} {r : V} {N : Nat} {lc : LC} {rs : List LRV} (hf : fnData P f = some (N, lc.erase, rs)) (hn : args.length ≤ N)
    (h : vcg P lc (retK rs fun v σ => snap σ.H 8 v = r) ⟨argTm args, noH, noC⟩) : PRet P f args r := by
  obtain ⟨hen, hc⟩ := fn_core hf hn h
  refine ⟨hen, fun imm w vs h1 h2 h3 => (hc imm w vs h1 h2 h3).mono ?_⟩
  rintro e w' ⟨n, g, σ', a', u, v, hs', hrep, rfl, rfl⟩
  exact ⟨u, allImm g σ'.H, rfl, snap_rep hs' 8 hrep, hs'.below.below, fun b hb => .inl (hs'.imm0 b hb), allImm_from hs'⟩

theorem PRetF.ret {f : FuncId} {args : List V} {r : V} (h : PRetF P f args r) : PRet P f args r := by
  refine ⟨h.1, fun imm w vs h1 h2 h3 => (h.2 imm w vs h1 h2 h3).mono ?_⟩
  rintro e w' ⟨v, imm', rfl, hv, hb, hi⟩
  exact ⟨v, fun b => imm b ∨ imm' b, rfl, hv.mono (fun b h => .inr h) (fun _ _ => rfl), hb, fun b h => .inl h, fun b h => h.imp id (hi b)⟩
theorem pretF_intro {f : FuncId} {args : List V} {r : V} {N : Nat} {lc : LC} {rs : List LRV} (hf : fnData P f = some (N, lc.erase, rs)) (hn : args.length ≤ N)
    (h : vcg P lc (retK rs fun v σ => snap σ.H 8 v = r ∧ frs σ.H 8 v = true) ⟨argTm args, noH, noC⟩) : PRetF P f args r := by
  obtain ⟨hen, hc⟩ := fn_core hf hn h
  refine ⟨hen, fun imm w vs h1 h2 h3 => (hc imm w vs h1 h2 h3).mono ?_⟩
  rintro e w' ⟨n, g, σ', a', u, v, hs', hrep, ⟨rfl, hfr⟩, rfl⟩
  refine ⟨u, ownI g σ'.H, rfl, frs_rep hs' 8 hrep hfr, hs'.below.below, fun b hb => ?_⟩
  obtain ⟨key, o, hk, hb⟩ := hb
  have := (hs'.obj key o hk).blk hb
  refine ⟨?_, this.1⟩
  rcases this.2.2 with h | h
  · exact h
  · exact h.2.elim

/-- An empty slice, as any slice. -/
def slOf : V → V
  | .e0 => .sl 0 []
  | v => v
theorem RepI.slOf {imm : Nat → Prop} {w : World} {u : Value} {x : V} (h : RepI imm w u x) : RepI imm w u (slOf x) := by
  cases x with
  | e0 => cases h with | e0 A => exact .sl0 _ _
  | _ => exact h
/-- As 'pret_intro', for slices. -/
theorem pret_intro_l {f : FuncId} {args : List V} {r : V} {N : Nat} {lc : LC} {rs : List LRV} (hf : fnData P f = some (N, lc.erase, rs)) (hn : args.length ≤ N)
    (h : vcg P lc (retK rs fun v σ => slOf (snap σ.H 8 v) = r) ⟨argTm args, noH, noC⟩) : PRet P f args r := by
  obtain ⟨hen, hc⟩ := fn_core hf hn h
  refine ⟨hen, fun imm w vs h1 h2 h3 => (hc imm w vs h1 h2 h3).mono ?_⟩
  rintro e w' ⟨n, g, σ', a', u, v, hs', hrep, rfl, rfl⟩
  exact ⟨u, allImm g σ'.H, rfl, (snap_rep hs' 8 hrep).slOf, hs'.below.below, fun b hb => .inl (hs'.imm0 b hb), allImm_from hs'⟩

def hdel (H : Heap) (k : Key) : Heap := fun x => if x = k then none else H x

/-- The result is an object of the running call. -/
def ownR (esz n : Nat) (cs : List V) (v : V) (σ : St) : Prop := match v with
  | .msl key g off m => match σ.H key with
    | some (.row g' esz' cs') => (g' = g ∧ esz' = esz ∧ off = 0 ∧ m = n ∧ cs'.length = n * esz) ∧ cs = cs'.map (snap (hdel σ.H key) 8)
    | _ => False
  | _ => False

theorem pretM_intro {f : FuncId} {args : List V} {esz n : Nat} {cs : List V} {N : Nat} {lc : LC} {rs : List LRV} (hf : fnData P f = some (N, lc.erase, rs)) (hn : args.length ≤ N) (hlen : cs.length = n * esz)
    (h : vcg P lc (retK rs (ownR esz n cs)) ⟨argTm args, noH, noC⟩) : PRetM P f args esz n cs := by
  obtain ⟨hen, hc⟩ := fn_core hf hn h
  refine ⟨hen, hlen, fun imm w vs h1 h2 h3 => (hc imm w vs h1 h2 h3).mono ?_⟩
  rintro e w' ⟨n', g, σ', a', u, v, hs', hrep, hR, rfl⟩
  cases v with
  | msl key gen off m =>
    simp only [ownR] at hR
    split at hR
    case h_2 => exact hR.elim
    rename_i g' esz' cs' hk
    obtain ⟨⟨rfl, rfl, rfl, rfl, hl'⟩, rfl⟩ := hR
    obtain ⟨c, A, blk, cap, rfl, q1, q2, q3, q4, q5⟩ := hrep.msl_inv
    obtain rfl := q2 rfl
    obtain ⟨blk', cap', r1, r2, r3⟩ := hs'.obj key _ hk
    rw [q1] at r1; cases r1
    have hle : St.le ⟨σ'.tm, hdel σ'.H key, σ'.cnt⟩ σ' := ⟨fun _ => .inl rfl, fun k o h => by
      simp only [hdel] at h
      split at h
      · cases h
      · exact h, fun _ => Nat.le_refl _⟩
    have hsd := hs'.le hle
    refine ⟨A, c, blk, allImm g (hdel σ'.H key), rfl, hs'.below.below, fun b hb => .inl (hs'.imm0 b hb), fun b hb => allImm_from hsd b hb, q3, fun b hb hc => by rw [q4 b hb hc], ?_⟩
    cases blk with
    | none => exact ⟨by rw [r3.1]; rfl, r3.2⟩
    | some b =>
      obtain ⟨p1, p2, p3, us, T, fz, t1, t2, t3, t4, t5⟩ := r3
      refine ⟨(by
        rcases p1 with h | h
        · exact h
        · exact h.2.elim), p2, ?_, us, T, fz, t1, t2, by simpa using t3, t4, fun j u x hu hx => ?_⟩
      · rintro (hb | ⟨k, o, hko, hb⟩)
        · exact p3 hb
        · have hk2 : σ'.H k = some o := hle.H k o hko
          have := hs'.apart k key o _ b hk2 hk hb (by simp [blkOf, q1])
          subst this
          simp [hdel] at hko
      · rw [List.getElem?_map, Option.map_eq_some_iff] at hx
        obtain ⟨x0, hx0, rfl⟩ := hx
        exact snap_rep hsd 8 (t5 j u x0 hu hx0)
  | _ => exact hR.elim

end
end Go.Lg
