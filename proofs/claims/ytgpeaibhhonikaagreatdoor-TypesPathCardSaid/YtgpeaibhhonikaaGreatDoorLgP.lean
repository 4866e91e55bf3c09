/-
  From what is shown of a body to what a call of the function does.
-/
import Derived.Test.YtgpeaibhhonikaaGreatDoorLgO
set_option linter.unusedSimpArgs false
set_option linter.unusedVariables false
namespace Go.Lg
open Go Go.RowKit

inductive LRV where
  | tmp (t : Nat)
  | cell (t : Nat) (agg : Bool) (n : Nat)

def trRv (P : Program) : ResultVar → Option LRV
  | .tmp t => if t < HB then some (.tmp t) else none
  | .cell t T => do
    let n ← szT P T
    let g ← aggOf P T
    if t < HB then pure (.cell t g n) else none
def trRs (P : Program) (fn : Func) : Option (List LRV) := fn.results.toList.mapM (trRv P)

/-- All closed facts of a function: how many slots, its body, its results. -/
def fnData (P : Program) (f : FuncId) : Option (Nat × LC × List LRV) := do
  let fn ← P.funcs[f]?
  let c ← fn.body
  let rs ← trRs P fn
  if entersOk P f && (decide (fn.ntmps ≤ HB) && codeOk P fn.ntmps c (trC P c)) then pure (fn.ntmps, trC P c, rs) else none

def rval (σ : St) : LRV → Option V
  | .tmp t => some (σ.tm t)
  | .cell t agg n => match lload agg n σ.H (σ.tm t) with
    | .A _ v => some v
    | _ => none

def rvals (σ : St) : List LRV → Option V
  | [x] => rval σ x
  | xs => (xs.mapM (rval σ)).map V.tup

def argTm (args : List V) : Nat → V := fun t => args.getD t .junk
def noH : Heap := fun _ => none
def noC : Nat → Nat := fun _ => 0

section
variable {P : Program} {g : Gh} {E : Env} {σ : St} {a : Act} {w : World}

theorem rval_run (hs : SimG E g σ a w) {x : ResultVar} {y : LRV} {v : V} (hx : trRv P x = some y) (hv : rval σ y = some v) :
    ∃ u, (match x with
      | .tmp t => pure (a.tmps.getD t undef)
      | .cell b t => do loadVar t (← asAddr (a.tmps.getD b undef)) : Sem Value).run P w = .ok u w ∧ Rep g w u v := by
  cases x with
  | tmp t =>
    simp only [trRv] at hx
    split at hx
    · rename_i hb
      cases hx
      cases hv
      have := hs.tm t
      rw [slotV_lo hb] at this
      exact ⟨_, rfl, this⟩
    · cases hx
  | cell t T =>
    simp only [trRv, Option.bind_eq_bind, Option.bind_eq_some_iff] at hx
    obtain ⟨n, hn, agg, hagg, hy⟩ := hx
    split at hy
    case isFalse => cases hy
    rename_i hb
    cases hy
    simp only [rval] at hv
    have ht := hs.tm t
    rw [slotV_lo hb] at ht
    have hok := load_pure (P := P) hs hn hagg ht
    generalize hl : lload agg n σ.H (σ.tm t) = L at hv hok
    cases L with
    | A pre v1 =>
      simp only [Option.some.injEq] at hv
      subst hv
      have hpre : pre := by
        generalize hX : σ.tm t = X at hl
        cases X with
        | ip cs off =>
          simp only [lload, LRes.ofOpt] at hl
          split at hl
          · cases hl; trivial
          · cases hl
        | mp key gen off =>
          simp only [lload] at hl
          split at hl
          · split at hl
            · simp only [LRes.ofOpt] at hl
              split at hl
              · cases hl; trivial
              · cases hl
            · cases hl
          · cases hl
        | _ => cases hl
      have hptr : ∃ ad, a.tmps.getD t undef = .pointer (some ad) := by
        generalize σ.tm t = X at hl ht
        cases X with
        | ip cs off => obtain ⟨b, o, us, T, fz, e, _⟩ := ht.ip_inv; exact ⟨_, e⟩
        | mp key gen off => obtain ⟨b, cap, _, e⟩ := ht.mp_inv; exact ⟨_, e⟩
        | _ => cases hl
      obtain ⟨ad, had⟩ := hptr
      obtain ⟨u, hr, hrep⟩ := hok hpre
      rw [had] at hr
      have hla : (Instr.loadAt T (.pointer (some ad))) = loadVar T ad := rfl
      rw [hla] at hr
      exact ⟨u, by simp only [had, asAddr]; simpa using hr, hrep⟩
    | _ => cases hv

theorem rvals_run (hs : SimG E g σ a w) {fn : Func} {rs : List LRV} {v : V} (hrs : trRs P fn = some rs) (hv : rvals σ rs = some v) :
    ∃ u, (results fn a.tmps).run P w = .ok u w ∧ Rep g w u v := by
  have all : ∀ (xs : List ResultVar) (rs : List LRV) (vs : List V), xs.mapM (trRv P) = some rs → rs.mapM (rval σ) = some vs →
      ∃ us : List Value, (xs.mapM (fun
        | .tmp t => pure (a.tmps.getD t undef)
        | .cell b t => do loadVar t (← asAddr (a.tmps.getD b undef)) : ResultVar → Sem Value)).run P w = .ok us w ∧ us.length = vs.length ∧ ∀ (j : Nat) (u : Value) (c : V), us[j]? = some u → vs[j]? = some c → Rep g w u c := by
    intro xs
    induction xs with
    | nil =>
      intro rs vs h1 h2
      simp at h1; subst h1
      simp at h2; subst h2
      exact ⟨[], by simp, rfl, fun j u c h => by simp at h⟩
    | cons x xs ih =>
      intro rs vs h1 h2
      rw [List.mapM_cons] at h1
      simp only [Option.bind_eq_bind, Option.bind_eq_some_iff] at h1
      obtain ⟨y, hy, rs', hrs', h1⟩ := h1
      cases h1
      rw [List.mapM_cons] at h2
      simp only [Option.bind_eq_bind, Option.bind_eq_some_iff] at h2
      obtain ⟨v, hv, vs', hvs', h2⟩ := h2
      cases h2
      obtain ⟨u, hu1, hu2⟩ := rval_run hs hy hv
      obtain ⟨us, hus, hl, hr⟩ := ih rs' vs' hrs' hvs'
      refine ⟨u :: us, ?_, by simp [hl], fun j u' c hu' hc => ?_⟩
      · rw [List.mapM_cons, Sem.run_bind, hu1, Result.andThen_ok, Sem.run_bind, hus, Result.andThen_ok]; rfl
      · cases j with
        | zero => simp at hu' hc; subst hu' hc; exact hu2
        | succ j => exact hr j u' c hu' hc
  unfold trRs at hrs
  have fin : ∀ vs, rs.mapM (rval σ) = some vs → ∃ us : List Value, us.length = vs.length ∧ (∀ (j : Nat) (u : Value) (c : V), us[j]? = some u → vs[j]? = some c → Rep g w u c) ∧
      (results fn a.tmps).run P w = .ok (if h : us.toArray.size = 1 then us.toArray[0] else .tuple us.toArray) w := by
    intro vs hvs
    obtain ⟨us, hus, hl, hr⟩ := all _ _ _ hrs hvs
    refine ⟨us, hl, hr, ?_⟩
    unfold results
    rw [Sem.run_bind, Array.mapM_eq_mapM_toList, Sem.run_map]
    erw [hus]
    rfl
  have many : ∀ rs', rs = rs' → rs'.length ≠ 1 → (rs'.mapM (rval σ)).map V.tup = some v → ∃ u, (results fn a.tmps).run P w = .ok u w ∧ Rep g w u v := by
    intro rs' e hne h
    subst e
    rw [Option.map_eq_some_iff] at h
    obtain ⟨vs, hvs, rfl⟩ := h
    obtain ⟨us, hl, hr, hrun⟩ := fin vs hvs
    have hlen : vs.length = rs.length := (mapM_spec hvs).1
    rw [dif_neg (by simp; omega)] at hrun
    exact ⟨_, hrun, .tup _ _ (by simpa using hl) fun j u c hu hc => hr j u c (by simpa using hu) hc⟩
  cases rs with
  | nil => exact many [] rfl (by simp) hv
  | cons y r =>
    cases r with
    | nil =>
      have hvs : [y].mapM (rval σ) = some [v] := by
        simp only [rvals] at hv
        simp [List.mapM_cons, hv]
      obtain ⟨us, hl, hr, hrun⟩ := fin [v] hvs
      match us, hl with
      | [u], _ =>
        rw [dif_pos (by simp)] at hrun
        exact ⟨u, by simpa using hrun, hr 0 u v rfl rfl⟩
    | cons y2 r => exact many _ rfl (by simp) hv

/-- What holds of the result behind a body. -/
def retK (rs : List LRV) (R : V → St → Prop) : Exit → St → Prop
  | .normal, σ | .ret, σ => ∃ v, rvals σ rs = some v ∧ R v σ
  | _, _ => False

theorem fn_core {f : FuncId} {args : List V} {N : Nat} {lc : LC} {rs : List LRV} {R : V → St → Prop} (hf : fnData P f = some (N, lc.erase, rs)) (hn : args.length ≤ N)
    (h : vcg P lc (retK rs R) ⟨argTm args, noH, noC⟩) : entersOk P f = true ∧ ∀ (imm : Nat → Prop) (w : World) (vs : Array Value), Imm0 P imm w → vs.size = args.length →
    (∀ (j : Nat) (u : Value) (c : V), vs[j]? = some u → args[j]? = some c → RepI imm w u c) →
    Calls P f vs w fun e w' => ∃ n g σ' a' u v, SimG ⟨w.heap.size, n, w, imm, fun _ => False, fun _ _ => none, fun _ => undef⟩ g σ' a' w' ∧ Rep g w' u v ∧ R v σ' ∧ e = .returned u := by
  unfold fnData at hf
  simp only [Option.bind_eq_bind, Option.bind_eq_some_iff] at hf
  obtain ⟨fn, hfn, c, hc, rs', hrs, hf⟩ := hf
  split at hf
  case isFalse => cases hf
  rename_i hchk
  have hf := Option.some.inj hf
  injection hf with e1 e2
  injection e2 with he e3
  obtain rfl := e3.symm
  subst e1
  simp only [Bool.and_eq_true] at hchk
  obtain ⟨hen, hnt, hok⟩ := hchk
  have hnt : fn.ntmps ≤ HB := of_decide_eq_true hnt
  refine ⟨hen, fun imm w vs himm hsz hargs => ?_⟩
  refine calls_of_wp hfn hc ?_
  let E : Env := ⟨w.heap.size, fn.ntmps, w, imm, fun _ => False, fun _ _ => none, fun _ => undef⟩
  haveI : EOk P E := EOk.start himm.2 _ _ _ _
  have hs : Sim E ⟨argTm args, noH, noC⟩ { tmps := vs ++ Array.replicate (fn.ntmps - vs.size) undef, defers := [] } w := by
    refine ⟨⟨imm, fun _ _ => none⟩, .refl _ _ _, Nat.le_refl _, ⟨by simp [E]; omega, hnt⟩, rfl, fun t => ?_, himm.1, fun b h => h, fun b _ h => h, (fun k o h => by cases h), (fun k k' o o' b h => by cases h), fun s n _ => ⟨rfl, fun _ => rfl⟩, fun _ _ _ _ h => h⟩
    simp only [argTm]
    by_cases ht : t < args.length
    · have ht' : t < vs.size := by omega
      rw [slotV_lo (by omega)]
      have e1 : (vs ++ Array.replicate (fn.ntmps - vs.size) undef).getD t undef = vs[t] := by
        simp [Array.getD_eq_getD_getElem?, Array.getElem?_append, ht']
      have e2 : args.getD t .junk = args[t] := by simp [ht]
      rw [e1, e2]
      exact .imm _ _ (hargs t _ _ (Array.getElem?_eq_getElem ht') (List.getElem?_eq_getElem ht))
    · have e2 : args.getD t .junk = .junk := by simp [ht]
      rw [e2]; exact .junk _ _ _
  refine wp_mono (vcg_sound lc c _ _ _ w (E := E) he.symm hok h hs) ?_
  have fin : ∀ (a' : Act) (w' : World) (σ' : St), Sim E σ' a' w' → (∃ v, rvals σ' rs = some v ∧ R v σ') →
      a'.defers = [] ∧ ∃ v, (results fn a'.tmps).run P w' = .ok v w' ∧ ∃ n g σ1 a1 u v', SimG ⟨w.heap.size, n, w, imm, fun _ => False, fun _ _ => none, fun _ => undef⟩ g σ1 a1 w' ∧ Rep g w' u v' ∧ R v' σ1 ∧ Ending.returned v = .returned u := by
    rintro a' w' σ' ⟨g, hs'⟩ ⟨v, hv, hR⟩
    obtain ⟨u, hu, hrep⟩ := rvals_run hs' hrs hv
    exact ⟨hs'.defers, u, hu, fn.ntmps, g, σ', a', u, v, hs', hrep, hR, rfl⟩
  rintro e a' w' ⟨σ', hs', hq⟩
  cases e with
  | normal => exact fin a' w' σ' hs' hq
  | ret => exact fin a' w' σ' hs' hq
  | _ => exact hq.elim

/-- The state in which a callee begins that works on the caller's objects: the caller's slots wait. -/
def callTm (args : List V) (tm : Nat → V) : Nat → V := fun t => if t < HB then args.getD t .junk else if (t - HB) % 2 = 0 then (if (t - HB) / 2 < HB then tm ((t - HB) / 2) else .junk) else tm (HB + (t - HB) / 2)
def St.call (σ : St) (args : List V) : St := ⟨callTm args σ.tm, σ.H, σ.cnt⟩
/-- The caller's state behind such a call. -/
def backTm (tm : Nat → V) : Nat → V := fun t => if t < HB then tm (HB + 2 * t) else tm (HB + (2 * (t - HB) + 1))
def St.back (σ : St) : St := ⟨backTm σ.tm, σ.H, σ.cnt⟩

theorem pst_intro {f : FuncId} {args : List V} {σ0 : St} {N : Nat} {lc : LC} {rs : List LRV} {R : V → St → Prop} (hf : fnData P f = some (N, lc.erase, rs)) (hn : args.length ≤ N)
    (h : vcg P lc (retK rs fun v σ1 => R v σ1.back) (σ0.call args)) : PSt P f args σ0 R := by
  unfold fnData at hf
  simp only [Option.bind_eq_bind, Option.bind_eq_some_iff] at hf
  obtain ⟨fn, hfn, c, hc, rs', hrs, hf⟩ := hf
  split at hf
  case isFalse => cases hf
  rename_i hchk
  have hf := Option.some.inj hf
  injection hf with e1 e2
  injection e2 with he e3
  obtain rfl := e3.symm
  subst e1
  simp only [Bool.and_eq_true] at hchk
  obtain ⟨hen, hnt, hok⟩ := hchk
  have hnt : fn.ntmps ≤ HB := of_decide_eq_true hnt
  refine ⟨hen, fun E0 hE0 g0 a0 w vs hs0 hsz hargs => ?_⟩
  refine calls_of_wp hfn hc ?_
  let E : Env := { E0 with N := fn.ntmps, up := fun k => if k % 2 = 0 then a0.tmps.getD (k / 2) undef else E0.up (k / 2) }
  haveI : EOk P E := ⟨hE0.ok⟩
  have hs : Sim E (σ0.call args) { tmps := vs ++ Array.replicate (fn.ntmps - vs.size) undef, defers := [] } w := by
    refine ⟨g0, hs0.below, hs0.sizeB, ⟨by simp [E]; omega, hnt⟩, rfl, fun t => ?_, hs0.immlt, hs0.imm0, hs0.immB, hs0.obj, hs0.apart, hs0.fresh, hs0.ref0⟩
    simp only [St.call, callTm]
    by_cases hb : t < HB
    · rw [if_pos hb, slotV_lo hb]
      by_cases ht : t < args.length
      · have ht' : t < vs.size := by omega
        have e1 : (vs ++ Array.replicate (fn.ntmps - vs.size) undef).getD t undef = vs[t] := by
          simp [Array.getD_eq_getD_getElem?, Array.getElem?_append, ht']
        have e2 : args.getD t .junk = args[t] := by simp [ht]
        rw [e1, e2]
        exact hargs t _ _ (Array.getElem?_eq_getElem ht') (List.getElem?_eq_getElem ht)
      · have e2 : args.getD t .junk = .junk := by simp [ht]
        rw [e2]; exact .junk _ _ _
    · obtain ⟨k, rfl⟩ : ∃ k, t = HB + k := ⟨t - HB, by omega⟩
      rw [if_neg hb, slotV_hi, Nat.add_sub_cancel_left]
      simp only [E]
      by_cases h2 : k % 2 = 0
      · rw [if_pos h2, if_pos h2]
        split
        · rename_i h3
          have := hs0.tm (k / 2)
          rw [slotV_lo h3] at this
          exact this
        · exact .junk _ _ _
      · rw [if_neg h2, if_neg h2]
        have := hs0.tm (HB + k / 2)
        rw [slotV_hi] at this
        exact this
  refine wp_mono (vcg_sound lc c _ _ _ w (E := E) he.symm hok h hs) ?_
  have fin : ∀ (a' : Act) (w' : World) (σ' : St), Sim E σ' a' w' → (∃ v, rvals σ' rs = some v ∧ R v σ'.back) →
      a'.defers = [] ∧ ∃ v, (results fn a'.tmps).run P w' = .ok v w' ∧ ∃ u v' σ1 g', Ending.returned v = .returned u ∧ SimG E0 g' σ1 a0 w' ∧ Rep g' w' u v' ∧ R v' σ1 := by
    rintro a' w' σ' ⟨g, hs'⟩ ⟨v, hv, hR⟩
    obtain ⟨u, hu, hrep⟩ := rvals_run hs' hrs hv
    refine ⟨hs'.defers, u, hu, u, v, σ'.back, g, rfl, ⟨hs'.below, hs'.sizeB, hs0.size, hs0.defers, fun t => ?_, hs'.immlt, hs'.imm0, hs'.immB, hs'.obj, hs'.apart, hs'.fresh, hs'.ref0⟩, hrep, hR⟩
    simp only [St.back, backTm]
    by_cases hb : t < HB
    · rw [if_pos hb, slotV_lo hb]
      have := hs'.tm (HB + 2 * t)
      rw [slotV_hi] at this
      simp only [E] at this
      rw [if_pos (by omega), show 2 * t / 2 = t by omega] at this
      exact this
    · obtain ⟨k, rfl⟩ : ∃ k, t = HB + k := ⟨t - HB, by omega⟩
      rw [if_neg hb, slotV_hi, Nat.add_sub_cancel_left]
      have := hs'.tm (HB + (2 * k + 1))
      rw [slotV_hi] at this
      simp only [E] at this
      rw [if_neg (by omega), show (2 * k + 1) / 2 = k by omega] at this
      exact this
  rintro e a' w' ⟨σ', hs', hq⟩
  cases e with
  | normal => exact fin a' w' σ' hs' hq
  | ret => exact fin a' w' σ' hs' hq
  | _ => exact hq.elim

theorem allImm_from {B N : Nat} {w₀ : World} {imm : Nat → Prop} {g : Gh} {σ : St} {a : Act} {w : World} (hs : SimG ⟨B, N, w₀, imm, fun _ => False, fun _ _ => none, fun _ => undef⟩ g σ a w) (b : Nat) (hb : allImm g σ.H b) : imm b ∨ (B ≤ b ∧ b < w.heap.size) := by
  have hlt := allImm_lt hs b hb
  rcases Nat.lt_or_ge b B with hB | hB
  · left
    rcases hb with hb | ⟨key, o, hk, hb⟩
    · exact hs.immB b hB hb
    · have : B ≤ b := by
        rcases ((hs.obj key o hk).blk hb).2.2 with h | h
        · exact h
        · exact h.2.elim
      omega
  · exact .inr ⟨hB, hlt⟩

theorem pret_intro {f : FuncId} {args : List V} {r : V} {N : Nat} {lc : LC} {rs : List LRV} (hf : fnData P f = some (N, lc.erase, rs)) (hn : args.length ≤ N)
    (h : vcg P lc (retK rs fun v σ => snap σ.H 8 v = r) ⟨argTm args, noH, noC⟩) : PRet P f args r := by
  obtain ⟨hen, hc⟩ := fn_core hf hn h
  refine ⟨hen, fun imm w vs h1 h2 h3 => (hc imm w vs h1 h2 h3).mono ?_⟩
  rintro e w' ⟨n, g, σ', a', u, v, hs', hrep, rfl, rfl⟩
  exact ⟨u, allImm g σ'.H, rfl, snap_rep hs' 8 hrep, hs'.below.below, fun b hb => .inl (hs'.imm0 b hb), allImm_from hs'⟩

theorem PRetF.ret {f : FuncId} {args : List V} {r : V} (h : PRetF P f args r) : PRet P f args r := by
  refine ⟨h.1, fun imm w vs h1 h2 h3 => (h.2 imm w vs h1 h2 h3).mono ?_⟩
  rintro e w' ⟨v, imm', rfl, hv, hb, hi⟩
  exact ⟨v, fun b => imm b ∨ imm' b, rfl, hv.mono (fun b h => .inr h) (fun _ _ => rfl), hb, fun b h => .inl h, fun b h => h.imp id (hi b)⟩
theorem pretF_intro {f : FuncId} {args : List V} {r : V} {N : Nat} {lc : LC} {rs : List LRV} (hf : fnData P f = some (N, lc.erase, rs)) (hn : args.length ≤ N)
    (h : vcg P lc (retK rs fun v σ => snap σ.H 8 v = r ∧ frs σ.H 8 v = true) ⟨argTm args, noH, noC⟩) : PRetF P f args r := by
  obtain ⟨hen, hc⟩ := fn_core hf hn h
  refine ⟨hen, fun imm w vs h1 h2 h3 => (hc imm w vs h1 h2 h3).mono ?_⟩
  rintro e w' ⟨n, g, σ', a', u, v, hs', hrep, ⟨rfl, hfr⟩, rfl⟩
  refine ⟨u, ownI g σ'.H, rfl, frs_rep hs' 8 hrep hfr, hs'.below.below, fun b hb => ?_⟩
  obtain ⟨key, o, hk, hb⟩ := hb
  have := (hs'.obj key o hk).blk hb
  refine ⟨?_, this.1⟩
  rcases this.2.2 with h | h
  · exact h
  · exact h.2.elim

/-- An empty slice, as any slice. -/
def slOf : V → V
  | .e0 => .sl 0 []
  | v => v
theorem RepI.slOf {imm : Nat → Prop} {w : World} {u : Value} {x : V} (h : RepI imm w u x) : RepI imm w u (slOf x) := by
  cases x with
  | e0 => cases h with | e0 A => exact .sl0 _ _
  | _ => exact h
/-- As 'pret_intro', for slices. -/
theorem pret_intro_l {f : FuncId} {args : List V} {r : V} {N : Nat} {lc : LC} {rs : List LRV} (hf : fnData P f = some (N, lc.erase, rs)) (hn : args.length ≤ N)
    (h : vcg P lc (retK rs fun v σ => slOf (snap σ.H 8 v) = r) ⟨argTm args, noH, noC⟩) : PRet P f args r := by
  obtain ⟨hen, hc⟩ := fn_core hf hn h
  refine ⟨hen, fun imm w vs h1 h2 h3 => (hc imm w vs h1 h2 h3).mono ?_⟩
  rintro e w' ⟨n, g, σ', a', u, v, hs', hrep, rfl, rfl⟩
  exact ⟨u, allImm g σ'.H, rfl, (snap_rep hs' 8 hrep).slOf, hs'.below.below, fun b hb => .inl (hs'.imm0 b hb), allImm_from hs'⟩

def hdel (H : Heap) (k : Key) : Heap := fun x => if x = k then none else H x

/-- The result is an object of the running call. -/
def ownR (esz n : Nat) (cs : List V) (v : V) (σ : St) : Prop := match v with
  | .msl key g off m => match σ.H key with
    | some (.row g' esz' cs') => (g' = g ∧ esz' = esz ∧ off = 0 ∧ m = n ∧ cs'.length = n * esz) ∧ cs = cs'.map (snap (hdel σ.H key) 8)
    | _ => False
  | _ => False

theorem pretM_intro {f : FuncId} {args : List V} {esz n : Nat} {cs : List V} {N : Nat} {lc : LC} {rs : List LRV} (hf : fnData P f = some (N, lc.erase, rs)) (hn : args.length ≤ N) (hlen : cs.length = n * esz)
    (h : vcg P lc (retK rs (ownR esz n cs)) ⟨argTm args, noH, noC⟩) : PRetM P f args esz n cs := by
  obtain ⟨hen, hc⟩ := fn_core hf hn h
  refine ⟨hen, hlen, fun imm w vs h1 h2 h3 => (hc imm w vs h1 h2 h3).mono ?_⟩
  rintro e w' ⟨n', g, σ', a', u, v, hs', hrep, hR, rfl⟩
  cases v with
  | msl key gen off m =>
    simp only [ownR] at hR
    split at hR
    case h_2 => exact hR.elim
    rename_i g' esz' cs' hk
    obtain ⟨⟨rfl, rfl, rfl, rfl, hl'⟩, rfl⟩ := hR
    obtain ⟨c, A, blk, cap, rfl, q1, q2, q3, q4, q5⟩ := hrep.msl_inv
    obtain rfl := q2 rfl
    obtain ⟨blk', cap', r1, r2, r3⟩ := hs'.obj key _ hk
    rw [q1] at r1; cases r1
    have hle : St.le ⟨σ'.tm, hdel σ'.H key, σ'.cnt⟩ σ' := ⟨fun _ => .inl rfl, fun k o h => by
      simp only [hdel] at h
      split at h
      · cases h
      · exact h, fun _ => Nat.le_refl _⟩
    have hsd := hs'.le hle
    refine ⟨A, c, blk, allImm g (hdel σ'.H key), rfl, hs'.below.below, fun b hb => .inl (hs'.imm0 b hb), fun b hb => allImm_from hsd b hb, q3, fun b hb hc => by rw [q4 b hb hc], ?_⟩
    cases blk with
    | none => exact ⟨by rw [r3.1]; rfl, r3.2⟩
    | some b =>
      obtain ⟨p1, p2, p3, us, T, fz, t1, t2, t3, t4, t5⟩ := r3
      refine ⟨(by
        rcases p1 with h | h
        · exact h
        · exact h.2.elim), p2, ?_, us, T, fz, t1, t2, by simpa using t3, t4, fun j u x hu hx => ?_⟩
      · rintro (hb | ⟨k, o, hko, hb⟩)
        · exact p3 hb
        · have hk2 : σ'.H k = some o := hle.H k o hko
          have := hs'.apart k key o _ b hk2 hk hb (by simp [blkOf, q1])
          subst this
          simp [hdel] at hko
      · rw [List.getElem?_map, Option.map_eq_some_iff] at hx
        obtain ⟨x0, hx0, rfl⟩ := hx
        exact snap_rep hsd 8 (t5 j u x0 hu hx0)
  | _ => exact hR.elim

end
end Go.Lg
