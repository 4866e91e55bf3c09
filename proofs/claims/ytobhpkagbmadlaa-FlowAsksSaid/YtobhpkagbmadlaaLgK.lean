/-
  Regions: one walk in the text's order serves every order that the model may draw.
-/
import Derived.Test.YtobhpkagbmadlaaLgJ
import Derived.Orders
set_option linter.unusedSimpArgs false
set_option linter.unusedVariables false
namespace Go.Lg
open Go Go.RowKit

/-- A function that is given immutable values hands back just this, leaves all that was there alone. -/
def PRet (P : Program) (f : FuncId) (args : List V) (r : V) : Prop :=
  entersOk P f = true ∧ ∀ (imm : Nat → Prop) (w : World) (vs : Array Value), (∀ b, imm b → b < w.heap.size) → vs.size = args.length →
    (∀ (j : Nat) (u : Value) (c : V), vs[j]? = some u → args[j]? = some c → RepI imm w u c) →
    Calls P f vs w fun e w' => ∃ v imm', e = .returned v ∧ RepI imm' w' v r ∧ Below w.heap.size w w' ∧ (∀ b, imm b → imm' b) ∧ (∀ b, imm' b → imm b ∨ (w.heap.size ≤ b ∧ b < w'.heap.size))

def St.put (σ : St) (d : Option Nat) (v : V) : St := ⟨dput σ.tm d v, σ.H, σ.cnt⟩

/-- A call: some result that the callee is known to hand back. -/
def callV (P : Program) (f : FuncId) (args sargs : List V) (d : Option Nat) (K : St → Prop) (σ : St) : Prop :=
  ∃ r, PRet P f sargs r ∧ (args = sargs ∨ flat 4 r = true) ∧ K (σ.put d r)

def vres (P : Program) (σ : St) (s : Nat) (d : Option Nat) (K : St → Prop) : LRes → Prop
  | .A pre v => pre ∧ K (σ.put d v)
  | .C pre o mk => pre ∧ K (St.put ⟨σ.tm, hupd σ.H (s, σ.cnt s) o, cupd σ.cnt s⟩ d (mk (s, σ.cnt s)))
  | .D pre v H' => pre ∧ K (St.put ⟨σ.tm, H', σ.cnt⟩ d v)
  | .call pre f args sargs => pre ∧ callV P f args sargs d K σ
  | .bad => False

structure LOp where
  dst : Option Nat
  op : IOp
  guard : Option (Nat × Bool)

/-- Does the guard let it run? -/
def gd (tm : Nat → V) : Option (Nat × Bool) → Option Bool
  | none => some true
  | some (t, want) => match tm t with
    | .bool b => some (b == want)
    | .tup [] => some false
    | _ => none

def vstep (P : Program) (s : Nat) (o : LOp) (K : St → Prop) (σ : St) : Prop :=
  match gd σ.tm o.guard with
  | some true => vres P σ s o.dst K (lop o.op σ.tm σ.H)
  | some false => K (σ.put o.dst (.tup []))
  | none => False

def trO (P : Program) (ops : Array Oper) (o : Oper) : LOp :=
  { dst := o.dst, op := tr P o, guard := match o.guard with | none => none | some (j, want) => some (((ops[j]?).bind (·.dst)).getD 0, want) }

section
variable {P : Program} {g : Gh} {w w' : World} {E : Env} {σ : St} {a : Act}

theorem snap_fix : ∀ (d : Nat) {v : Value} {x : V} {H : Heap}, Rep g w v x → snap H d x = x → RepI g.imm w v x := by
  intro d
  induction d with
  | zero =>
    intro v x H h e
    simp only [snap] at e
    subst e
    exact .junk _
  | succ d ih =>
    intro v x H h e
    have mapfix : ∀ (cs : List V), cs.map (snap H d) = cs → ∀ (j : Nat) (c : V), cs[j]? = some c → snap H d c = c := by
      intro cs hc j c hj
      have := congrArg (fun l => l[j]?) hc
      simp only [List.getElem?_map, hj, Option.map_some, Option.some.injEq] at this
      exact this
    cases h with
    | imm _ _ h => exact h
    | agg vs cs hs hr =>
      simp only [snap, V.agg.injEq] at e
      exact .agg vs cs hs fun j v c hv hc => ih (hr j v c hv hc) (mapfix cs e j c hc)
    | tup vs cs hs hr =>
      simp only [snap, V.tup.injEq] at e
      exact .tup vs cs hs fun j v c hv hc => ih (hr j v c hv hc) (mapfix cs e j c hc)
    | fn f vs cs hs hr =>
      simp only [snap, V.fn.injEq, true_and] at e
      exact .fn f vs cs hs fun j v c hv hc => ih (hr j v c hv hc) (mapfix cs e j c hc)
    | ifc t v x hr =>
      simp only [snap, V.ifc.injEq, true_and] at e
      exact .ifc t v x (ih hr e)
    | mp key gen off b cap hb =>
      simp only [snap] at e
      split at e
      · split at e <;> cases e
      · cases e
    | msl key gen off n c A blk cap h1 h2 h3 h4 h5 =>
      simp only [snap] at e
      split at e
      · split at e <;> cases e
      · cases e
    | msv key gen off n esz c A b cap h1 h2 h3 =>
      simp only [snap] at e
      split at e
      · split at e <;> cases e
      · cases e

/-- All objects of the running call, seen as if they never turned. -/
def allImm (g : Gh) (H : Heap) (b : Nat) : Prop := g.imm b ∨ ∃ key o, H key = some o ∧ blkOf g key o = some b

theorem allImm_lt (hs : SimG E g σ a w) : ∀ b, allImm g σ.H b → b < w.heap.size := by
  rintro b (h | ⟨key, o, hk, hb⟩)
  · exact hs.immlt b h
  · have ho := hs.obj key o hk
    cases o with
    | row gen esz cs =>
      obtain ⟨blk, cap, r1, r2, r3⟩ := ho
      simp only [blkOf, r1, Option.bind_some] at hb
      subst hb
      exact r3.2.1

theorem snap_rep (hs : SimG E g σ a w) : ∀ (d : Nat) {v : Value} {x : V}, Rep g w v x → RepI (allImm g σ.H) w v (snap σ.H d x) := by
  intro d
  induction d with
  | zero => intro v x h; exact .junk _
  | succ d ih =>
    intro v x h
    have up : ∀ {v x}, RepI g.imm w v x → RepI (allImm g σ.H) w v x := fun h => h.mono (fun _ h => .inl h) (fun _ _ => rfl)
    have maps : ∀ (cs : List V) (j : Nat) (c : V), (cs.map (snap σ.H d))[j]? = some c → ∃ c0, cs[j]? = some c0 ∧ snap σ.H d c0 = c := by
      intro cs j c hc
      simpa only [List.getElem?_map, Option.map_eq_some_iff] using hc
    cases x with
    | msv key gen off n esz' =>
      obtain ⟨c, A, b, cap, rfl, q1, q3, q4⟩ := h.msv_inv
      simp only [snap]
      cases hk : σ.H key with
      | none => exact .junk _
      | some o =>
        cases o with
        | row g' esz cs =>
          simp only []
          split
          · rename_i hc
            obtain ⟨rfl, hle⟩ := hc
            obtain ⟨blk', cap', r1, r2, r3⟩ := hs.obj key _ hk
            rw [q1] at r1; cases r1
            obtain ⟨p1, p2, p3, us, T, fz, t1, t2, t3, t4, t5⟩ := r3
            have hlen : (((cs.drop off).take (n * esz')).map (snap σ.H d)).length = n * esz' := by simp; omega
            by_cases hc0 : n = 0
            · subst hc0
              have : ((cs.drop off).take (0 * esz')).map (snap σ.H d) = [] := by simp
              rw [this]; exact .sl0 _ _
            · rw [q4 (by omega)]
              refine .sl b off n c us T fz _ (.inr ⟨key, _, hk, by simp [blkOf, q1]⟩) t1 (by omega) q3 fun j u x hu hx => ?_
              obtain ⟨x0, hx0, rfl⟩ := maps _ j x hx
              rw [List.getElem?_take] at hx0
              split at hx0
              · rw [List.getElem?_drop] at hx0
                exact ih (t5 _ u x0 hu hx0)
              · cases hx0
          · exact .junk _
    | msl key gen off n =>
      obtain ⟨c, A, blk, cap, rfl, q1, q2, q3, q4, q5⟩ := h.msl_inv
      simp only [snap]
      cases hk : σ.H key with
      | none => exact .junk _
      | some o =>
        cases o with
        | row g' esz cs =>
          simp only []
          split
          · rename_i hc
            obtain ⟨rfl, hle⟩ := hc
            obtain ⟨blk', cap', r1, r2, r3⟩ := hs.obj key _ hk
            rw [q1] at r1; cases r1
            have hlen : (((cs.drop off).take (n * esz)).map (snap σ.H d)).length = n * esz := by simp; omega
            cases blk with
            | none =>
              have hc0 := q5 rfl
              have hn : n = 0 := by omega
              subst hn
              have : ((cs.drop off).take (0 * esz)).map (snap σ.H d) = [] := by simp
              rw [this]; exact .sl0 _ _
            | some b =>
              obtain ⟨p1, p2, p3, us, T, fz, t1, t2, t3, t4, t5⟩ := r3
              by_cases hc0 : c = 0
              · have hn : n = 0 := by omega
                subst hn
                have : ((cs.drop off).take (0 * esz)).map (snap σ.H d) = [] := by simp
                rw [this]; exact .sl0 _ _
              · rw [q4 b rfl (by omega)]
                refine .sl b off n c us T fz _ (.inr ⟨key, _, hk, by simp [blkOf, q1]⟩) t1 (by omega) q3 fun j u x hu hx => ?_
                obtain ⟨x0, hx0, rfl⟩ := maps _ j x hx
                rw [List.getElem?_take] at hx0
                split at hx0
                · rw [List.getElem?_drop] at hx0
                  exact ih (t5 _ u x0 hu hx0)
                · cases hx0
          · exact .junk _
    | mp key gen off =>
      obtain ⟨b, cap, hb, rfl⟩ := h.mp_inv
      simp only [snap]
      cases hk : σ.H key with
      | none => exact .junk _
      | some o =>
        cases o with
        | row g' esz cs =>
          simp only []
          split
          · rename_i e; subst e
            obtain ⟨blk', cap', r1, r2, r3⟩ := hs.obj key _ hk
            rw [hb] at r1; cases r1
            obtain ⟨p1, p2, p3, us, T, fz, t1, t2, t3, t4, t5⟩ := r3
            have := RepI.ip (imm := allImm g σ.H) (w := w) b 0 off us T fz (cs.map (snap σ.H d)) (.inr ⟨key, _, hk, by simp [blkOf, hb]⟩) t1 (by simp; omega) (fun j u x hu hx => by
              obtain ⟨x0, hx0, rfl⟩ := maps _ j x hx
              exact ih (t5 j u x0 (by simpa using hu) hx0))
            simpa using this
          · exact .junk _
    | agg cs =>
      obtain ⟨vs, rfl, hl, hr⟩ := h.agg_inv
      exact .agg vs _ (by simpa using hl) fun j v c hv hc => by
        obtain ⟨c0, h0, rfl⟩ := maps _ j c hc
        exact ih (hr j v c0 hv h0)
    | tup cs =>
      obtain ⟨vs, rfl, hl, hr⟩ := h.tup_inv
      exact .tup vs _ (by simpa using hl) fun j v c hv hc => by
        obtain ⟨c0, h0, rfl⟩ := maps _ j c hc
        exact ih (hr j v c0 hv h0)
    | fn f cs =>
      obtain ⟨vs, rfl, hl, hr⟩ := h.fn_inv
      exact .fn f vs _ (by simpa using hl) fun j v c hv hc => by
        obtain ⟨c0, h0, rfl⟩ := maps _ j c hc
        exact ih (hr j v c0 hv h0)
    | ifc t x =>
      obtain ⟨u, rfl, hu⟩ := h.ifc_inv
      exact .ifc t u _ (ih hu)
    | _ => cases h with | imm _ _ h => exact up h

theorem flat_rep : ∀ (d : Nat) {imm imm' : Nat → Prop} {w w' : World} {v : Value} {x : V}, RepI imm w v x → flat d x = true → RepI imm' w' v x := by
  intro d
  induction d with
  | zero =>
    intro imm imm' w w' v x h hf
    cases h <;> first | (cases hf; done) | constructor
  | succ d ih =>
    intro imm imm' w w' v x h hf
    cases h with
    | agg vs cs hs hr => exact .agg vs cs hs fun j v c hv hc => ih (hr j v c hv hc) (List.all_eq_true.1 hf _ (List.mem_of_getElem? hc))
    | tup vs cs hs hr => exact .tup vs cs hs fun j v c hv hc => ih (hr j v c hv hc) (List.all_eq_true.1 hf _ (List.mem_of_getElem? hc))
    | fn f vs cs hs hr => exact .fn f vs cs hs fun j v c hv hc => ih (hr j v c hv hc) (List.all_eq_true.1 hf _ (List.mem_of_getElem? hc))
    | ifc t v x hr => exact .ifc t v x (ih hr hf)
    | sl0 => cases hf
    | sl => cases hf
    | ip => cases hf
    | _ => constructor

theorem SimG.put (hs : SimG E g σ a w) {d : Option Nat} (hd : ∀ t, d = some t → t < E.N) {u : Value} {v : V} (h : Rep g w u v) : SimG E g (σ.put d v) (a.put d u) w := by
  cases d with
  | none => exact hs
  | some d =>
    have hlt := hd d rfl
    refine ⟨hs.below, hs.sizeB, by simpa [Act.put] using hs.size, hs.defers, fun t => ?_, hs.immlt, hs.imm0, hs.immB, hs.obj, hs.apart, hs.fresh, hs.ref0⟩
    simp only [Act.put, St.put, dput, tupd]
    by_cases e : t = d
    · subst e
      have : t < a.tmps.size := by rw [hs.size]; exact hlt
      simp [this, h]
    · rw [if_neg e]
      have := hs.tm t
      simpa [Array.getElem?_setIfInBounds_ne (Ne.symm e)] using this

/-- One step, in whatever world. -/
theorem step_wp (hs : SimG E g σ a w) (o : Oper) (s : Nat) (hd : ∀ t, o.dst = some t → t < E.N) {K : St → Prop} {next : Act → World → Prop} {Q : Exit → Act → World → Prop}
    (h : vres P σ s o.dst K (lop (tr P o) σ.tm σ.H)) (hn : ∀ σ' a' w', K σ' → Sim E σ' a' w' → next a' w') : o.wp P a w next Q := by
  have hok := step_sound (P := P) hs o s
  unfold Oper.wp
  generalize lop (tr P o) σ.tm σ.H = r at h hok
  cases r with
  | A pre v =>
    obtain ⟨u, w', g', hr, hs', hrep⟩ := hok h.1
    rw [hr]
    exact hn _ _ _ h.2 ⟨g', hs'.put hd hrep⟩
  | C pre ob mk =>
    obtain ⟨u, w', g', hr, hs', hrep⟩ := hok h.1
    rw [hr]
    exact hn _ _ _ h.2 ⟨g', hs'.put hd hrep⟩
  | D pre v H' =>
    obtain ⟨n, w', g', hr, hv, hs'⟩ := hok h.1
    rw [hr]
    rcases hv with ⟨rfl, rfl⟩ | ⟨u, rfl, hu⟩
    · exact hn _ _ _ h.2 ⟨g', hs'.put hd (.junk _ _ undef)⟩
    · exact hn _ _ _ h.2 ⟨g', hs'.put hd hu⟩
  | call pre f args sargs =>
    obtain ⟨hpre, r, ⟨hen, hcall⟩, hfl, hk⟩ := h
    obtain ⟨vs, hr, hl, hrep, hsa, hso⟩ := hok hpre hen
    rw [hr]
    simp only [Oper.upon]
    rcases hfl with hfl | hfl
    · have hfix : ∀ (j : Nat) (c : V), args[j]? = some c → snap σ.H 8 c = c := by
        intro j c hj
        have := congrArg (fun l => l[j]?) (hfl.trans hsa)
        simp only [List.getElem?_map, hj, Option.map_some, Option.some.injEq] at this
        exact this.symm
      refine (hcall g.imm w vs hs.immlt (by rw [hl, hfl]) (fun j u c hu hc => snap_fix 8 (hrep j u c hu (by rw [hfl]; exact hc)) (hfix j c (by rw [hfl]; exact hc)))).mono ?_
      rintro e w' ⟨v, imm', rfl, hv, hb, h1, h2⟩
      exact hn _ _ _ hk ⟨⟨imm', g.ref⟩, (hs.grow hb h1 h2).put hd (.imm _ _ hv)⟩
    · refine (hcall (allImm g σ.H) w vs (allImm_lt hs) (by rw [hl, hsa]; simp) (fun j u c hu hc => ?_)).mono ?_
      · rw [hsa, List.getElem?_map, Option.map_eq_some_iff] at hc
        obtain ⟨c0, h0, rfl⟩ := hc
        exact snap_rep hs 8 (hrep j u c0 hu h0)
      · rintro e w' ⟨v, imm', rfl, hv, hb, h1, h2⟩
        exact hn _ _ _ hk ⟨g, (hs.grow_same hb).put hd (.imm _ _ (flat_rep 4 hv hfl))⟩
  | bad => exact h.elim

end
end Go.Lg
