/-
  Regions: one walk in the text's order serves every order that the model may draw.
-/
import Derived.Test.YtgpeaibhhonikaaGreatDoorLgJ
import Derived.Orders
set_option linter.unusedSimpArgs false
set_option linter.unusedVariables false
namespace Go.Lg
open Go Go.RowKit

/-- A function that is given immutable values hands back just this, leaves all that was there alone. -/
def PRet (P : Program) (f : FuncId) (args : List V) (r : V) : Prop :=
  entersOk P f = true ∧ ∀ (imm : Nat → Prop) (w : World) (vs : Array Value), Imm0 P imm w → vs.size = args.length →
    (∀ (j : Nat) (u : Value) (c : V), vs[j]? = some u → args[j]? = some c → RepI imm w u c) →
    Calls P f vs w fun e w' => ∃ v imm', e = .returned v ∧ RepI imm' w' v r ∧ BelowD w.heap.size w w' ∧ (∀ b, imm b → imm' b) ∧ (∀ b, imm' b → imm b ∨ (w.heap.size ≤ b ∧ b < w'.heap.size))

def St.put (σ : St) (d : Option Nat) (v : V) : St := ⟨dput σ.tm d v, σ.H, σ.cnt⟩

/-- The same, where what is handed back leads to new memory alone. -/
def PRetF (P : Program) (f : FuncId) (args : List V) (r : V) : Prop :=
  entersOk P f = true ∧ ∀ (imm : Nat → Prop) (w : World) (vs : Array Value), Imm0 P imm w → vs.size = args.length →
    (∀ (j : Nat) (u : Value) (c : V), vs[j]? = some u → args[j]? = some c → RepI imm w u c) →
    Calls P f vs w fun e w' => ∃ v imm', e = .returned v ∧ RepI imm' w' v r ∧ BelowD w.heap.size w w' ∧ (∀ b, imm' b → w.heap.size ≤ b ∧ b < w'.heap.size)
def resOk (P : Program) (f : FuncId) (args sargs : List V) (r : V) : Prop := (args = sargs ∨ flat 4 r = true) ∨ PRetF P f sargs r

/-- A call: some result that the callee is known to hand back. -/
def callV (P : Program) (f : FuncId) (args sargs : List V) (d : Option Nat) (K : St → Prop) (σ : St) : Prop :=
  ∃ r, PRet P f sargs r ∧ resOk P f args sargs r ∧ K (σ.put d r)

def vres (P : Program) (σ : St) (s : Nat) (d : Option Nat) (K : St → Prop) : LRes → Prop
  | .A pre v => pre ∧ K (σ.put d v)
  | .C pre o mk => pre ∧ K (St.put ⟨σ.tm, hupd σ.H (s, σ.cnt s) o, cupd σ.cnt s⟩ d (mk (s, σ.cnt s)))
  | .D pre v H' => pre ∧ K (St.put ⟨σ.tm, H', σ.cnt⟩ d v)
  | .call pre f args sargs => pre ∧ callV P f args sargs d K σ
  | .bad => False

structure LOp where
  dst : Option Nat
  op : IOp
  guard : Option (Nat × Bool)

/-- Does the guard let it run? -/
def gd (tm : Nat → V) : Option (Nat × Bool) → Option Bool
  | none => some true
  | some (t, want) => match tm t with
    | .bool b => some (b == want)
    | .tup [] => some false
    | _ => none

def vstep (P : Program) (s : Nat) (o : LOp) (K : St → Prop) (σ : St) : Prop :=
  match gd σ.tm o.guard with
  | some true => vres P σ s o.dst K (lop o.op σ.tm σ.H)
  | some false => K (σ.put o.dst (.tup []))
  | none => False

/-- Is it known to be a slice of no capacity? -/
def isE0 (P : Program) (ops : Array Oper) : Rd → Bool
  | .con .e0 => true
  | .tmp t => ops.toList.any fun o => (match o.dst with | some d => decide (d = t) | none => false) && (o.guard.isNone && match tr P o with | .bsl 0 _ _ => true | _ => false)
  | _ => false
/-- Is it a constant text's row of bytes? -/
def toB (ops : Array Oper) : Option Nat → Bool
  | none => false
  | some d => ops.toList.any fun o => match o.op with
    | .convert s t (.tmp x) => decide (s = t) && decide (x = d)
    | _ => false
def trE (P : Program) (ops : Array Oper) (o : Oper) : IOp := match tr P o with
  | .app e b x y => if isE0 P ops x then .appE e b x y else .app e b x y
  | .bsl n zs ps => if toB ops o.dst then .bslo n zs ps else .bsl n zs ps
  | i => i
def litR (op : IOp) (tm : Nat → V) : LRes := match op with
  | .bsl n zs ps => if n = 0 then .bad else .C (partsOk tm zs.length ps) (.row 0 (zs.length / n) (fillL tm zs ps)) fun k => .msl k 0 0 n
  | _ => .bad
theorem lop_trE (P : Program) (ops : Array Oper) (o : Oper) (tm : Nat → V) (H : Heap) : lop (trE P ops o) tm H = lop (tr P o) tm H ∨ lop (trE P ops o) tm H = .bad ∨ lop (trE P ops o) tm H = litR (tr P o) tm := by
  unfold trE
  cases tr P o with
  | app e b x y =>
    simp only []
    split
    · simp only [lop, lappE]
      generalize x.get tm = X
      cases X with
      | e0 => exact .inl rfl
      | _ => exact .inr (.inl rfl)
    · exact .inl rfl
  | bsl n zs ps =>
    simp only []
    split
    · exact .inr (.inr rfl)
    · exact .inl rfl
  | _ => exact .inl rfl
def trO (P : Program) (ops : Array Oper) (o : Oper) : LOp :=
  { dst := o.dst, op := trE P ops o, guard := match o.guard with | none => none | some (j, want) => some (((ops[j]?).bind (·.dst)).getD 0, want) }

section
variable {P : Program} {g : Gh} {w w' : World} {E : Env} [EOk P E] {σ : St} {a : Act}

theorem snap_fix : ∀ (d : Nat) {v : Value} {x : V} {H : Heap}, Rep g w v x → snap H d x = x → RepI g.imm w v x := by
  intro d
  induction d with
  | zero =>
    intro v x H h e
    simp only [snap] at e
    subst e
    exact .junk _
  | succ d ih =>
    intro v x H h e
    have mapfix : ∀ (cs : List V), cs.map (snap H d) = cs → ∀ (j : Nat) (c : V), cs[j]? = some c → snap H d c = c := by
      intro cs hc j c hj
      have := congrArg (fun l => l[j]?) hc
      simp only [List.getElem?_map, hj, Option.map_some, Option.some.injEq] at this
      exact this
    cases h with
    | imm _ _ h => exact h
    | agg vs cs hs hr =>
      simp only [snap, V.agg.injEq] at e
      exact .agg vs cs hs fun j v c hv hc => ih (hr j v c hv hc) (mapfix cs e j c hc)
    | tup vs cs hs hr =>
      simp only [snap, V.tup.injEq] at e
      exact .tup vs cs hs fun j v c hv hc => ih (hr j v c hv hc) (mapfix cs e j c hc)
    | fn f vs cs hs hr =>
      simp only [snap, V.fn.injEq, true_and] at e
      exact .fn f vs cs hs fun j v c hv hc => ih (hr j v c hv hc) (mapfix cs e j c hc)
    | ifc t v x hr =>
      simp only [snap, V.ifc.injEq, true_and] at e
      exact .ifc t v x (ih hr e)
    | mm key b cap hb =>
      simp only [snap] at e
      split at e <;> cases e
    | mp key gen off b cap hb =>
      simp only [snap] at e
      split at e
      · split at e <;> cases e
      · cases e
    | msl key gen off n c A blk cap h1 h2 h3 h4 h5 =>
      simp only [snap] at e
      split at e
      · split at e <;> cases e
      · cases e
    | msv key gen off n esz c A b cap h1 h2 h3 =>
      simp only [snap] at e
      split at e
      · split at e <;> cases e
      · cases e

/-- All objects of the running call, seen as if they never turned. -/
def allImm (g : Gh) (H : Heap) (b : Nat) : Prop := g.imm b ∨ ∃ key o, H key = some o ∧ blkOf g key o = some b

theorem allImm_lt (hs : SimG E g σ a w) : ∀ b, allImm g σ.H b → b < w.heap.size := by
  rintro b (h | ⟨key, o, hk, hb⟩)
  · exact hs.immlt b h
  · exact ((hs.obj key o hk).blk hb).1

theorem snap_rep (hs : SimG E g σ a w) : ∀ (d : Nat) {v : Value} {x : V}, Rep g w v x → RepI (allImm g σ.H) w v (snap σ.H d x) := by
  intro d
  induction d with
  | zero => intro v x h; exact .junk _
  | succ d ih =>
    intro v x h
    have up : ∀ {v x}, RepI g.imm w v x → RepI (allImm g σ.H) w v x := fun h => h.mono (fun _ h => .inl h) (fun _ _ => rfl)
    have maps : ∀ (cs : List V) (j : Nat) (c : V), (cs.map (snap σ.H d))[j]? = some c → ∃ c0, cs[j]? = some c0 ∧ snap σ.H d c0 = c := by
      intro cs j c hc
      simpa only [List.getElem?_map, Option.map_eq_some_iff] using hc
    cases x with
    | msv key gen off n esz' =>
      obtain ⟨c, A, b, cap, rfl, q1, q3, q4⟩ := h.msv_inv
      simp only [snap]
      cases hk : σ.H key with
      | none => exact .junk _
      | some o =>
        cases o with
        | map es => exact .junk _
        | row g' esz cs =>
          simp only []
          split
          · rename_i hc
            obtain ⟨rfl, hle⟩ := hc
            obtain ⟨blk', cap', r1, r2, r3⟩ := hs.obj key _ hk
            rw [q1] at r1; cases r1
            obtain ⟨p1, p2, p3, us, T, fz, t1, t2, t3, t4, t5⟩ := r3
            have hlen : (((cs.drop off).take (n * esz')).map (snap σ.H d)).length = n * esz' := by simp; omega
            by_cases hc0 : n = 0
            · subst hc0
              have : ((cs.drop off).take (0 * esz')).map (snap σ.H d) = [] := by simp
              rw [this]; exact .sl0 _ _
            · rw [q4 (by omega)]
              refine .sl b off n c us T fz _ (.inr ⟨key, _, hk, by simp [blkOf, q1]⟩) t1 (by omega) q3 fun j u x hu hx => ?_
              obtain ⟨x0, hx0, rfl⟩ := maps _ j x hx
              rw [List.getElem?_take] at hx0
              split at hx0
              · rw [List.getElem?_drop] at hx0
                exact ih (t5 _ u x0 hu hx0)
              · cases hx0
          · exact .junk _
    | msl key gen off n =>
      obtain ⟨c, A, blk, cap, rfl, q1, q2, q3, q4, q5⟩ := h.msl_inv
      simp only [snap]
      cases hk : σ.H key with
      | none => exact .junk _
      | some o =>
        cases o with
        | map es => exact .junk _
        | row g' esz cs =>
          simp only []
          split
          · rename_i hc
            obtain ⟨rfl, hle⟩ := hc
            obtain ⟨blk', cap', r1, r2, r3⟩ := hs.obj key _ hk
            rw [q1] at r1; cases r1
            have hlen : (((cs.drop off).take (n * esz)).map (snap σ.H d)).length = n * esz := by simp; omega
            cases blk with
            | none =>
              have hc0 := q5 rfl
              have hn : n = 0 := by omega
              subst hn
              have : ((cs.drop off).take (0 * esz)).map (snap σ.H d) = [] := by simp
              rw [this]; exact .sl0 _ _
            | some b =>
              obtain ⟨p1, p2, p3, us, T, fz, t1, t2, t3, t4, t5⟩ := r3
              by_cases hc0 : c = 0
              · have hn : n = 0 := by omega
                subst hn
                have : ((cs.drop off).take (0 * esz)).map (snap σ.H d) = [] := by simp
                rw [this]; exact .sl0 _ _
              · rw [q4 b rfl (by omega)]
                refine .sl b off n c us T fz _ (.inr ⟨key, _, hk, by simp [blkOf, q1]⟩) t1 (by omega) q3 fun j u x hu hx => ?_
                obtain ⟨x0, hx0, rfl⟩ := maps _ j x hx
                rw [List.getElem?_take] at hx0
                split at hx0
                · rw [List.getElem?_drop] at hx0
                  exact ih (t5 _ u x0 hu hx0)
                · cases hx0
          · exact .junk _
    | mp key gen off =>
      obtain ⟨b, cap, hb, rfl⟩ := h.mp_inv
      simp only [snap]
      cases hk : σ.H key with
      | none => exact .junk _
      | some o =>
        cases o with
        | map es => exact .junk _
        | row g' esz cs =>
          simp only []
          split
          · rename_i e; subst e
            obtain ⟨blk', cap', r1, r2, r3⟩ := hs.obj key _ hk
            rw [hb] at r1; cases r1
            obtain ⟨p1, p2, p3, us, T, fz, t1, t2, t3, t4, t5⟩ := r3
            have := RepI.ip (imm := allImm g σ.H) (w := w) b 0 off us T fz (cs.map (snap σ.H d)) (.inr ⟨key, _, hk, by simp [blkOf, hb]⟩) t1 (by simp; omega) (fun j u x hu hx => by
              obtain ⟨x0, hx0, rfl⟩ := maps _ j x hx
              exact ih (t5 j u x0 (by simpa using hu) hx0))
            simpa using this
          · exact .junk _
    | agg cs =>
      obtain ⟨vs, rfl, hl, hr⟩ := h.agg_inv
      exact .agg vs _ (by simpa using hl) fun j v c hv hc => by
        obtain ⟨c0, h0, rfl⟩ := maps _ j c hc
        exact ih (hr j v c0 hv h0)
    | tup cs =>
      obtain ⟨vs, rfl, hl, hr⟩ := h.tup_inv
      exact .tup vs _ (by simpa using hl) fun j v c hv hc => by
        obtain ⟨c0, h0, rfl⟩ := maps _ j c hc
        exact ih (hr j v c0 hv h0)
    | fn f cs =>
      obtain ⟨vs, rfl, hl, hr⟩ := h.fn_inv
      exact .fn f vs _ (by simpa using hl) fun j v c hv hc => by
        obtain ⟨c0, h0, rfl⟩ := maps _ j c hc
        exact ih (hr j v c0 hv h0)
    | ifc t x =>
      obtain ⟨u, rfl, hu⟩ := h.ifc_inv
      exact .ifc t u _ (ih hu)
    | mm key =>
      obtain ⟨b, cap, hb, rfl⟩ := h.mm_inv
      simp only [snap]
      cases hk : σ.H key with
      | none => exact .junk _
      | some o =>
        cases o with
        | row => exact .junk _
        | map es =>
          obtain ⟨b', r1, r2, p1, p2, p3, ents, clock, m1, m2, m3⟩ := hs.obj key _ hk
          rw [hb] at r1; cases r1
          refine .im b clock ents _ (.inr ⟨key, _, hk, by simp [blkOf, hb]⟩) m1 (by simp [m2]) (fun j e p he hp => ?_) (fun j e p he hp => ?_)
          · simp only [List.getElem?_map, Option.map_eq_some_iff] at hp
            obtain ⟨p0, hp0, rfl⟩ := hp
            exact ih (m3 j e p0 he hp0).1
          · simp only [List.getElem?_map, Option.map_eq_some_iff] at hp
            obtain ⟨p0, hp0, rfl⟩ := hp
            exact ih (m3 j e p0 he hp0).2
    | _ => cases h with | imm _ _ h => exact up h

theorem flat_rep : ∀ (d : Nat) {imm imm' : Nat → Prop} {w w' : World} {v : Value} {x : V}, RepI imm w v x → flat d x = true → RepI imm' w' v x := by
  intro d
  induction d with
  | zero =>
    intro imm imm' w w' v x h hf
    cases h <;> first | (cases hf; done) | constructor
  | succ d ih =>
    intro imm imm' w w' v x h hf
    cases h with
    | agg vs cs hs hr => exact .agg vs cs hs fun j v c hv hc => ih (hr j v c hv hc) (List.all_eq_true.1 hf _ (List.mem_of_getElem? hc))
    | tup vs cs hs hr => exact .tup vs cs hs fun j v c hv hc => ih (hr j v c hv hc) (List.all_eq_true.1 hf _ (List.mem_of_getElem? hc))
    | fn f vs cs hs hr => exact .fn f vs cs hs fun j v c hv hc => ih (hr j v c hv hc) (List.all_eq_true.1 hf _ (List.mem_of_getElem? hc))
    | ifc t v x hr => exact .ifc t v x (ih hr hf)
    | sl0 => cases hf
    | sl => cases hf
    | ip => cases hf
    | im => cases hf
    | _ => constructor

/-- The blocks of the running call's objects. -/
def ownI (g : Gh) (H : Heap) (b : Nat) : Prop := ∃ key o, H key = some o ∧ blkOf g key o = some b

theorem frs_rep (hs : SimG E g σ a w) : ∀ (d : Nat) {v : Value} {x : V}, Rep g w v x → frs σ.H d x = true → RepI (ownI g σ.H) w v (snap σ.H d x) := by
  intro d
  induction d with
  | zero => intro v x h _; exact .junk _
  | succ d ih =>
    intro v x h hf
    have maps : ∀ (cs : List V) (j : Nat) (c : V), (cs.map (snap σ.H d))[j]? = some c → ∃ c0, cs[j]? = some c0 ∧ snap σ.H d c0 = c := by
      intro cs j c hc
      simpa only [List.getElem?_map, Option.map_eq_some_iff] using hc
    cases x with
    | msl key gen off n =>
      obtain ⟨c, A, blk, cap, rfl, q1, q2, q3, q4, q5⟩ := h.msl_inv
      simp only [snap, frs] at hf ⊢
      cases hk : σ.H key with
      | none => simp [hk] at hf
      | some o =>
        cases o with
        | map es => simp [hk] at hf
        | row g' esz cs =>
          simp only [hk, Bool.and_eq_true, beq_iff_eq, decide_eq_true_eq] at hf
          obtain ⟨⟨rfl, hle⟩, hf⟩ := hf
          simp only []
          simp only [hle, and_self, if_true]
          obtain ⟨blk', cap', r1, r2, r3⟩ := hs.obj key _ hk
          rw [q1] at r1; cases r1
          have hlen : (((cs.drop off).take (n * esz)).map (snap σ.H d)).length = n * esz := by simp; omega
          cases blk with
          | none =>
            have hc0 := q5 rfl
            have hn : n = 0 := by omega
            subst hn
            have : ((cs.drop off).take (0 * esz)).map (snap σ.H d) = [] := by simp
            rw [this]; exact .sl0 _ _
          | some b =>
            obtain ⟨p1, p2, p3, us, T, fz, t1, t2, t3, t4, t5⟩ := r3
            by_cases hc0 : c = 0
            · have hn : n = 0 := by omega
              subst hn
              have : ((cs.drop off).take (0 * esz)).map (snap σ.H d) = [] := by simp
              rw [this]; exact .sl0 _ _
            · rw [q4 b rfl (by omega)]
              refine .sl b off n c us T fz _ ⟨key, _, hk, by simp [blkOf, q1]⟩ t1 (by omega) q3 fun j u x hu hx => ?_
              obtain ⟨x0, hx0, rfl⟩ := maps _ j x hx
              rw [List.getElem?_take] at hx0
              split at hx0
              · rw [List.getElem?_drop] at hx0
                exact ih (t5 _ u x0 hu hx0) (List.all_eq_true.1 hf _ (List.mem_of_getElem? hx0))
              · cases hx0
    | mp key gen off =>
      obtain ⟨b, cap, hb, rfl⟩ := h.mp_inv
      simp only [snap, frs] at hf ⊢
      cases hk : σ.H key with
      | none => simp [hk] at hf
      | some o =>
        cases o with
        | map es => simp [hk] at hf
        | row g' esz cs =>
          simp only [hk, Bool.and_eq_true, beq_iff_eq] at hf
          obtain ⟨rfl, hf⟩ := hf
          simp only [if_true]
          obtain ⟨blk', cap', r1, r2, r3⟩ := hs.obj key _ hk
          rw [hb] at r1; cases r1
          obtain ⟨p1, p2, p3, us, T, fz, t1, t2, t3, t4, t5⟩ := r3
          have := RepI.ip (imm := ownI g σ.H) (w := w) b 0 off us T fz (cs.map (snap σ.H d)) ⟨key, _, hk, by simp [blkOf, hb]⟩ t1 (by simp; omega) (fun j u x hu hx => by
            obtain ⟨x0, hx0, rfl⟩ := maps _ j x hx
            exact ih (t5 j u x0 (by simpa using hu) hx0) (List.all_eq_true.1 hf _ (List.mem_of_getElem? hx0)))
          simpa using this
    | agg cs =>
      obtain ⟨vs, rfl, hl, hr⟩ := h.agg_inv
      exact .agg vs _ (by simpa using hl) fun j v c hv hc => by
        obtain ⟨c0, h0, rfl⟩ := maps _ j c hc
        exact ih (hr j v c0 hv h0) (List.all_eq_true.1 hf _ (List.mem_of_getElem? h0))
    | tup cs =>
      obtain ⟨vs, rfl, hl, hr⟩ := h.tup_inv
      exact .tup vs _ (by simpa using hl) fun j v c hv hc => by
        obtain ⟨c0, h0, rfl⟩ := maps _ j c hc
        exact ih (hr j v c0 hv h0) (List.all_eq_true.1 hf _ (List.mem_of_getElem? h0))
    | ifc t x =>
      obtain ⟨u, rfl, hu⟩ := h.ifc_inv
      exact .ifc t u _ (ih hu hf)
    | sl => cases hf
    | msv => cases hf
    | ip => cases hf
    | fn => cases hf
    | mm => cases hf
    | im => cases hf
    | _ => cases h with | imm _ _ h => exact flat_rep 1 h rfl

theorem SimG.put (hs : SimG E g σ a w) {d : Option Nat} (hd : ∀ t, d = some t → t < E.N) {u : Value} {v : V} (h : Rep g w u v) : SimG E g (σ.put d v) (a.put d u) w := by
  cases d with
  | none => exact hs
  | some d =>
    have hlt := hd d rfl
    refine ⟨hs.below, hs.sizeB, by simpa [Act.put] using hs.size, hs.defers, fun t => ?_, hs.immlt, hs.imm0, hs.immB, hs.obj, hs.apart, hs.fresh, hs.ref0⟩
    have hN := hs.size.2
    simp only [Act.put, St.put, dput, tupd]
    by_cases e : t = d
    · subst e
      have : t < a.tmps.size := by rw [hs.size.1]; exact hlt
      rw [slotV_lo (by omega)]
      simp [this, h]
    · rw [if_neg e]
      have := hs.tm t
      by_cases hb : t < HB
      · rw [slotV_lo hb] at this ⊢
        simpa [Array.getElem?_setIfInBounds_ne (Ne.symm e)] using this
      · unfold slotV at this ⊢
        rw [if_neg hb] at this ⊢
        exact this

/-- One step, in whatever world. -/
theorem step_wp (hs : SimG E g σ a w) (o : Oper) (s : Nat) (hd : ∀ t, o.dst = some t → t < E.N) {K : St → Prop} {next : Act → World → Prop} {Q : Exit → Act → World → Prop}
    (h : vres P σ s o.dst K (lop (tr P o) σ.tm σ.H)) (hn : ∀ σ' a' w', K σ' → Sim E σ' a' w' → next a' w') : o.wp P a w next Q := by
  have hok := step_sound (P := P) hs o s
  unfold Oper.wp
  generalize lop (tr P o) σ.tm σ.H = r at h hok
  cases r with
  | A pre v =>
    obtain ⟨u, w', g', hr, hs', hrep⟩ := hok h.1
    rw [hr]
    exact hn _ _ _ h.2 ⟨g', hs'.put hd hrep⟩
  | C pre ob mk =>
    obtain ⟨u, w', g', hr, hs', hrep⟩ := hok h.1
    rw [hr]
    exact hn _ _ _ h.2 ⟨g', hs'.put hd hrep⟩
  | D pre v H' =>
    obtain ⟨n, w', g', hr, hv, hs'⟩ := hok h.1
    rw [hr]
    rcases hv with ⟨rfl, rfl⟩ | ⟨u, rfl, hu⟩
    · exact hn _ _ _ h.2 ⟨g', hs'.put hd (.junk _ _ undef)⟩
    · exact hn _ _ _ h.2 ⟨g', hs'.put hd hu⟩
  | call pre f args sargs =>
    obtain ⟨hpre, r, ⟨hen, hcall⟩, hfl, hk⟩ := h
    obtain ⟨vs, hr, hl, hrep, hsa, hso⟩ := hok hen
    rw [hr]
    simp only [Oper.upon]
    rcases hfl with (hfl | hfl) | hfl
    · have hfix : ∀ (j : Nat) (c : V), args[j]? = some c → snap σ.H 8 c = c := by
        intro j c hj
        have := congrArg (fun l => l[j]?) (hfl.trans hsa)
        simp only [List.getElem?_map, hj, Option.map_some, Option.some.injEq] at this
        exact this.symm
      refine (hcall g.imm w vs ⟨hs.immlt, EOk.gok hs⟩ (by rw [hl, hfl]) (fun j u c hu hc => snap_fix 8 (hrep j u c hu (by rw [hfl]; exact hc)) (hfix j c (by rw [hfl]; exact hc)))).mono ?_
      rintro e w' ⟨v, imm', rfl, hv, hb, h1, h2⟩
      exact hn _ _ _ hk ⟨⟨imm', g.ref⟩, (hs.grow hb h1 h2).put hd (.imm _ _ hv)⟩
    · refine (hcall (allImm g σ.H) w vs ⟨allImm_lt hs, EOk.gok hs⟩ (by rw [hl, hsa]; simp) (fun j u c hu hc => ?_)).mono ?_
      · rw [hsa, List.getElem?_map, Option.map_eq_some_iff] at hc
        obtain ⟨c0, h0, rfl⟩ := hc
        exact snap_rep hs 8 (hrep j u c0 hu h0)
      · rintro e w' ⟨v, imm', rfl, hv, hb, h1, h2⟩
        exact hn _ _ _ hk ⟨g, (hs.grow_same hb).put hd (.imm _ _ (flat_rep 4 hv hfl))⟩
    · refine (hfl.2 (allImm g σ.H) w vs ⟨allImm_lt hs, EOk.gok hs⟩ (by rw [hl, hsa]; simp) (fun j u c hu hc => ?_)).mono ?_
      · rw [hsa, List.getElem?_map, Option.map_eq_some_iff] at hc
        obtain ⟨c0, h0, rfl⟩ := hc
        exact snap_rep hs 8 (hrep j u c0 hu h0)
      · rintro e w' ⟨v, imm', rfl, hv, hb, h1⟩
        exact hn _ _ _ hk ⟨⟨fun b => g.imm b ∨ imm' b, g.ref⟩, (hs.grow hb (fun b h => .inl h) (fun b h => h.imp id (h1 b))).put hd (.imm _ _ (hv.mono (fun b h => .inr h) (fun _ _ => rfl)))⟩
  | bad => exact h.elim

end
end Go.Lg
