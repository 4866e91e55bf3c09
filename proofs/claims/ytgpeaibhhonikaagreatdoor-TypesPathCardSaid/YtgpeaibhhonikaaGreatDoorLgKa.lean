/-
  Calls whose result is a slice that nobody else holds: the caller may change it.
-/
import Derived.Test.YtgpeaibhhonikaaGreatDoorLgK
set_option linter.unusedSimpArgs false
set_option linter.unusedVariables false
namespace Go.Lg
open Go Go.RowKit

/-- The block of a slice that nobody else holds. -/
def OwnBlk (w w' : World) (imm' : Nat → Prop) (esz c : Nat) (cs : List V) : Option Nat → Prop
  | none => cs = [] ∧ c = 0
  | some b => w.heap.size ≤ b ∧ b < w'.heap.size ∧ ¬ imm' b ∧ ∃ (us : Array Value) (T : TypeId) (fz : Nat × Nat), w'.heap[b]? = some (.cells us T fz) ∧ NoFz us.size fz ∧
      cs.length ≤ us.size ∧ c * esz ≤ us.size ∧ ∀ (j : Nat) (u : Value) (x : V), us[j]? = some u → cs[j]? = some x → RepI imm' w' u x

/-- A function that is given immutable values hands back a slice in a block of its own; its cells are these. -/
def PRetM (P : Program) (f : FuncId) (args : List V) (esz n : Nat) (cs : List V) : Prop :=
  entersOk P f = true ∧ cs.length = n * esz ∧ ∀ (imm : Nat → Prop) (w : World) (vs : Array Value), Imm0 P imm w → vs.size = args.length →
    (∀ (j : Nat) (u : Value) (c : V), vs[j]? = some u → args[j]? = some c → RepI imm w u c) →
    Calls P f vs w fun e w' => ∃ A c blk imm', e = .returned (.slice A n c) ∧ BelowD w.heap.size w w' ∧ (∀ b, imm b → imm' b) ∧ (∀ b, imm' b → imm b ∨ (w.heap.size ≤ b ∧ b < w'.heap.size)) ∧ n ≤ c ∧
      (∀ b, blk = some b → 0 < c → A = some ⟨b, 0, none⟩) ∧
      OwnBlk w w' imm' esz c cs blk

section
variable {P : Program} {g : Gh} {w w' : World} {E : Env} [EOk P E] {σ : St} {a : Act}

theorem SimG.newObj2 (hs : SimG E g σ a w) (s : Nat) {esz cap : Nat} {cs : List V} {blk : Option Nat}
    (hnew : match blk with
      | none => cs = [] ∧ cap = 0
      | some b => E.B ≤ b ∧ b < w.heap.size ∧ ¬ g.imm b ∧ (∀ k o, σ.H k = some o → blkOf g k o ≠ some b) ∧ BlkOk g w esz cap cs b) :
    SimG E (g.set (s, σ.cnt s) 0 (blk, cap)) ⟨σ.tm, hupd σ.H (s, σ.cnt s) (.row 0 esz cs), cupd σ.cnt s⟩ a w := by
  have hfr := (hs.fresh s (σ.cnt s) (Nat.le_refl _)).2
  have href : ∀ k n r, g.ref k n = some r → (g.set (s, σ.cnt s) 0 (blk, cap)).ref k n = some r := by
    intro k n r h
    rw [Gh.set_ne]
    · exact h
    · rintro ⟨rfl, rfl⟩; rw [hfr] at h; cases h
  have hrep : ∀ v x, Rep g w v x → Rep (g.set (s, σ.cnt s) 0 (blk, cap)) w v x := fun v x h => h.mono (fun _ h => h) (fun b hm => rfl) href
  refine hs.newAny s (.refl _ _ _) (fun _ _ => rfl) ⟨blk, cap, Gh.set_same _ _ _ _, fun m hm => ?_, ?_⟩ (fun b hbk k o hk => ?_)
  · rw [Gh.set_ne]
    · exact hfr m
    · rintro ⟨_, rfl⟩; omega
  · cases blk with
    | none => exact hnew
    | some b => exact ⟨.inl hnew.1, hnew.2.1, hnew.2.2.1, BlkOk.mono hnew.2.2.2.2 rfl hrep⟩
  · simp only [blkOf, Gh.set_same, Option.bind_some] at hbk
    subst hbk
    exact hnew.2.2.2.1 k o hk

theorem obj_lt (hs : SimG E g σ a w) {k : Key} {o : LObj} {b : Nat} (hk : σ.H k = some o) (hb : blkOf g k o = some b) : b < w.heap.size := by
  exact ((hs.obj k o hk).blk hb).1

/-- What a call that hands back a slice of its own is known to do. -/
def ownV (P : Program) (s : Nat) (f : FuncId) (args sargs : List V) (d : Option Nat) (K : St → Prop) (σ : St) : Prop :=
  ∃ esz n cs, PRetM P f sargs esz n cs ∧ (args = sargs ∨ cs.all (flat 4) = true) ∧
    K (St.put ⟨σ.tm, hupd σ.H (s, σ.cnt s) (.row 0 esz cs), cupd σ.cnt s⟩ d (.msl (s, σ.cnt s) 0 0 n))

theorem step_own (hs : SimG E g σ a w) (o : Oper) (s : Nat) (hd : ∀ t, o.dst = some t → t < E.N) {K : St → Prop} {next : Act → World → Prop} {Q : Exit → Act → World → Prop}
    {pre : Prop} {f : FuncId} {args sargs : List V} (hl : lop (tr P o) σ.tm σ.H = .call pre f args sargs) (hpre : pre) (h : ownV P s f args sargs o.dst K σ)
    (hn : ∀ σ' a' w', K σ' → Sim E σ' a' w' → next a' w') : o.wp P a w next Q := by
  have hok := step_sound (P := P) hs o s
  unfold Oper.wp
  rw [hl] at hok
  obtain ⟨esz, n, cs, ⟨hen, hcl, hcall⟩, hfl, hk⟩ := h
  obtain ⟨vs, hr, hlen, hrep, hsa, hso⟩ := hok hen
  rw [hr]
  simp only [Oper.upon]
  have fin : ∀ (imm' : Nat → Prop) (w' : World) A c blk, BelowD w.heap.size w w' → (∀ b, g.imm b → imm' b) → (∀ b, imm' b → g.imm b ∨ (w.heap.size ≤ b ∧ b < w'.heap.size)) → n ≤ c →
      (∀ b, blk = some b → 0 < c → A = some ⟨b, 0, none⟩) → OwnBlk w w' imm' esz c cs blk → next (a.put o.dst (.slice A n c)) w' := by
    intro imm' w' A c blk hb h1 h2 hnc hA hblk
    have hs1 := hs.grow hb h1 h2
    have hs2 := hs1.newObj2 s (esz := esz) (cap := c) (cs := cs) (blk := blk) (by
      cases blk with
      | none => exact hblk
      | some b =>
        obtain ⟨q1, q2, q3, us, T, fz, q4, q5, q6, q7, q8⟩ := hblk
        refine ⟨Nat.le_trans hs.sizeB q1, q2, q3, fun k o hk hbk => ?_, us, T, fz, q4, q5, q6, q7, fun j u x hu hx => .imm _ _ (q8 j u x hu hx)⟩
        have := obj_lt hs hk hbk
        omega)
    refine hn _ _ _ hk ⟨_, hs2.put hd ?_⟩
    exact .msl _ _ _ _ c A blk c (Gh.set_same _ _ _ _) (fun _ => rfl) hnc hA (fun e => by subst e; exact hblk.2)
  rcases hfl with hfl | hfl
  · have hfix : ∀ (j : Nat) (c : V), args[j]? = some c → snap σ.H 8 c = c := by
      intro j c hj
      have := congrArg (fun l => l[j]?) (hfl.trans hsa)
      simp only [List.getElem?_map, hj, Option.map_some, Option.some.injEq] at this
      exact this.symm
    refine (hcall g.imm w vs ⟨hs.immlt, EOk.gok hs⟩ (by rw [hlen, hfl]) (fun j u c hu hc => snap_fix 8 (hrep j u c hu (by rw [hfl]; exact hc)) (hfix j c (by rw [hfl]; exact hc)))).mono ?_
    rintro e w' ⟨A, c, blk, imm', rfl, hb, h1, h2, hnc, hA, hblk⟩
    exact fin imm' w' A c blk hb h1 h2 hnc hA hblk
  · refine (hcall (allImm g σ.H) w vs ⟨allImm_lt hs, EOk.gok hs⟩ (by rw [hlen, hsa]; simp) (fun j u c hu hc => ?_)).mono ?_
    · rw [hsa, List.getElem?_map, Option.map_eq_some_iff] at hc
      obtain ⟨c0, h0, rfl⟩ := hc
      exact snap_rep hs 8 (hrep j u c0 hu h0)
    · rintro e w' ⟨A, c, blk, imm', rfl, hb, h1, h2, hnc, hA, hblk⟩
      refine fin g.imm w' A c blk hb (fun _ h => h) (fun _ h => .inl h) hnc hA ?_
      cases blk with
      | none => exact hblk
      | some b =>
        obtain ⟨q1, q2, q3, us, T, fz, q4, q5, q6, q7, q8⟩ := hblk
        refine ⟨q1, q2, fun hm => ?_, us, T, fz, q4, q5, q6, q7, fun j u x hu hx => flat_rep 4 (q8 j u x hu hx) (List.all_eq_true.1 hfl x (List.mem_of_getElem? hx))⟩
        have := hs.immlt b hm; omega

/-- Cells of a block that no other holds, all of whose memory never turns. -/
def BlkI (imm : Nat → Prop) (w : World) (esz c : Nat) (cs : List V) (b : Nat) : Prop :=
  ∃ (us : Array Value) (T : TypeId) (fz : Nat × Nat), w.heap[b]? = some (.cells us T fz) ∧ NoFz us.size fz ∧
    cs.length ≤ us.size ∧ c * esz ≤ us.size ∧ ∀ (j : Nat) (u : Value) (x : V), us[j]? = some u → cs[j]? = some x → RepI imm w u x

/-- A function that is given a slice that it may change, and immutable values: it leaves these cells in its array; it hands back the slice, cut to so many, or nothing that matters. -/
def PMut (P : Program) (f : FuncId) (ext : List V) (esz n : Nat) (cs : List V) (ret : Option Nat) (cs' : List V) : Prop :=
  entersOk P f = true ∧ ∀ (imm : Nat → Prop) (w : World) (vs : Array Value) (A : Option Addr) (c : Nat) (blk : Option Nat), Imm0 P imm w → vs.size = ext.length →
    (∀ (j : Nat) (u : Value) (x : V), vs[j]? = some u → ext[j]? = some x → RepI imm w u x) → n ≤ c → (∀ b, blk = some b → 0 < c → A = some ⟨b, 0, none⟩) →
    (match blk with
      | none => cs = [] ∧ c = 0
      | some b => ¬ imm b ∧ b < w.heap.size ∧ BlkI imm w esz c cs b) → (∀ p ∈ glOf P, blk ≠ some p.1) →
    Calls P f (#[.slice A n c] ++ vs) w fun e w' => ∃ v, e = .returned v ∧ (∀ m, ret = some m → m ≤ n ∧ v = .slice A m c) ∧ BelowF w.heap.size (fun b => blk = some b) w w' ∧
      (match blk with
        | none => cs' = []
        | some b => BlkI imm w' esz c cs' b)

def rmut (key : Key) (g : Nat) : Option Nat → V
  | some m => .msl key g 0 m
  | none => .junk

/-- What a call that changes a slice of the caller's is known to do. -/
def mutV (P : Program) (f : FuncId) (args : List V) (d : Option Nat) (K : St → Prop) (σ : St) : Prop :=
  ∃ key g n ext esz cs ret cs', args = .msl key g 0 n :: ext ∧ σ.H key = some (.row g esz cs) ∧ cs.map (snap σ.H 8) = cs ∧ ext.map (snap σ.H 8) = ext ∧ PMut P f ext esz n cs ret cs' ∧
    K (St.put ⟨σ.tm, hupd σ.H key (.row g esz cs'), σ.cnt⟩ d (rmut key g ret))

theorem step_mut (hs : SimG E g σ a w) (o : Oper) (s : Nat) (hd : ∀ t, o.dst = some t → t < E.N) {K : St → Prop} {next : Act → World → Prop} {Q : Exit → Act → World → Prop}
    {pre : Prop} {f : FuncId} {args sargs : List V} (hl : lop (tr P o) σ.tm σ.H = .call pre f args sargs) (hpre : pre) (h : mutV P f args o.dst K σ)
    (hn : ∀ σ' a' w', K σ' → Sim E σ' a' w' → next a' w') : o.wp P a w next Q := by
  have hok := step_sound (P := P) hs o s
  unfold Oper.wp
  rw [hl] at hok
  obtain ⟨key, gen, n, ext, esz, cs, ret, cs', rfl, hk, hfc, hfe, ⟨hen, hcall⟩, hK⟩ := h
  obtain ⟨vs, hr, hlen, hrep, hsa, hso⟩ := hok hen
  rw [hr]
  simp only [Oper.upon]
  have fix : ∀ (l : List V), l.map (snap σ.H 8) = l → ∀ (j : Nat) (c : V), l[j]? = some c → snap σ.H 8 c = c := by
    intro l hl j c hj
    have := congrArg (fun l => l[j]?) hl
    simp only [List.getElem?_map, hj, Option.map_some, Option.some.injEq] at this
    exact this
  simp only [List.length_cons] at hlen
  have h0 : vs[0]? = some vs[0] := Array.getElem?_eq_getElem (by omega)
  have hr0 := hrep 0 _ _ h0 rfl
  obtain ⟨c, A, blk, cap, hv0, q1, q2, q3, q4, q5⟩ := hr0.msl_inv
  obtain rfl := q2 rfl
  obtain ⟨blk', cap', r1, r2, r3⟩ := hs.obj key _ hk
  rw [q1] at r1; cases r1
  have hvs : vs = #[.slice A n c] ++ vs.extract 1 vs.size := by
    apply Array.ext_getElem?
    intro j
    rw [Array.getElem?_append]
    cases j with
    | zero => simp only [List.size_toArray, List.length_singleton]; rw [if_pos (by omega), h0, hv0]; rfl
    | succ j =>
      simp only [List.size_toArray, List.length_singleton]
      rw [if_neg (by omega), Array.getElem?_extract]
      split
      · rw [Nat.add_sub_cancel, Nat.add_comm]
      · rw [Array.getElem?_eq_none (by omega)]
  rw [hvs]
  refine (hcall g.imm w _ A c blk ⟨hs.immlt, EOk.gok hs⟩ (by simp; omega) (fun j u x hu hx => ?_) q3 q4 ?_ ?_).mono ?_
  · have hu' : vs[j + 1]? = some u := by
      rw [Array.getElem?_extract] at hu
      split at hu
      · rw [Nat.add_comm]; exact hu
      · cases hu
    exact snap_fix 8 (hrep (j + 1) u x hu' (by simpa using hx)) (fix ext hfe j x hx)
  · cases blk with
    | none => exact r3
    | some b =>
      obtain ⟨p1, p2, p3, us, T, fz, t1, t2, t3, t4, t5⟩ := r3
      exact ⟨p3, p2, us, T, fz, t1, t2, t3, t4, fun j u x hu hx => snap_fix 8 (t5 j u x hu hx) (fix cs hfc j x hx)⟩
  · intro p hp e
    obtain ⟨h1, h2, _⟩ := (inferInstance : EOk P E).ok p hp
    subst e
    rcases r3.1 with h | h
    · omega
    · exact h2 h.2
  · rintro e w' ⟨v, rfl, hv, hb, hblk⟩
    have hown : ∀ k, k < E.B → ¬ E.F k → blk ≠ some k := by
      rintro k h1 h2 rfl
      rcases r3.1 with h | h
      · omega
      · exact h2 h.2
    have hbe : BelowF E.B E.F w w' := ⟨hb.os, hb.tape, hb.output, hb.size, fun k h1 h2 => hb.block k (Nat.lt_of_lt_of_le h1 hs.sizeB) (hown k h1 h2), hb.drawn⟩
    have hbk : blkOf g key (.row gen esz cs) = blk := by simp [blkOf, q1]
    have hs2 := hs.setObj hk (gen' := gen) (esz' := esz) (cap' := c) (cs' := cs') (blk' := blk) (Nat.le_refl _) (fun _ => q1) hbe
      (fun k h1 h2 => hb.block k h1 (by rw [hbk] at h2; exact h2)) (by
        cases blk with
        | none => exact ⟨hblk, r3.2⟩
        | some b =>
          obtain ⟨us, T, fz, t1, t2, t3, t4, t5⟩ := hblk
          refine ⟨.inl hbk, Nat.lt_of_lt_of_le r3.2.1 hb.size, us, T, fz, t1, t2, t3, t4, fun j u x hu hx => .imm _ _ (t5 j u x hu hx)⟩)
    refine hn _ _ _ hK ⟨_, hs2.put hd ?_⟩
    cases ret with
    | none => exact .junk _ _ _
    | some m =>
      obtain ⟨h1, rfl⟩ := hv m rfl
      exact .msl _ _ _ _ c A blk c (Gh.set_same _ _ _ _) (fun _ => rfl) (by omega) q4 q5

/-- What is known of a call that works on the caller's own objects: the state behind it. -/
def PSt (P : Program) (f : FuncId) (args : List V) (σ : St) (R : V → St → Prop) : Prop :=
  entersOk P f = true ∧ ∀ (E : Env), EOk P E → ∀ (g : Gh) (a : Act) (w : World) (vs : Array Value), SimG E g σ a w → vs.size = args.length →
    (∀ (j : Nat) (u : Value) (c : V), vs[j]? = some u → args[j]? = some c → Rep g w u c) →
    Calls P f vs w fun e w' => ∃ u v σ' g', e = .returned u ∧ SimG E g' σ' a w' ∧ Rep g' w' u v ∧ R v σ'

def instV (P : Program) (f : FuncId) (args : List V) (d : Option Nat) (K : St → Prop) (σ : St) : Prop :=
  ∃ R, PSt P f args σ R ∧ ∀ v σ', R v σ' → K (σ'.put d v)

theorem step_inst (hs : SimG E g σ a w) (o : Oper) (s : Nat) (hd : ∀ t, o.dst = some t → t < E.N) {K : St → Prop} {next : Act → World → Prop} {Q : Exit → Act → World → Prop}
    {pre : Prop} {f : FuncId} {args sargs : List V} (hl : lop (tr P o) σ.tm σ.H = .call pre f args sargs) (h : instV P f args o.dst K σ)
    (hn : ∀ σ' a' w', K σ' → Sim E σ' a' w' → next a' w') : o.wp P a w next Q := by
  have hok := step_sound (P := P) hs o s
  unfold Oper.wp
  rw [hl] at hok
  obtain ⟨R, ⟨hen, hcall⟩, hK⟩ := h
  obtain ⟨vs, hr, hlen, hrep, hsa, hso⟩ := hok hen
  rw [hr]
  simp only [Oper.upon]
  refine (hcall E inferInstance g a w vs hs hlen hrep).mono ?_
  rintro e w' ⟨u, v, σ', g', rfl, hs', hrep', hR⟩
  exact hn _ _ _ (hK v σ' hR) ⟨g', hs'.put hd hrep'⟩

end
section
variable {P : Program} {g : Gh} {w w' : World} {E : Env} {σ : St} {a : Act}
/-! A literal slice, as an object of the running call. -/
theorem fillL_length {tm : Nat → V} : ∀ (ps : List (Nat × Nat × Rd)) (cs : List V) (n : Nat), cs.length = n → partsOk tm n ps → (fillL tm cs ps).length = n
  | [], _, _, h, _ => h
  | (off, s, x) :: r, cs, n, h, hp => by
    obtain ⟨⟨_, h2, h3⟩, hp⟩ := hp
    exact fillL_length r _ n (by rw [setCells_length (by omega)]; exact h) hp
theorem bslo_ok (hs : SimG E g σ a w) {site : Nat} {t e : TypeId} {n s : Nat} {z : V} {parts : Array (Nat × Operand)} (ht : P.underlying t = some (.slice e)) (hsz : szT P e = some s) (hs0 : s ≠ 0) (hz : zeroT P e = some z) (hzl : z.cells.length = s)
    (hn : ¬ n * s > 2 ^ 24) (h0 : n ≠ 0) :
    LRes.ok P E g σ a w site (do pure (.value (← Instr.buildSlice t n (parts.map fun (i, x) => (i, a.eval x)))))
      (.C (partsOk σ.tm ((List.replicate n z.cells).flatten).length (parts.toList.map fun (i, x) => (i * s, s, rdOf x))) (.row 0 s (fillL σ.tm ((List.replicate n z.cells).flatten) (parts.toList.map fun (i, x) => (i * s, s, rdOf x)))) fun k => .msl k 0 0 n) := by
  obtain ⟨zv, hzv, rfl⟩ := zeroT_run (w := w) hz
  have htl : (parts.map fun (i, x) => (i, a.eval x)).toList = parts.toList.map fun (i, x) => (i, a.eval x) := by simp
  obtain ⟨q1, q2, q3⟩ := zeros_rep (g := g) (w := w) (n := n) hzl hs0 rfl (m := n) (Nat.le_refl _)
  obtain ⟨m1, m2⟩ := trParts_map (s := s) parts _ rfl
  have run : ∀ us', Instr.fill (fun i => some (i * s, s)) ((Array.range (n * s)).map (fun i => zv.cells[i % zv.cells.size]!)) (parts.toList.map fun (i, x) => (i, a.eval x)) = some us' → n ≠ 0 →
      (Instr.buildSlice t n (parts.map fun (i, x) => (i, a.eval x))).run P w = .ok (.slice (some ⟨w.heap.size, 0, none⟩) n n) (w.alloc (.cells us' e)) := by
    intro us' hf hn0
    have hne : ¬ (n * s = 0) := by
      intro h
      rcases Nat.mul_eq_zero.1 h with h | h
      · exact hn0 h
      · exact hs0 h
    have hn' : ¬ (16777216 < n * s) := by omega
    simp only [Instr.buildSlice]
    simp [run_underlying ht, szT_run hsz, hn', hne, hn0, hs0, hzv, htl, hf, newRow]
  intro hok
  obtain ⟨us', f1, f2, f3⟩ := fill_ok (g := g) (w := w) (place := fun i => some (i * s, s)) hs.tm parts.toList _ _ _ m1 m2 (by rw [q1, q2]) q3 hok
  have hl := (zeros_rep (g := g) (w := w) (n := n) hzl hs0 rfl (m := n) (Nat.le_refl _))
  refine ⟨_, _, _, run_val (run us' f1 h0), newRow_obj hs site (cap := n) e (Nat.le_of_eq f2.symm) ?_ f3, ?_⟩
  · rw [f2, fillL_length _ _ _ rfl hok, q2]; exact Nat.le_refl _
  · exact .msl _ _ _ _ n (some ⟨w.heap.size, 0, none⟩) (some w.heap.size) n (Gh.set_same _ _ _ _) (fun _ => rfl) (Nat.le_refl _) (fun b e _ => by cases e; rfl) (fun e => by cases e)

/-- What a literal gives, as an object. -/
theorem litR_trE (P : Program) (ops : Array Oper) (o : Oper) (tm : Nat → V) : litR (trE P ops o) tm = litR (tr P o) tm ∨ litR (trE P ops o) tm = .bad := by
  unfold trE
  cases tr P o with
  | app e b x y =>
    simp only []
    split <;> exact .inl rfl
  | bsl n zs ps =>
    simp only []
    split
    · exact .inr rfl
    · exact .inl rfl
  | _ => exact .inl rfl
def isBsl : IOp → Bool
  | .bsl .. => true
  | _ => false
theorem isBsl_orBad {x : Option IOp} (h : isBsl (orBad x) = true) : ∃ i, x = some i ∧ isBsl i = true := by
  cases x with
  | none => cases h
  | some i => exact ⟨i, rfl, h⟩
theorem tr_bsl {o : Oper} (h : isBsl (tr P o) = true) : ∃ t m parts, o.op = .buildSlice t m parts := by
  obtain ⟨dst, op, ty, pos, after, guard⟩ := o
  cases op with
  | buildSlice t m parts => exact ⟨t, m, parts, rfl⟩
  | _ =>
    exfalso
    simp only [tr, trCall] at h
    repeat' split at h
    all_goals first
      | (cases h; done)
      | contradiction
      | (obtain ⟨i, h1, h2⟩ := isBsl_orBad h
         simp only [Option.bind_eq_bind, Option.bind_eq_some_iff, Option.map_eq_some_iff] at h1
         (repeat' (first | (obtain ⟨_, _, h1⟩ := h1) | (split at h1)))
         all_goals first | (cases h2; done) | (cases h1; cases h2; done) | (subst h1; cases h2; done) | (cases h1; done) | (simp_all [isBsl]; done))
      | (simp_all [isBsl]; done)

theorem step_lit (hs : SimG E g σ a w) (o : Oper) (s : Nat) : LRes.ok P E g σ a w s (execOp a.eval o) (litR (tr P o) σ.tm) := by
  by_cases hb : isBsl (tr P o) = true
  · obtain ⟨t, n, parts, he⟩ := tr_bsl hb
    obtain ⟨dst, op, ty, pos, after, guard⟩ := o
    simp only [] at he
    subst he
    simp only [tr] at hb ⊢
    cases ht : P.underlying t with
    | none => trivial
    | some d =>
      cases d with
      | slice e =>
        simp only [ht] at hb ⊢
        obtain ⟨i, h1, h2⟩ := isBsl_orBad hb
        rw [h1]
        simp only [Option.bind_eq_bind, Option.bind_eq_some_iff] at h1
        obtain ⟨s', hs', z, hz, h1⟩ := h1
        split at h1
        · cases h1
        · rename_i hc
          cases h1
          simp only [Bool.or_eq_true, not_or, decide_eq_true_eq, bne_iff_ne, ne_eq, Decidable.not_not, beq_iff_eq, Bool.and_eq_true, not_and] at hc
          obtain ⟨⟨⟨c1, c2⟩, c3⟩, c4⟩ := hc
          show LRes.ok P E g σ a w s _ (litR (.bsl _ _ _) σ.tm)
          simp only [litR]
          split
          · trivial
          · rename_i h0
            have hl : (List.replicate n z.cells).flatten.length / n = s' := by
              rw [List.length_flatten]
              simp only [List.map_replicate, List.sum_replicate_nat, c2]
              exact Nat.mul_div_cancel_left _ (by omega)
            rw [hl]
            exact bslo_ok hs ht hs' c3 hz c2 c1 h0
      | _ => simp only [ht] at hb; cases hb
  · cases hR : tr P o with
    | bsl => rw [hR] at hb; exact absurd rfl hb
    | _ => trivial

theorem step_wplit (hs : SimG E g σ a w) (o : Oper) (s : Nat) (hd : ∀ t, o.dst = some t → t < E.N) {K : St → Prop} {next : Act → World → Prop} {Q : Exit → Act → World → Prop}
    (h : vres P σ s o.dst K (litR (tr P o) σ.tm)) (hn : ∀ σ' a' w', K σ' → Sim E σ' a' w' → next a' w') : o.wp P a w next Q := by
  have hok := step_lit (P := P) hs o s
  unfold Oper.wp
  generalize hR : litR (tr P o) σ.tm = r at h hok
  cases r with
  | C pre ob mk =>
    obtain ⟨u, w', g', hr, hs', hrep⟩ := hok h.1
    rw [hr]
    exact hn _ _ _ h.2 ⟨g', hs'.put hd hrep⟩
  | bad => exact h.elim
  | _ =>
    exfalso
    unfold litR at hR
    repeat' split at hR
    all_goals cases hR

/-- Such a result, as one that never turns. -/
theorem PRetM.ret {f : FuncId} {args : List V} {esz n : Nat} {cs : List V} (h : PRetM P f args esz n cs) : PRet P f args (.sl n cs) := by
  obtain ⟨hen, hcl, hcall⟩ := h
  refine ⟨hen, fun imm w vs h1 h2 h3 => (hcall imm w vs h1 h2 h3).mono ?_⟩
  rintro e w' ⟨A, c, blk, imm', rfl, hb, i1, i2, hnc, hA, hblk⟩
  cases blk with
  | none =>
    obtain ⟨rfl, rfl⟩ := hblk
    obtain rfl : n = 0 := by omega
    exact ⟨_, imm', rfl, .sl0 _ _, hb, i1, i2⟩
  | some b =>
    obtain ⟨q1, q2, q3, us, T, fz, q4, q5, q6, q7, q8⟩ := hblk
    by_cases hn : n = 0
    · subst hn
      have : cs = [] := List.eq_nil_of_length_eq_zero (by omega)
      subst this
      exact ⟨_, imm', rfl, .sl0 _ _, hb, i1, i2⟩
    · rw [hA b rfl (by omega)]
      refine ⟨_, fun x => imm' x ∨ x = b, rfl, .sl b 0 n c us T fz cs (.inr rfl) q4 (by omega) hnc (fun j u x hu hx => (q8 j u x (by simpa using hu) hx).mono (fun _ h => .inl h) (fun _ _ => rfl)), hb, fun x h => .inl (i1 x h), ?_⟩
      rintro x (h | rfl)
      · exact i2 x h
      · exact .inr ⟨q1, q2⟩

end
end Go.Lg
