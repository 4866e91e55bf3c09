/-
  Calls whose result is a slice that nobody else holds: the caller may change it.
-/
import Derived.Test.YtobhpkagbmadlaaLgK
set_option linter.unusedSimpArgs false
set_option linter.unusedVariables false
namespace Go.Lg
open Go Go.RowKit

/-- The block of a slice that nobody else holds. -/
def OwnBlk (w w' : World) (imm' : Nat → Prop) (esz c : Nat) (cs : List V) : Option Nat → Prop
  | none => cs = [] ∧ c = 0
  | some b => w.heap.size ≤ b ∧ b < w'.heap.size ∧ ¬ imm' b ∧ ∃ (us : Array Value) (T : TypeId) (fz : Nat × Nat), w'.heap[b]? = some (.cells us T fz) ∧ (∀ o, o < us.size → ¬ (fz.1 ≤ o ∧ o < fz.2)) ∧
      cs.length ≤ us.size ∧ c * esz ≤ us.size ∧ ∀ (j : Nat) (u : Value) (x : V), us[j]? = some u → cs[j]? = some x → RepI imm' w' u x

/-- A function that is given immutable values hands back a slice in a block of its own; its cells are these. -/
def PRetM (P : Program) (f : FuncId) (args : List V) (esz n : Nat) (cs : List V) : Prop :=
  entersOk P f = true ∧ cs.length = n * esz ∧ ∀ (imm : Nat → Prop) (w : World) (vs : Array Value), (∀ b, imm b → b < w.heap.size) → vs.size = args.length →
    (∀ (j : Nat) (u : Value) (c : V), vs[j]? = some u → args[j]? = some c → RepI imm w u c) →
    Calls P f vs w fun e w' => ∃ A c blk imm', e = .returned (.slice A n c) ∧ Below w.heap.size w w' ∧ (∀ b, imm b → imm' b) ∧ (∀ b, imm' b → imm b ∨ (w.heap.size ≤ b ∧ b < w'.heap.size)) ∧ n ≤ c ∧
      (∀ b, blk = some b → 0 < c → A = some ⟨b, 0, none⟩) ∧
      OwnBlk w w' imm' esz c cs blk

section
variable {P : Program} {g : Gh} {w w' : World} {E : Env} {σ : St} {a : Act}

theorem SimG.newObj2 (hs : SimG E g σ a w) (s : Nat) {esz cap : Nat} {cs : List V} {blk : Option Nat}
    (hnew : match blk with
      | none => cs = [] ∧ cap = 0
      | some b => E.B ≤ b ∧ b < w.heap.size ∧ ¬ g.imm b ∧ (∀ k o, σ.H k = some o → blkOf g k o ≠ some b) ∧ BlkOk g w esz cap cs b) :
    SimG E (g.set (s, σ.cnt s) 0 (blk, cap)) ⟨σ.tm, hupd σ.H (s, σ.cnt s) (.row 0 esz cs), cupd σ.cnt s⟩ a w := by
  have hfr := (hs.fresh s (σ.cnt s) (Nat.le_refl _)).2
  have href : ∀ k n r, g.ref k n = some r → (g.set (s, σ.cnt s) 0 (blk, cap)).ref k n = some r := by
    intro k n r h
    rw [Gh.set_ne]
    · exact h
    · rintro ⟨rfl, rfl⟩; rw [hfr] at h; cases h
  have hrep : ∀ v x, Rep g w v x → Rep (g.set (s, σ.cnt s) 0 (blk, cap)) w v x := fun v x h => h.mono (fun _ h => h) (fun b hm => rfl) href
  refine ⟨hs.below, hs.sizeB, hs.size, hs.defers, fun t => hrep _ _ (hs.tm t), hs.immlt, hs.imm0, hs.immB, ?_, ?_, ?_, fun k n r hp h => href k n r (hs.ref0 k n r hp h)⟩
  · intro k o hk
    simp only [hupd] at hk
    split at hk
    · rename_i e; subst e; cases hk
      refine ⟨blk, cap, Gh.set_same _ _ _ _, fun m hm => ?_, ?_⟩
      · rw [Gh.set_ne]
        · exact hfr m
        · rintro ⟨_, rfl⟩; omega
      · cases blk with
        | none => exact hnew
        | some b => exact ⟨.inl hnew.1, hnew.2.1, hnew.2.2.1, BlkOk.mono hnew.2.2.2.2 rfl hrep⟩
    · rename_i hne
      have ho := hs.obj k o hk
      cases o with
      | row gen esz' cs' =>
        obtain ⟨blk', cap', r1, r2, r3⟩ := ho
        refine ⟨blk', cap', href _ _ _ r1, fun m hm => ?_, ?_⟩
        · rw [Gh.set_ne]
          · exact r2 m hm
          · rintro ⟨rfl, _⟩; exact hne rfl
        · cases blk' with
          | none => exact r3
          | some b =>
            obtain ⟨q1, q2, q3, q4⟩ := r3
            exact ⟨q1, q2, q3, BlkOk.mono q4 rfl hrep⟩
  · have same : ∀ k o, σ.H k = some o → k ≠ (s, σ.cnt s) → blkOf (g.set (s, σ.cnt s) 0 (blk, cap)) k o = blkOf g k o := by
      intro k o hk hne
      cases o with
      | row gen esz' cs' => simp only [blkOf]; rw [Gh.set_ne]; rintro ⟨rfl, _⟩; exact hne rfl
    intro k k' o o' b hk hk' hb1 hb2
    simp only [hupd] at hk hk'
    split at hk <;> split at hk'
    · rename_i e1 e2; rw [e1, e2]
    · rename_i e1 e2
      subst e1; cases hk
      rw [same k' o' hk' e2] at hb2
      simp only [blkOf, Gh.set_same, Option.bind_some] at hb1
      subst hb1
      exact absurd hb2 (hnew.2.2.2.1 k' o' hk')
    · rename_i e1 e2
      subst e2; cases hk'
      rw [same k o hk e1] at hb1
      simp only [blkOf, Gh.set_same, Option.bind_some] at hb2
      subst hb2
      exact absurd hb1 (hnew.2.2.2.1 k o hk)
    · rename_i e1 e2
      rw [same k o hk e1] at hb1
      rw [same k' o' hk' e2] at hb2
      exact hs.apart k k' o o' b hk hk' hb1 hb2
  · intro s' n hn
    simp only [cupd] at hn
    by_cases he : (s', n) = (s, σ.cnt s)
    · injection he with e1 e2
      subst e1
      rw [if_pos rfl] at hn; omega
    · have hn' : σ.cnt s' ≤ n := by
        split at hn
        · rename_i e; subst e; omega
        · exact hn
      have := hs.fresh s' n hn'
      refine ⟨by simp only [hupd]; rw [if_neg he]; exact this.1, fun m => ?_⟩
      rw [Gh.set_ne]
      · exact this.2 m
      · rintro ⟨e, _⟩; exact he e

theorem obj_lt (hs : SimG E g σ a w) {k : Key} {o : LObj} {b : Nat} (hk : σ.H k = some o) (hb : blkOf g k o = some b) : b < w.heap.size := by
  have ho := hs.obj k o hk
  cases o with
  | row gen esz' cs' =>
    obtain ⟨blk', cap', r1, r2, r3⟩ := ho
    simp only [blkOf, r1, Option.bind_some] at hb
    subst hb
    exact r3.2.1

/-- What a call that hands back a slice of its own is known to do. -/
def ownV (P : Program) (s : Nat) (f : FuncId) (args sargs : List V) (d : Option Nat) (K : St → Prop) (σ : St) : Prop :=
  ∃ esz n cs, PRetM P f sargs esz n cs ∧ (args = sargs ∨ cs.all (flat 4) = true) ∧
    K (St.put ⟨σ.tm, hupd σ.H (s, σ.cnt s) (.row 0 esz cs), cupd σ.cnt s⟩ d (.msl (s, σ.cnt s) 0 0 n))

theorem step_own (hs : SimG E g σ a w) (o : Oper) (s : Nat) (hd : ∀ t, o.dst = some t → t < E.N) {K : St → Prop} {next : Act → World → Prop} {Q : Exit → Act → World → Prop}
    {pre : Prop} {f : FuncId} {args sargs : List V} (hl : lop (tr P o) σ.tm σ.H = .call pre f args sargs) (hpre : pre) (h : ownV P s f args sargs o.dst K σ)
    (hn : ∀ σ' a' w', K σ' → Sim E σ' a' w' → next a' w') : o.wp P a w next Q := by
  have hok := step_sound (P := P) hs o s
  unfold Oper.wp
  rw [hl] at hok
  obtain ⟨esz, n, cs, ⟨hen, hcl, hcall⟩, hfl, hk⟩ := h
  obtain ⟨vs, hr, hlen, hrep, hsa, hso⟩ := hok hpre hen
  rw [hr]
  simp only [Oper.upon]
  have fin : ∀ (imm' : Nat → Prop) (w' : World) A c blk, Below w.heap.size w w' → (∀ b, g.imm b → imm' b) → (∀ b, imm' b → g.imm b ∨ (w.heap.size ≤ b ∧ b < w'.heap.size)) → n ≤ c →
      (∀ b, blk = some b → 0 < c → A = some ⟨b, 0, none⟩) → OwnBlk w w' imm' esz c cs blk → next (a.put o.dst (.slice A n c)) w' := by
    intro imm' w' A c blk hb h1 h2 hnc hA hblk
    have hs1 := hs.grow hb h1 h2
    have hs2 := hs1.newObj2 s (esz := esz) (cap := c) (cs := cs) (blk := blk) (by
      cases blk with
      | none => exact hblk
      | some b =>
        obtain ⟨q1, q2, q3, us, T, fz, q4, q5, q6, q7, q8⟩ := hblk
        refine ⟨Nat.le_trans hs.sizeB q1, q2, q3, fun k o hk hbk => ?_, us, T, fz, q4, q5, q6, q7, fun j u x hu hx => .imm _ _ (q8 j u x hu hx)⟩
        have := obj_lt hs hk hbk
        omega)
    refine hn _ _ _ hk ⟨_, hs2.put hd ?_⟩
    exact .msl _ _ _ _ c A blk c (Gh.set_same _ _ _ _) (fun _ => rfl) hnc hA (fun e => by subst e; exact hblk.2)
  rcases hfl with hfl | hfl
  · have hfix : ∀ (j : Nat) (c : V), args[j]? = some c → snap σ.H 8 c = c := by
      intro j c hj
      have := congrArg (fun l => l[j]?) (hfl.trans hsa)
      simp only [List.getElem?_map, hj, Option.map_some, Option.some.injEq] at this
      exact this.symm
    refine (hcall g.imm w vs hs.immlt (by rw [hlen, hfl]) (fun j u c hu hc => snap_fix 8 (hrep j u c hu (by rw [hfl]; exact hc)) (hfix j c (by rw [hfl]; exact hc)))).mono ?_
    rintro e w' ⟨A, c, blk, imm', rfl, hb, h1, h2, hnc, hA, hblk⟩
    exact fin imm' w' A c blk hb h1 h2 hnc hA hblk
  · refine (hcall (allImm g σ.H) w vs (allImm_lt hs) (by rw [hlen, hsa]; simp) (fun j u c hu hc => ?_)).mono ?_
    · rw [hsa, List.getElem?_map, Option.map_eq_some_iff] at hc
      obtain ⟨c0, h0, rfl⟩ := hc
      exact snap_rep hs 8 (hrep j u c0 hu h0)
    · rintro e w' ⟨A, c, blk, imm', rfl, hb, h1, h2, hnc, hA, hblk⟩
      refine fin g.imm w' A c blk hb (fun _ h => h) (fun _ h => .inl h) hnc hA ?_
      cases blk with
      | none => exact hblk
      | some b =>
        obtain ⟨q1, q2, q3, us, T, fz, q4, q5, q6, q7, q8⟩ := hblk
        refine ⟨q1, q2, fun hm => ?_, us, T, fz, q4, q5, q6, q7, fun j u x hu hx => flat_rep 4 (q8 j u x hu hx) (List.all_eq_true.1 hfl x (List.mem_of_getElem? hx))⟩
        have := hs.immlt b hm; omega

/-- Such a result, as one that never turns. -/
theorem PRetM.ret {f : FuncId} {args : List V} {esz n : Nat} {cs : List V} (h : PRetM P f args esz n cs) : PRet P f args (.sl n cs) := by
  obtain ⟨hen, hcl, hcall⟩ := h
  refine ⟨hen, fun imm w vs h1 h2 h3 => (hcall imm w vs h1 h2 h3).mono ?_⟩
  rintro e w' ⟨A, c, blk, imm', rfl, hb, i1, i2, hnc, hA, hblk⟩
  cases blk with
  | none =>
    obtain ⟨rfl, rfl⟩ := hblk
    obtain rfl : n = 0 := by omega
    exact ⟨_, imm', rfl, .sl0 _ _, hb, i1, i2⟩
  | some b =>
    obtain ⟨q1, q2, q3, us, T, fz, q4, q5, q6, q7, q8⟩ := hblk
    by_cases hn : n = 0
    · subst hn
      have : cs = [] := List.eq_nil_of_length_eq_zero (by omega)
      subst this
      exact ⟨_, imm', rfl, .sl0 _ _, hb, i1, i2⟩
    · rw [hA b rfl (by omega)]
      refine ⟨_, fun x => imm' x ∨ x = b, rfl, .sl b 0 n c us T fz cs (.inr rfl) q4 (by omega) hnc (fun j u x hu hx => (q8 j u x (by simpa using hu) hx).mono (fun _ h => .inl h) (fun _ _ => rfl)), hb, fun x h => .inl (i1 x h), ?_⟩
      rintro x (h | rfl)
      · exact i2 x h
      · exact .inr ⟨q1, q2⟩

end
end Go.Lg
