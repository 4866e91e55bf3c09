/-
  Names anew: the objects of a state under other keys, their slices' generations begun again; some of them from now on never turn; empty slices get objects.
-/
import Derived.Test.YtgpeaibhhonikaaGreatDoorLgKa
set_option linter.unusedSimpArgs false
set_option linter.unusedVariables false
namespace Go.Lg
open Go Go.RowKit

/-- What is renamed: 'pi': the elder key of a new one; 'nil': the new keys of empty slices; 'fz': the objects that from now on never turn. -/
structure Ren where
  pi : Key → Option Key
  nil : Key → Bool
  fz : Heap

def genOf : Option LObj → Nat
  | some (.row g _ _) => g
  | _ => 0

/-- A value under new names. -/
inductive VR (H : Heap) (r : Ren) : V → V → Prop
  | junk (v) : VR H r v .junk
  | pure (v d) : imV d v = true → VR H r v v
  | frz (v d) : VR H r v (snap r.fz d v)
  | msl (k k' gen off n esz cs) : k'.1 < PK → r.pi k' = some k → H k = some (.row gen esz cs) → VR H r (.msl k gen off n) (.msl k' 0 off n)
  | mp (k k' gen off esz cs) : k'.1 < PK → r.pi k' = some k → H k = some (.row gen esz cs) → VR H r (.mp k gen off) (.mp k' 0 off)
  | mm (k k' es) : k'.1 < PK → r.pi k' = some k → H k = some (.map es) → VR H r (.mm k) (.mm k')
  | pkl (k gen off n) : PK ≤ k.1 → VR H r (.msl k gen off n) (.msl k gen off n)
  | pkp (k gen off) : PK ≤ k.1 → VR H r (.mp k gen off) (.mp k gen off)
  | nil (k') : r.nil k' = true → VR H r .e0 (.msl k' 0 0 0)
  | agg (xs ys : List V) : xs.length = ys.length → (∀ (j : Nat) (x y : V), xs[j]? = some x → ys[j]? = some y → VR H r x y) → VR H r (.agg xs) (.agg ys)
  | tup (xs ys : List V) : xs.length = ys.length → (∀ (j : Nat) (x y : V), xs[j]? = some x → ys[j]? = some y → VR H r x y) → VR H r (.tup xs) (.tup ys)
  | fn (f) (xs ys : List V) : xs.length = ys.length → (∀ (j : Nat) (x y : V), xs[j]? = some x → ys[j]? = some y → VR H r x y) → VR H r (.fn f xs) (.fn f ys)
  | ifc (t x y) : VR H r x y → VR H r (.ifc t x) (.ifc t y)

structure RenOk (r : Ren) (σ σ' : St) : Prop where
  fz : ∀ k o, r.fz k = some o → σ.H k = some o ∧ k.1 < PK
  pi : ∀ k' k, r.pi k' = some k → r.fz k = none ∧ (PK ≤ k'.1 → k = k') ∧ (k'.1 < PK → k.1 < PK)
  inj : ∀ k1 k2 k, r.pi k1 = some k → r.pi k2 = some k → k1 = k2
  nil : ∀ k', r.nil k' = true → r.pi k' = none ∧ k'.1 < PK
  tm : ∀ t, VR σ.H r (σ.tm t) (σ'.tm t)
  H : ∀ k' o', σ'.H k' = some o' → (∃ k gen esz cs cs', r.pi k' = some k ∧ σ.H k = some (.row gen esz cs) ∧ o' = .row (if PK ≤ k'.1 then gen else 0) esz cs' ∧ cs.length = cs'.length ∧
      ∀ (j : Nat) (x y : V), cs[j]? = some x → cs'[j]? = some y → VR σ.H r x y) ∨ (r.nil k' = true ∧ ∃ esz, o' = .row 0 esz []) ∨
    (∃ k es es', k'.1 < PK ∧ r.pi k' = some k ∧ σ.H k = some (.map es) ∧ o' = .map es' ∧ es.length = es'.length ∧ ∀ (j : Nat) (p q : V × V), es[j]? = some p → es'[j]? = some q → VR σ.H r p.1 q.1 ∧ VR σ.H r p.2 q.2)
  cnt : ∀ s n, σ'.cnt s ≤ n → r.pi (s, n) = none ∧ r.nil (s, n) = false
  cntP : ∀ s, PK ≤ s → σ.cnt s ≤ σ'.cnt s

section
variable {P : Program} {g : Gh} {w w' : World} {E : Env} {σ σ' : St} {a : Act}

/-- What is known behind the renaming. -/
def Gh.ren (g : Gh) (σ : St) (r : Ren) : Gh := ⟨allImm g r.fz, fun k' m => if PK ≤ k'.1 then g.ref k' m else if m = 0 then match r.pi k' with
  | some k => g.ref k (genOf (σ.H k))
  | none => if r.nil k' then some (none, 0) else none else none⟩

theorem ren_rep (hs : SimG E g σ a w) {r : Ren} (hr : RenOk r σ σ') {x y : V} (h : VR σ.H r x y) : ∀ {v : Value}, Rep g w v x → Rep (g.ren σ r) w v y := by
  have hsf : SimG E g ⟨σ.tm, r.fz, σ.cnt⟩ a w := hs.le ⟨fun _ => .inl rfl, fun k o h => (hr.fz k o h).1, fun _ => Nat.le_refl _⟩
  have up : ∀ {v x}, RepI g.imm w v x → RepI (g.ren σ r).imm w v x := fun h => h.mono (fun _ h => .inl h) (fun _ _ => rfl)
  induction h with
  | junk v => intro v _; exact .junk _ _ _
  | pure x d hx => intro v h; exact .imm _ _ (up (imV_rep d h hx))
  | frz x d => intro v h; exact .imm _ _ (snap_rep hsf d h)
  | msl k k' gen off n esz cs hp hpi hk =>
    intro v h
    obtain ⟨c, A, blk, cap, rfl, q1, q2, q3, q4, q5⟩ := h.msl_inv
    refine .msl _ _ _ _ c A blk cap ?_ q2 q3 q4 q5
    simp only [Gh.ren]
    rw [if_neg (by omega), if_pos trivial, hpi]
    simp only [hk, genOf]
    exact q1
  | mp k k' gen off esz cs hp hpi hk =>
    intro v h
    obtain ⟨b, cap, q1, rfl⟩ := h.mp_inv
    refine .mp _ _ _ b cap ?_
    simp only [Gh.ren]
    rw [if_neg (by omega), if_pos trivial, hpi]
    simp only [hk, genOf]
    exact q1
  | mm k k' es hp hpi hk =>
    intro v h
    obtain ⟨b, cap, q1, rfl⟩ := h.mm_inv
    refine .mm _ b cap ?_
    simp only [Gh.ren]
    rw [if_neg (by omega), if_pos trivial, hpi]
    simp only [hk, genOf]
    exact q1
  | pkl k gen off n hp =>
    intro v h
    obtain ⟨c, A, blk, cap, rfl, q1, q2, q3, q4, q5⟩ := h.msl_inv
    refine .msl _ _ _ _ c A blk cap ?_ q2 q3 q4 q5
    simp only [Gh.ren]
    rw [if_pos hp]
    exact q1
  | pkp k gen off hp =>
    intro v h
    obtain ⟨b, cap, q1, rfl⟩ := h.mp_inv
    refine .mp _ _ _ b cap ?_
    simp only [Gh.ren]
    rw [if_pos hp]
    exact q1
  | nil k' hn =>
    intro v h
    obtain ⟨A, rfl⟩ := h.e0_inv
    obtain ⟨h1, h2⟩ := hr.nil k' hn
    refine .msl _ _ _ _ 0 A none 0 ?_ (fun _ => rfl) (Nat.le_refl _) (fun _ e => by cases e) (fun _ => rfl)
    simp only [Gh.ren]
    rw [if_neg (by omega), if_pos trivial, h1, if_pos hn]
  | agg xs ys hl _ ih =>
    intro v h
    obtain ⟨vs, rfl, hl', hj⟩ := h.agg_inv
    refine .agg vs ys (by omega) fun j v c hv hc => ?_
    have : j < xs.length := by
      have := (List.getElem?_eq_some_iff.1 hc).1
      omega
    exact ih j _ c (List.getElem?_eq_getElem this) hc (hj j v _ hv (List.getElem?_eq_getElem this))
  | tup xs ys hl _ ih =>
    intro v h
    obtain ⟨vs, rfl, hl', hj⟩ := h.tup_inv
    refine .tup vs ys (by omega) fun j v c hv hc => ?_
    have : j < xs.length := by
      have := (List.getElem?_eq_some_iff.1 hc).1
      omega
    exact ih j _ c (List.getElem?_eq_getElem this) hc (hj j v _ hv (List.getElem?_eq_getElem this))
  | fn f xs ys hl _ ih =>
    intro v h
    obtain ⟨vs, rfl, hl', hj⟩ := h.fn_inv
    refine .fn f vs ys (by omega) fun j v c hv hc => ?_
    have : j < xs.length := by
      have := (List.getElem?_eq_some_iff.1 hc).1
      omega
    exact ih j _ c (List.getElem?_eq_getElem this) hc (hj j v _ hv (List.getElem?_eq_getElem this))
  | ifc t x y _ ih =>
    intro v h
    obtain ⟨u, rfl, hu⟩ := h.ifc_inv
    exact .ifc t u y (ih hu)

theorem SimG.ren (hs : SimG E g σ a w) {r : Ren} (hr : RenOk r σ σ') : SimG E (g.ren σ r) σ' a w := by
  have hsf : SimG E g ⟨σ.tm, r.fz, σ.cnt⟩ a w := hs.le ⟨fun _ => .inl rfl, fun k o h => (hr.fz k o h).1, fun _ => Nat.le_refl _⟩
  have href : ∀ k' k gen esz cs, r.pi k' = some k → σ.H k = some (.row gen esz cs) → (g.ren σ r).ref k' (if PK ≤ k'.1 then gen else 0) = g.ref k gen := by
    intro k' k gen esz cs h1 h2
    simp only [Gh.ren]
    split
    · rename_i hp
      rw [(hr.pi k' k h1).2.1 hp]
    · rw [if_pos rfl, h1]; simp only [h2, genOf]
  have hblk : ∀ k' o', σ'.H k' = some o' → (∃ k o, r.pi k' = some k ∧ σ.H k = some o ∧ blkOf (g.ren σ r) k' o' = blkOf g k o) ∨ blkOf (g.ren σ r) k' o' = none := by
    intro k' o' h
    rcases hr.H k' o' h with ⟨k, gen, esz, cs, cs', h1, h2, rfl, h4, h5⟩ | ⟨hn, esz, rfl⟩ | ⟨k, es, es', hp, h1, h2, rfl, h4, h5⟩
    · refine .inl ⟨k, _, h1, h2, ?_⟩
      simp only [blkOf]
      rw [href k' k gen esz cs h1 h2]
    · right
      obtain ⟨e1, e2⟩ := hr.nil k' hn
      simp only [blkOf, Gh.ren]
      rw [if_neg (by omega), if_pos trivial, e1, if_pos hn]; rfl
    · refine .inl ⟨k, _, h1, h2, ?_⟩
      simp only [blkOf, Gh.ren]
      rw [if_neg (by omega), if_pos trivial, h1]
      simp only [h2, genOf]
  refine ⟨hs.below, hs.sizeB, hs.size, hs.defers, fun t => ren_rep hs hr (hr.tm t) (hs.tm t), allImm_lt hsf, fun b hb => .inl (hs.imm0 b hb), ?_, ?_, ?_, ?_, ?_⟩
  · intro b hb hm
    rcases hm with hm | ⟨key, o, hk, hbk⟩
    · exact hs.immB b hb hm
    · obtain ⟨h1, h2⟩ := hr.fz key o hk
      rcases ((hs.obj key o h1).blk hbk).2.2 with h | h
      · omega
      · have := h.1; omega
  · intro k' o' hk'
    rcases hr.H k' o' hk' with ⟨k, gen, esz, cs, cs', h1, h2, rfl, h4, h5⟩ | ⟨hn, esz, rfl⟩ | ⟨k, es, es', hp, h1, h2, rfl, h4, h5⟩
    · obtain ⟨blk, cap, r1, r2, r3⟩ := hs.obj k _ h2
      obtain ⟨p1, p2, p3⟩ := hr.pi k' k h1
      refine ⟨blk, cap, (href k' k gen esz cs h1 h2).trans r1, fun m hm => ?_, ?_⟩
      · simp only [Gh.ren]
        split
        · rename_i hp
          obtain rfl := p2 hp
          rw [if_pos hp] at hm
          exact r2 m hm
        · rename_i hp
          rw [if_neg hp] at hm
          rw [if_neg (by omega)]
      · cases blk with
        | none =>
          obtain ⟨e1, e2⟩ := r3
          subst e1
          exact ⟨List.eq_nil_of_length_eq_zero (by simpa using h4.symm), e2⟩
        | some b =>
          obtain ⟨q1, q2, q3, us, T, fz, t1, t2, t3, t4, t5⟩ := r3
          refine ⟨?_, q2, ?_, us, T, fz, t1, t2, by omega, t4, fun j u c hu hc => ?_⟩
          · rcases q1 with h | ⟨h, hF⟩
            · exact .inl h
            · refine .inr ⟨?_, hF⟩
              rcases Nat.lt_or_ge k'.1 PK with hp | hp
              · have := p3 hp; omega
              · exact hp
          · rintro (hm | ⟨key, o, hk, hbk⟩)
            · exact q3 hm
            · have := hs.apart key k o _ b (hr.fz key o hk).1 h2 hbk (by simp [blkOf, r1])
              subst this
              rw [p1] at hk; cases hk
          · have hj : j < cs.length := by
              have := (List.getElem?_eq_some_iff.1 hc).1
              omega
            exact ren_rep hs hr (h5 j _ c (List.getElem?_eq_getElem hj) hc) (t5 j u _ hu (List.getElem?_eq_getElem hj))
    · obtain ⟨e1, e2⟩ := hr.nil k' hn
      refine ⟨none, 0, ?_, fun m hm => ?_, rfl, rfl⟩
      · simp only [Gh.ren]
        rw [if_neg (by omega), if_pos trivial, e1, if_pos hn]
      · simp only [Gh.ren]
        rw [if_neg (by omega), if_neg (by omega)]
    · obtain ⟨b, r1, r2, q1, q2, q3, ents, clock, t1, t2, t3⟩ := hs.obj k _ h2
      obtain ⟨p1, p2, p3⟩ := hr.pi k' k h1
      refine ⟨b, ?_, fun m hm => ?_, ?_, q2, ?_, ents, clock, t1, by omega, fun j e q he hq => ?_⟩
      · simp only [Gh.ren]
        rw [if_neg (by omega), if_pos trivial, h1]
        simp only [h2, genOf]
        exact r1
      · simp only [Gh.ren]
        rw [if_neg (by omega), if_neg (by omega)]
      · rcases q1 with h | ⟨h, hF⟩
        · exact .inl h
        · have := p3 hp; omega
      · rintro (hm | ⟨key, o, hk, hbk⟩)
        · exact q3 hm
        · have := hs.apart key k o _ b (hr.fz key o hk).1 h2 hbk (by simp [blkOf, r1])
          subst this
          rw [p1] at hk; cases hk
      · have hj : j < es.length := by
          have := (List.getElem?_eq_some_iff.1 hq).1
          omega
        obtain ⟨v1, v2⟩ := h5 j _ q (List.getElem?_eq_getElem hj) hq
        obtain ⟨w1, w2⟩ := t3 j e _ he (List.getElem?_eq_getElem hj)
        exact ⟨ren_rep hs hr v1 w1, ren_rep hs hr v2 w2⟩
  · intro k k' o o' b hk hk' hb hb'
    rcases hblk k o hk with ⟨k1, o1, h1, h2, h3⟩ | h3
    · rcases hblk k' o' hk' with ⟨k2, o2, h1', h2', h3'⟩ | h3'
      · rw [h3] at hb; rw [h3'] at hb'
        have := hs.apart k1 k2 o1 o2 b h2 h2' hb hb'
        subst this
        exact hr.inj k k' k1 h1 h1'
      · rw [h3'] at hb'; cases hb'
    · rw [h3] at hb; cases hb
  · intro s n hn
    obtain ⟨h1, h2⟩ := hr.cnt s n hn
    refine ⟨?_, fun m => ?_⟩
    · cases hh : σ'.H (s, n) with
      | none => rfl
      | some o' =>
        rcases hr.H _ _ hh with ⟨k, gen, esz, cs, cs', e1, _⟩ | ⟨e1, _⟩ | ⟨k, es, es', _, e1, _⟩
        · rw [h1] at e1; cases e1
        · rw [h2] at e1; cases e1
        · rw [h1] at e1; cases e1
    · simp only [Gh.ren]
      split
      · rename_i hp
        exact (hs.fresh s n (Nat.le_trans (hr.cntP s hp) hn)).2 m
      · rw [h1]
        simp only [h2, Bool.false_eq_true, if_false]
        split <;> rfl
  · intro k n x hp hx
    simp only [Gh.ren]
    rw [if_pos hp]
    exact hs.ref0 k n x hp hx

theorem Ent.ren {r : Ren} (hr : RenOk r σ σ') : Ent σ σ' := fun _ _ _ ⟨g, h⟩ => ⟨_, h.ren hr⟩

end
end Go.Lg
