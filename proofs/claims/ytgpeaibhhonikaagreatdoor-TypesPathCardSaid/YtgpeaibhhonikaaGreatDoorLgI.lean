/-
  Each operation of the plain logic is borne out by the model's own: all of them.
-/
import Derived.Test.YtgpeaibhhonikaaGreatDoorLgH
import Derived.Laws.MakeOwn
set_option linter.unusedSimpArgs false
set_option linter.unusedVariables false
namespace Go.Lg
open Go Go.RowKit

theorem flatten_replicate_get {α : Type} (zs : List α) : ∀ (n j : Nat), (List.replicate n zs).flatten[j]? = if j < n * zs.length then zs[j % zs.length]? else none
  | 0, j => by simp
  | n + 1, j => by
    rw [List.replicate_succ, List.flatten_cons, List.getElem?_append]
    by_cases h : j < zs.length
    · rw [if_pos h, if_pos (by rw [Nat.add_mul]; omega), Nat.mod_eq_of_lt h]
    · rw [if_neg h, flatten_replicate_get zs n (j - zs.length)]
      by_cases h2 : j - zs.length < n * zs.length
      · rw [if_pos h2, if_pos (by rw [Nat.add_mul]; omega)]
        congr 1
        exact (Nat.mod_eq_sub_mod (by omega)).symm
      · rw [if_neg h2, if_neg (by rw [Nat.add_mul]; omega)]

section
variable {P : Program} {g : Gh} {w w' : World} {E : Env} {σ : St} {a : Act}

/-- The zero cells of so many elements. -/
theorem zeros_rep {zv : Value} {n s : Nat} (hs : (ofVal zv).cells.length = s) (hs0 : s ≠ 0) {us : Array Value} (hus : us = (Array.range (n * s)).map (fun i => zv.cells[i % zv.cells.size]!)) {m : Nat} (hm : m ≤ n) :
    us.size = n * s ∧ ((List.replicate m (ofVal zv).cells).flatten).length = m * s ∧
    ∀ (j : Nat) (u : Value) (c : V), us[j]? = some u → ((List.replicate m (ofVal zv).cells).flatten)[j]? = some c → Rep g w u c := by
  have hz : zv.cells.size = s := by rw [← ofVal_cells]; exact hs
  refine ⟨by simp [hus], by simp [hs, List.map_const', List.sum_replicate_nat], fun j u c hu hc => ?_⟩
  rw [flatten_replicate_get, hs] at hc
  split at hc
  · rename_i hlt
    have hl2 : m * s ≤ n * s := Nat.mul_le_mul_right _ hm
    have hj : j < n * s := by omega
    have hmod : j % s < s := Nat.mod_lt _ (by omega)
    have hu' : zv.cells[j % s]? = some u := by
      rw [hus] at hu
      simp only [Array.getElem?_map, Array.getElem?_range] at hu
      simp only [hj, if_true, Option.map_some, Option.some.injEq] at hu
      rw [← hu, hz]
      simp [hz, hmod]
    exact ofVal_cells_rep hu' hc
  · cases hc

theorem mksl_ok (hs : SimG E g σ a w) {site : Nat} {t e : TypeId} {s by_ : Nat} {vl vc : Value} {l c : V} {z : V} (ht : P.underlying t = some (.slice e)) (hsz : szT P e = some s) (hs0 : s ≠ 0) (hby : bytesT P e = some by_)
    (hz : zeroT P e = some z) (hzl : z.cells.length = s) (hl : Rep g w vl l) (hc : Rep g w vc c) :
    LRes.ok P E g σ a w site (do pure (.value (← Instr.makeSlice t vl vc))) (lmksl s by_ z.cells l c) := by
  cases l with
  | int k n =>
    cases c with
    | int k' m =>
      have := hl.int_inv; subst this
      have := hc.int_inv; subst this
      intro ⟨h0, h1, h2, h3⟩
      obtain ⟨i, hi, rfl⟩ := bytesT_run hby
      have hsi : i.size = s := by simpa [szT, hi] using hsz
      unfold zeroT at hz
      rw [hi] at hz
      cases hzz : i.zero with
      | none => simp [hzz] at hz
      | some zv =>
        simp [hzz] at hz
        subst hz
        have hcomm : (i.bytes : Int) * m = m * i.bytes := Int.mul_comm _ _
        have run := run_make (P := P) w t e i zv ht hi hzz k k' n m h0 h1 (by rw [hcomm]; omega) (by omega)
        rw [hsi] at run
        obtain ⟨q1, q2, q3⟩ := zeros_rep (g := g) (w := w) (n := m.toNat) (us := madeCells zv.cells (m.toNat * s)) hzl hs0 rfl (m := n.toNat) (by omega)
        have hmul : n.toNat * s ≤ m.toNat * s := Nat.mul_le_mul_right _ (by omega)
        refine ⟨_, _, _, run_val run, newRow_obj hs site (cap := m.toNat) e (by rw [q1, q2]; exact hmul) (by rw [q1]; exact Nat.le_refl _) q3, ?_⟩
        exact .msl _ _ _ _ _ _ (some w.heap.size) m.toNat (Gh.set_same _ _ _ _) (fun _ => rfl) (by omega) (fun b hb _ => by cases hb; rfl) (fun h => by cases h)
    | _ => trivial
  | _ => trivial

theorem trParts_map {s : Nat} (parts : Array (Nat × Operand)) (ps : List (Nat × Nat × Rd)) (h : parts.toList.map (fun (i, x) => (i * s, s, rdOf x)) = ps) :
    ps.length = parts.toList.length ∧ ∀ (j i : Nat) (x : Operand) (p : Nat × Nat × Rd), parts.toList[j]? = some (i, x) → ps[j]? = some p → (some (i * s, s) : Option (Nat × Nat)) = some (p.1, p.2.1) ∧ p.2.2 = rdOf x := by
  subst h
  refine ⟨by simp, fun j i x p h1 h2 => ?_⟩
  rw [List.getElem?_map, h1] at h2
  cases h2
  exact ⟨rfl, rfl⟩

theorem mapM_spec {α β : Type} {f : α → Option β} : ∀ {l : List α} {l' : List β}, l.mapM f = some l' → l'.length = l.length ∧ ∀ (j : Nat) (x : α) (y : β), l[j]? = some x → l'[j]? = some y → f x = some y
  | [], l', h => by simp at h; subst h; exact ⟨rfl, fun j x y h => by simp at h⟩
  | x :: l, l', h => by
    simp only [List.mapM_cons, Option.bind_eq_bind, Option.bind_eq_some_iff] at h
    obtain ⟨y, hy, l2, h2, h3⟩ := h
    cases h3
    obtain ⟨i1, i2⟩ := mapM_spec h2
    refine ⟨by simp [i1], fun j u v hu hv => ?_⟩
    cases j with
    | zero => simp at hu hv; subst hu hv; exact hy
    | succ j => exact i2 j u v hu hv

theorem places_run : ∀ (l : List Field), l.all (fun f => (szT P f.type).isSome) = true →
    (l.mapM fun f => Prod.mk f.offset <$> sizeOf f.type : Sem (List (Nat × Nat))).run P w = .ok (l.map fun f => (f.offset, (szT P f.type).getD 0)) w
  | [], _ => by simp
  | f :: l, h => by
    simp only [List.all_cons, Bool.and_eq_true] at h
    obtain ⟨s, hs⟩ := Option.isSome_iff_exists.1 h.1
    simp [List.mapM_cons, szT_run hs, places_run l h.2, hs]

theorem build_ok (hs : SimG E g σ a w) {site : Nat} {t : TypeId} {z : V} {parts : Array (Nat × Operand)} {ps : List (Nat × Nat × Rd)} (hz : zeroT P t = some z) (hps : trParts P t parts = some ps) :
    LRes.ok P E g σ a w site (do pure (.value (← Instr.build t (parts.map fun (i, x) => (i, a.eval x))))) (.A (partsOk σ.tm z.cells.length ps) (.agg (fillL σ.tm z.cells ps))) := by
  obtain ⟨zv, hzv, rfl⟩ := zeroT_run (w := w) hz
  intro hok
  have htl : (parts.map fun (i, x) => (i, a.eval x)).toList = parts.toList.map fun (i, x) => (i, a.eval x) := by simp
  unfold trParts at hps
  cases hd : P.underlying t with
  | none => simp [hd] at hps
  | some d =>
    cases d with
    | struct fs =>
      simp only [hd] at hps
      split at hps
      case isFalse => cases hps
      rename_i hsome
      obtain ⟨m1, m2⟩ := mapM_spec hps
      have hpl : (fs.mapM fun f => Prod.mk f.offset <$> sizeOf f.type : Sem (Array (Nat × Nat))).run P w = .ok (fs.toList.map fun f => (f.offset, (szT P f.type).getD 0)).toArray w := by
        rw [Array.mapM_eq_mapM_toList]
        simp [places_run _ hsome]
      have hpl2 : ∀ (i : Nat) (f : Field), fs[i]? = some f → ∀ s, szT P f.type = some s → (fs.toList.map fun f => (f.offset, (szT P f.type).getD 0)).toArray[i]? = some (f.offset, s) := by
        intro i f hf s hs'
        simp [hf, hs']
      obtain ⟨us', f1, f2, f3⟩ := fill_ok (g := g) (w := w) (place := ((fs.toList.map fun f => (f.offset, (szT P f.type).getD 0)).toArray[·]?)) hs.tm parts.toList ps zv.cells (ofVal zv).cells m1 (by
        intro j i x p h1 h2
        have := m2 j _ _ h1 h2
        simp only [Option.bind_eq_bind, Option.bind_eq_some_iff] at this
        obtain ⟨f, hf, s, hs', hp⟩ := this
        cases hp
        exact ⟨hpl2 i f hf s hs', rfl⟩) (by rw [ofVal_cells]) (fun j u c h1 h2 => ofVal_cells_rep h1 h2) hok
      refine ⟨_, w, g, run_val (w' := w) (u := .agg us') ?_, hs, .agg _ _ f2 f3⟩
      simp only [Instr.build]
      simp at f1
      simp [hzv, run_underlying hd, hpl, f1]
    | array n e =>
      simp only [hd, Option.bind_eq_bind, Option.bind_eq_some_iff] at hps
      obtain ⟨s, hs', hps⟩ := hps
      obtain ⟨m1, m2⟩ := mapM_spec hps
      obtain ⟨us', f1, f2, f3⟩ := fill_ok (g := g) (w := w) (place := fun i => some (i * s, s)) hs.tm parts.toList ps zv.cells (ofVal zv).cells m1 (by
        intro j i x p h1 h2
        have := m2 j _ _ h1 h2
        cases this
        exact ⟨rfl, rfl⟩) (by rw [ofVal_cells]) (fun j u c h1 h2 => ofVal_cells_rep h1 h2) hok
      refine ⟨_, w, g, run_val (w' := w) (u := .agg us') ?_, hs, .agg _ _ f2 f3⟩
      simp only [Instr.build]
      simp [hzv, run_underlying hd, szT_run hs', htl, f1]
    | _ => simp [hd] at hps

theorem imV_rep : ∀ (d : Nat) {v : Value} {x : V}, Rep g w v x → imV d x = true → RepI g.imm w v x := by
  intro d
  induction d with
  | zero =>
    intro v x h hi
    cases h with
    | imm _ _ h => exact h
    | _ => cases hi
  | succ d ih =>
    intro v x h hi
    cases h with
    | imm _ _ h => exact h
    | agg vs cs hs hr => exact .agg vs cs hs fun j v c hv hc => ih (hr j v c hv hc) (List.all_eq_true.1 hi _ (List.mem_of_getElem? hc))
    | tup vs cs hs hr => exact .tup vs cs hs fun j v c hv hc => ih (hr j v c hv hc) (List.all_eq_true.1 hi _ (List.mem_of_getElem? hc))
    | fn f vs cs hs hr => exact .fn f vs cs hs fun j v c hv hc => ih (hr j v c hv hc) (List.all_eq_true.1 hi _ (List.mem_of_getElem? hc))
    | ifc t v x hr => exact .ifc t v x (ih hr hi)
    | mp => cases hi
    | msl => cases hi
    | msv => cases hi
    | mm => cases hi

theorem bsl_ok (hs : SimG E g σ a w) {site : Nat} {t e : TypeId} {n s : Nat} {z : V} {parts : Array (Nat × Operand)} (ht : P.underlying t = some (.slice e)) (hsz : szT P e = some s) (hs0 : s ≠ 0) (hz : zeroT P e = some z) (hzl : z.cells.length = s)
    (hn : ¬ n * s > 2 ^ 24) (hpn : n = 0 → parts = #[]) :
    LRes.ok P E g σ a w site (do pure (.value (← Instr.buildSlice t n (parts.map fun (i, x) => (i, a.eval x)))))
      (if n = 0 then .A True .e0 else .A (partsOk σ.tm ((List.replicate n z.cells).flatten).length (parts.toList.map fun (i, x) => (i * s, s, rdOf x)) ∧ (fillL σ.tm ((List.replicate n z.cells).flatten) (parts.toList.map fun (i, x) => (i * s, s, rdOf x))).all (imV 3) = true) (.sl n (fillL σ.tm ((List.replicate n z.cells).flatten) (parts.toList.map fun (i, x) => (i * s, s, rdOf x))))) := by
  obtain ⟨zv, hzv, rfl⟩ := zeroT_run (w := w) hz
  have htl : (parts.map fun (i, x) => (i, a.eval x)).toList = parts.toList.map fun (i, x) => (i, a.eval x) := by simp
  obtain ⟨q1, q2, q3⟩ := zeros_rep (g := g) (w := w) (n := n) hzl hs0 rfl (m := n) (Nat.le_refl _)
  obtain ⟨m1, m2⟩ := trParts_map (s := s) parts _ rfl
  -- what runs, once the parts are filled in
  have run : ∀ us', Instr.fill (fun i => some (i * s, s)) ((Array.range (n * s)).map (fun i => zv.cells[i % zv.cells.size]!)) (parts.toList.map fun (i, x) => (i, a.eval x)) = some us' → n ≠ 0 →
      (Instr.buildSlice t n (parts.map fun (i, x) => (i, a.eval x))).run P w = .ok (.slice (some ⟨w.heap.size, 0, none⟩) n n) (w.alloc (.cells us' e)) := by
    intro us' hf hn0
    have hne : ¬ (n * s = 0) := by
      intro h
      rcases Nat.mul_eq_zero.1 h with h | h
      · exact hn0 h
      · exact hs0 h
    have hn' : ¬ (16777216 < n * s) := by omega
    simp only [Instr.buildSlice]
    simp [run_underlying ht, szT_run hsz, hn', hne, hn0, hs0, hzv, htl, hf, newRow]
  by_cases h0 : n = 0
  · rw [if_pos h0]
    subst h0
    intro _
    have hpa := hpn rfl
    subst hpa
    refine ⟨_, _, _, run_val (w' := w.alloc (.cells #[] e)) (u := .slice (some ⟨w.heap.size, 0, none⟩) 0 0) ?_, hs.grow_same ((BelowD.refl _ _).alloc (Nat.le_refl _) _), .imm _ _ (.e0 _)⟩
    simp only [Instr.buildSlice]
    simp [run_underlying ht, szT_run hsz, Instr.fill, newRow, show Array.range 0 = #[] from rfl]
  · rw [if_neg h0]
    intro ⟨hok, him⟩
    obtain ⟨us', f1, f2, f3⟩ := fill_ok (g := g) (w := w) (place := fun i => some (i * s, s)) hs.tm parts.toList _ _ _ m1 m2 (by rw [q1, q2]) q3 hok
    have hb : BelowD w.heap.size w (w.alloc (.cells us' e)) := (BelowD.refl _ _).alloc (Nat.le_refl _) _
    refine ⟨_, _, _, run_val (run us' f1 h0), hs.grow (imm' := fun b => g.imm b ∨ b = w.heap.size) hb (fun _ h => .inl h) (fun b h => ?_), ?_⟩
    · rcases h with h | h
      · exact .inl h
      · exact .inr (by subst h; simp)
    · have hbk : (w.alloc (.cells us' e)).heap[w.heap.size]? = some (.cells us' e (0, 0)) := by
        show (w.heap.push _)[w.heap.size]? = _
        simp
      refine .imm _ _ (.sl w.heap.size 0 n n us' e (0, 0) _ (.inr rfl) hbk (by omega) (Nat.le_refl _) fun j u c hu hc => ?_)
      have h1 := f3 j u c (by simpa using hu) hc
      have h2 : imV 3 c = true := List.all_eq_true.1 him _ (List.mem_of_getElem? hc)
      exact (imV_rep _ h1 h2).mono (fun b h => .inl h) (fun b hm => hb.block b (hs.immlt b hm))

end
end Go.Lg
