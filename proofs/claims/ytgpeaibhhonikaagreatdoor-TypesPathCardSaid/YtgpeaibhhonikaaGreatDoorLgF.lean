/-
  Each operation of the plain logic is borne out by the model's own: one by one.
-/
import Derived.Test.YtgpeaibhhonikaaGreatDoorLgE
set_option linter.unusedSimpArgs false
set_option linter.unusedVariables false
namespace Go.Lg
open Go Go.RowKit

section
variable {P : Program} {g : Gh} {w w' : World} {E : Env} {σ : St} {a : Act}

theorem aggOf_run {t : Nat} {b : Bool} (h : aggOf P t = some b) : (isAgg t).run P w = .ok b w := by
  unfold aggOf at h
  cases hd : P.underlying t with
  | none => simp [hd] at h
  | some d => cases d <;> simp [hd] at h <;> subst h <;> simp [isAgg, run_underlying hd]

theorem ofVal_cells_rep {v u : Value} {c : V} {j : Nat} (h1 : v.cells[j]? = some u) (h2 : (ofVal v).cells[j]? = some c) : Rep g w u c := by
  have key : ∀ v : Value, (∀ cs, v ≠ .agg cs) → v.cells[j]? = some u → (ofVal v).cells[j]? = some c → Rep g w u c := by
    intro v hv h1 h2
    have e1 : ofVal v = ofVal1 v := by
      unfold ofVal
      split
      · exact absurd rfl (hv _)
      · rfl
    have e2 : v.cells = #[v] := by
      unfold Value.cells
      split
      · exact absurd rfl (hv _)
      · rfl
    rw [e1, cells_ofVal1] at h2
    rw [e2] at h1
    cases j with
    | zero => simp at h1 h2; subst h1 h2; exact .imm _ _ (repI_ofVal1 _)
    | succ j => simp at h2
  cases v with
  | agg cs =>
    simp only [ofVal, V.cells, Value.cells, List.getElem?_map, Option.map_eq_some_iff] at h1 h2
    obtain ⟨x, h2, rfl⟩ := h2
    rw [Array.getElem?_toList, h1] at h2
    cases h2
    exact .imm _ _ (repI_ofVal1 _)
  | _ => exact key _ (fun _ h => by cases h) h1 h2

/-- A new block that is an object. -/
theorem newRow_obj (hs : SimG E g σ a w) (s : Nat) {us : Array Value} {cs : List V} {esz cap : Nat} (T : TypeId) (hl : cs.length ≤ us.size) (hc : cap * esz ≤ us.size)
    (hr : ∀ (j : Nat) (u : Value) (c : V), us[j]? = some u → cs[j]? = some c → Rep g w u c) :
    SimG E (g.set (s, σ.cnt s) 0 (some w.heap.size, cap)) ⟨σ.tm, hupd σ.H (s, σ.cnt s) (.row 0 esz cs), cupd σ.cnt s⟩ a (w.alloc (.cells us T)) := by
  have hb : BelowD w.heap.size w (w.alloc (.cells us T)) := (BelowD.refl _ _).alloc (Nat.le_refl _) _
  refine hs.newObj s hb ⟨Nat.le_refl _, by simp, us, T, (0, 0), ?_, ?_, hl, hc, ?_⟩
  · show (w.heap.push _)[w.heap.size]? = _
    simp
  · exact ⟨fun o _ h => by omega, Nat.le_refl _⟩
  · intro j u c hu hc'
    refine (hr j u c hu hc').mono (fun _ h => h) (fun b hm => hb.block b (hs.immlt b hm)) ?_
    intro k n r h
    rw [Gh.set_ne]
    · exact h
    · rintro ⟨rfl, rfl⟩
      rw [(hs.fresh s (σ.cnt s) (Nat.le_refl _)).2] at h; cases h

theorem rep_new (key : Key) (gen b cap : Nat) (off : Nat) : Rep (g.set key gen (some b, cap)) w (.pointer (some ⟨b, off, none⟩)) (.mp key gen off) :=
  .mp key gen off b cap (Gh.set_same _ _ _ _)

theorem alloc_ok (hs : SimG E g σ a w) {s : Nat} {t : TypeId} {z : V} (h : zeroT P t = some z) :
    LRes.ok P E g σ a w s (do pure (.value (← Instr.alloc t true (.tuple #[])))) (.C True (.row 0 0 z.cells) fun k => .mp k 0 0) := by
  obtain ⟨v, hv, rfl⟩ := zeroT_run (w := w) h
  intro _
  refine ⟨_, _, _, ?_, newRow_obj hs s (us := v.cells) (cs := (ofVal v).cells) (esz := 0) (cap := 0) t (by rw [ofVal_cells]; exact Nat.le_refl _) (by omega) (fun j u c h1 h2 => ofVal_cells_rep h1 h2), rep_new _ _ _ _ 0⟩
  simp [Instr.alloc, hv, newVar, newRow]

theorem box_ok (hs : SimG E g σ a w) {s : Nat} {t : TypeId} {v : Value} {x : V} (h : Rep g w v x) :
    LRes.ok P E g σ a w s (do pure (.value (← Instr.box t v))) (.C (x.known = true) (.row 0 0 x.cells) fun k => .mp k 0 0) := by
  intro hk
  obtain ⟨h1, h2⟩ := h.cells hk
  refine ⟨_, _, _, ?_, newRow_obj hs s (us := v.cells) (cs := x.cells) (esz := 0) (cap := 0) t (by omega) (by omega) h2, rep_new _ _ _ _ 0⟩
  simp [Instr.box, newVar, newRow]

/-- A load out of a row of cells. -/
theorem loadAt_run {t n : Nat} {agg : Bool} {b o off : Nat} {us : Array Value} {T fz} {cs : List V} {v : V} (hsz : szT P t = some n) (hagg : aggOf P t = some agg)
    (hb : w.heap[b]? = some (.cells us T fz)) (hl : o + cs.length ≤ us.size)
    (hr : ∀ (j : Nat) (u : Value) (c : V), us[o + j]? = some u → cs[j]? = some c → Rep g w u c) (h : ldV agg n cs off = some v) :
    ∃ u, (Instr.loadAt t (.pointer (some ⟨b, o + off, none⟩))).run P w = .ok u w ∧ Rep g w u v := by
  obtain ⟨h1, h2⟩ := ldV_sound hl hr h
  cases agg with
  | true =>
    obtain ⟨hle, hv⟩ := h1 rfl
    refine ⟨_, ?_, hv⟩
    have hlc := run_loadCells (P := P) (off := o + off) (n := n) hb (by omega)
    simp only [Instr.loadAt, Instr.sureAddr, loadVar]
    simp [aggOf_run hagg, szT_run hsz, hlc]
  | false =>
    obtain ⟨u, hu, hv⟩ := h2 rfl
    refine ⟨u, ?_, hv⟩
    have hc := cell_at (o := o + off) hb
    rw [hu] at hc
    simp only [Instr.loadAt, Instr.sureAddr, loadVar]
    simp [aggOf_run hagg, hc]

theorem load_pure (hs : SimG E g σ a w) {t n : Nat} {agg : Bool} {v : Value} {x : V} (hsz : szT P t = some n) (hagg : aggOf P t = some agg) (h : Rep g w v x) :
    LRes.pureOk P g w (Instr.loadAt t v) (lload agg n σ.H x) := by
  cases x with
  | ip cs off =>
    obtain ⟨b, o, us, T, fz, rfl, hm, hb, hl, hr⟩ := h.ip_inv
    simp only [lload, LRes.ofOpt]
    cases hv : ldV agg n cs off with
    | none => trivial
    | some v =>
      intro _
      obtain ⟨u, h1, h2⟩ := loadAt_run hsz hagg hb hl (fun j u c h1 h2 => .imm _ _ (hr j u c h1 h2)) hv
      exact ⟨u, h1, h2⟩
  | mp key gen off =>
    obtain ⟨b, cap, hb, rfl⟩ := h.mp_inv
    simp only [lload]
    cases hk : σ.H key with
    | none => trivial
    | some o =>
      cases o with
      | row g' esz cs =>
        simp only []
        by_cases e : g' = gen
        · subst e
          simp only [LRes.ofOpt, if_true]
          cases hv : ldV agg n cs off with
          | none => trivial
          | some v =>
            intro _
            obtain ⟨blk, cap', r1, r2, r3⟩ := hs.obj key _ hk
            rw [hb] at r1; cases r1
            obtain ⟨_, _, _, us, T, fz, q1, q2, q3, q4, q5⟩ := r3
            obtain ⟨u, h1, h2⟩ := loadAt_run (o := 0) (off := off) (cs := cs) hsz hagg q1 (by omega) (fun j u c h1 h2 => q5 j u c (by simpa using h1) h2) hv
            rw [Nat.zero_add] at h1
            exact ⟨u, h1, h2⟩
        · simp only [if_neg e]; trivial
      | map es => trivial
  | _ => trivial

theorem load_ok (hs : SimG E g σ a w) {s : Nat} {t n : Nat} {agg : Bool} {v : Value} {x : V} (hsz : szT P t = some n) (hagg : aggOf P t = some agg) (h : Rep g w v x) :
    LRes.ok P E g σ a w s (do pure (.value (← Instr.loadAt t v))) (lload agg n σ.H x) := ok_of_pure hs (load_pure hs hsz hagg h)

theorem setCells_get {cs xs : List V} {off j : Nat} {c : V} (hl : off + xs.length ≤ cs.length) (h : (setCells cs off xs)[j]? = some c) :
    if off ≤ j ∧ j < off + xs.length then xs[j - off]? = some c else cs[j]? = some c := by
  unfold setCells at h
  rw [List.getElem?_append] at h
  have hm : (cs.take off).length = off := by rw [List.length_take]; omega
  rw [hm] at h
  split at h
  · rename_i hlt
    rw [if_neg (by omega)]
    rw [List.getElem?_take, if_pos hlt] at h
    exact h
  · rename_i hge
    rw [List.getElem?_append] at h
    split at h
    · rename_i h2; rw [if_pos (by omega)]; exact h
    · rename_i h2
      rw [if_neg (by omega)]
      rw [List.getElem?_drop] at h
      rw [← h]; congr 1; omega

theorem setCells_length {cs xs : List V} {off : Nat} (hl : off + xs.length ≤ cs.length) : (setCells cs off xs).length = cs.length := by
  simp [setCells]; omega

theorem store_ok (hs : SimG E g σ a w) {s : Nat} {t n : Nat} {v vx : Value} {x y : V} (hsz : szT P t = some n) (h : Rep g w v x) (hy : Rep g w vx y) :
    LRes.ok P E g σ a w s (do Instr.storeAt t v vx; pure .skip) (lstore n σ.H x y) := by
  cases x with
  | mp key gen off =>
    obtain ⟨b, cap, hb, rfl⟩ := h.mp_inv
    simp only [lstore]
    cases hk : σ.H key with
    | none => trivial
    | some o =>
      cases o with
      | row g' esz cs =>
        simp only []
        by_cases e : g' = gen
        · subst e
          simp only [if_true]
          intro ⟨e1, e2, e3⟩
          obtain ⟨blk, cap', r1, r2, r3⟩ := hs.obj key _ hk
          have r1' := r1
          rw [hb] at r1; cases r1
          obtain ⟨p1, p2, p3, us, T, fz, q1, q2, q3, q4, q5⟩ := r3
          have hyk : y.known = true := by
            cases y <;> first | rfl | (simp [V.cells, V.one] at e3)
          obtain ⟨c1, c2⟩ := hy.cells hyk
          have hone : ∀ u ∈ vx.cells.toList, oneV u = true := by
            intro u hu
            obtain ⟨j, hj⟩ := List.mem_iff_getElem?.1 hu
            rw [Array.getElem?_toList] at hj
            have hjl : j < y.cells.length := by
              have : j < vx.cells.size := by
                rcases Nat.lt_or_ge j vx.cells.size with h' | h'
                · exact h'
                · rw [Array.getElem?_eq_none h'] at hj; cases hj
              omega
            have := c2 j u _ hj (List.getElem?_eq_getElem hjl)
            exact this.oneV (List.all_eq_true.1 e3 _ (List.getElem_mem hjl))
          obtain ⟨w', hr, hst⟩ := run_storeCells (P := P) (b := b) (off := off) vx.cells.toList 0 w us q1 q2.1 (by simp; omega) hone
          obtain ⟨us', f1, f2, f3⟩ := hst.cells
          have hbel : BelowF E.B E.F w w' := ⟨hst.os, hst.tape, hst.output, by rw [hst.size]; exact Nat.le_refl _, fun k hk hf => hst.other k (by
            rintro rfl
            rcases p1 with h | h
            · omega
            · exact hf h.2), by rw [hst.drawn]; exact Nat.le_refl _⟩
          have key1 := hs.setObj hk (gen' := g') (esz' := esz) (cap' := cap) (cs' := setCells cs off y.cells) (blk' := some b) (Nat.le_refl _) (fun _ => hb) hbel
            (fun k hk' hne => hst.other k (by simp only [blkOf, hb, Option.bind_some] at hne; simpa using fun e => hne (by rw [e])))
            ⟨.inl (by simp [blkOf, hb]), by rw [hst.size]; exact p2, us', T, fz, f1, ⟨fun o ho => q2.1 o (by omega), q2.2⟩, by rw [setCells_length (by omega)]; omega, by omega, ?_⟩
          · refine ⟨.skip, w', _, ?_, .inl ⟨rfl, rfl⟩, key1⟩
            simp only [Instr.storeAt, Instr.sureAddr, storeVar]
            have e5 : vx.cells.size = n := by omega
            simp [szT_run hsz, e5, hr]
          · intro j u c hu hc
            rw [f3 j] at hu
            have hc' := setCells_get (by omega) hc
            have hmono : ∀ v x, Rep g w v x → Rep (g.set key g' (some b, cap)) w' v x := fun v x h => h.mono (fun _ h => h)
              (fun b' hm => hst.other b' (by rintro rfl; exact p3 hm)) (fun k n r hh => by
                by_cases e : k = key ∧ n = g'
                · obtain ⟨e1, e2⟩ := e; rw [e1, e2] at hh ⊢; rw [Gh.set_same, ← hb]; exact hh
                · rw [Gh.set_ne _ _ e]; exact hh)
            simp only [Array.length_toList, Nat.add_zero] at hu
            rw [c1] at hu
            split at hc'
            · rename_i hin
              rw [if_pos hin, Array.getElem?_toList] at hu
              exact hmono _ _ (c2 _ u c hu hc')
            · rename_i hin
              rw [if_neg hin] at hu
              exact hmono _ _ (q5 _ u c hu hc')
        · simp only [if_neg e]; trivial
      | map es => trivial
  | _ => trivial

end
end Go.Lg
