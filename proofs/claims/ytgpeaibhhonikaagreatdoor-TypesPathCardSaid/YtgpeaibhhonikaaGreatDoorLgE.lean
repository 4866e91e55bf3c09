/-
  Each operation of the plain logic is borne out by the model's own: memory.
-/
import Derived.Test.YtgpeaibhhonikaaGreatDoorLgD
set_option linter.unusedSimpArgs false
set_option linter.unusedVariables false
namespace Go.Lg
open Go Go.RowKit

section
variable {P : Program} {g : Gh} {w w' : World} {E : Env} {σ : St} {a : Act}

theorem cell_at {b o : Nat} {us : Array Value} {T fz} (h : w.heap[b]? = some (.cells us T fz)) : w.cell? ⟨b, o, none⟩ = us[o]? := by
  simp [World.cell?, h]
theorem frozen_at {b o : Nat} {us : Array Value} {T} {fz : Nat × Nat} (h : w.heap[b]? = some (.cells us T fz)) (hf : ¬ (fz.1 ≤ o ∧ o < fz.2)) : w.frozen? ⟨b, o, none⟩ = false := by
  obtain ⟨lo, hi⟩ := fz
  simp only [World.frozen?, h]
  simpa using hf
theorem addr_add (b o i : Nat) : (Addr.mk b o none).add i = ⟨b, o + i, none⟩ := by
  unfold Addr.add; split
  · rename_i h; subst h; rfl
  · rfl

theorem run_loadCellsFrom {b off : Nat} {us : Array Value} {T fz} (h : w.heap[b]? = some (.cells us T fz)) : ∀ (n i : Nat) (acc : Array Value), off + i + n ≤ us.size →
    (loadCellsFrom ⟨b, off, none⟩ i n acc).run P w = .ok (acc ++ us.extract (off + i) (off + i + n)) w
  | 0, i, acc, _ => by
    have e : us.extract (off + i) (off + i + 0) = #[] := by
      apply Array.ext'
      simp [Array.toList_extract, List.extract_eq_take_drop]
    rw [e]
    simp [loadCellsFrom]
  | n + 1, i, acc, hn => by
    have hc : w.cell? ((Addr.mk b off none).add i) = some us[off + i] := by
      rw [addr_add, cell_at h]; exact Array.getElem?_eq_getElem (by omega)
    have ih := run_loadCellsFrom (off := off) h n (i + 1) (acc.push us[off + i]) (by omega)
    have hl : (load ((Addr.mk b off none).add i)).run P w = .ok us[off + i] w := by
      simp only [load, Sem.run, hc]
    simp only [loadCellsFrom]
    rw [Sem.run_bind, hl, Result.andThen_ok, ih]
    congr 1
    apply Array.ext'
    have e : off + i + (n + 1) = off + (i + 1) + n := by omega
    simp only [Array.toList_append, Array.toList_push, Array.toList_extract, List.extract_eq_take_drop]
    rw [show off + (i + 1) + n - (off + (i + 1)) = n by omega, show off + i + (n + 1) - (off + i) = n + 1 by omega]
    have hd : us.toList.drop (off + i) = us[off + i] :: us.toList.drop (off + (i + 1)) := by
      rw [List.drop_eq_getElem_cons (by simp; omega)]
      simp [Nat.add_assoc]
    rw [hd]
    simp

theorem run_loadCells {b off n : Nat} {us : Array Value} {T fz} (h : w.heap[b]? = some (.cells us T fz)) (hn : off + n ≤ us.size) :
    (loadCells ⟨b, off, none⟩ n).run P w = .ok (us.extract off (off + n)) w := by
  unfold loadCells
  rw [run_loadCellsFrom h n 0 #[] (by omega)]
  simp

/-- What a row of stores leaves. -/
structure Stored (w w' : World) (b off : Nat) (vs : List Value) (us : Array Value) (T : TypeId) (fz : Nat × Nat) : Prop where
  cells : ∃ us', w'.heap[b]? = some (.cells us' T fz) ∧ us'.size = us.size ∧ ∀ j, us'[j]? = if off ≤ j ∧ j < off + vs.length then vs[j - off]? else us[j]?
  other : ∀ k, k ≠ b → w'.heap[k]? = w.heap[k]?
  size : w'.heap.size = w.heap.size
  os : w'.os = w.os
  tape : w'.tape = w.tape
  output : w'.output = w.output
  drawn : w'.drawn = w.drawn

theorem run_storeCells {b off : Nat} {T fz} : ∀ (vs : List Value) (i : Nat) (w : World) (us : Array Value), w.heap[b]? = some (.cells us T fz) → (∀ o, o < us.size → ¬ (fz.1 ≤ o ∧ o < fz.2)) →
    off + i + vs.length ≤ us.size → (∀ v ∈ vs, oneV v = true) →
    ∃ w', (storeCells ⟨b, off, none⟩ vs i).run P w = .ok () w' ∧ Stored w w' b (off + i) vs us T fz
  | [], i, w, us, h, _, _, _ => ⟨w, by simp [storeCells], ⟨⟨us, h, rfl, fun j => by rw [if_neg (by simp)]⟩, fun _ _ => rfl, rfl, rfl, rfl, rfl, rfl⟩⟩
  | v :: vs, i, w, us, h, hf, hn, hv => by
    simp only [List.length_cons] at hn
    have hc : w.cell? ((Addr.mk b off none).add i) = some us[off + i] := by
      rw [addr_add, cell_at h]; exact Array.getElem?_eq_getElem (by omega)
    have hfz : w.frozen? ((Addr.mk b off none).add i) = false := by
      rw [addr_add]; exact frozen_at h (hf _ (by omega))
    have hw1 : (w.setCell ((Addr.mk b off none).add i) v).heap[b]? = some (.cells (us.setIfInBounds (off + i) v) T fz) := by
      rw [addr_add]; simp [World.setCell, Array.getElem?_modify, h]
    obtain ⟨w', hr, hst⟩ := run_storeCells (b := b) (off := off) vs (i + 1) (w.setCell ((Addr.mk b off none).add i) v) (us.setIfInBounds (off + i) v) hw1
      (fun o ho => hf o (by simpa using ho)) (by simp; omega) (fun u hu => hv u (List.mem_cons_of_mem _ hu))
    refine ⟨w', ?_, ?_⟩
    · have h1 : oneV v = true := hv v (List.mem_cons_self ..)
      have hst1 : (store ((Addr.mk b off none).add i) v).run P w = .ok () (w.setCell ((Addr.mk b off none).add i) v) := by
        have h2 : v.oneCell' = true := h1
        rw [run_store P w _ v _ h2]
        simp [stored, hc, hfz]
      simp only [storeCells]
      rw [Sem.run_bind, hst1, Result.andThen_ok, hr]
    · obtain ⟨⟨us', e1, e2, e3⟩, ho, hs, h4, h5, h6, h7⟩ := hst
      refine ⟨⟨us', e1, by simpa using e2, fun j => ?_⟩, fun k hk => ?_, by simpa using hs, h4, h5, h6, h7⟩
      · rw [e3 j]
        simp only [List.length_cons]
        by_cases c1 : off + (i + 1) ≤ j ∧ j < off + (i + 1) + vs.length
        · rw [if_pos c1, if_pos (by omega), show j - (off + i) = (j - (off + (i + 1))) + 1 by omega]; simp
        · rw [if_neg c1]
          by_cases c2 : j = off + i
          · subst c2; rw [if_pos (by omega)]; simp [show off + i < us.size by omega]
          · rw [if_neg (by omega), Array.getElem?_setIfInBounds_ne (by omega)]
      · rw [ho k hk, addr_add]
        exact Below.heap_setCell _ _ _ _ hk

/-- What is asked of one step. -/
def LRes.ok (P : Program) (E : Env) (g : Gh) (σ : St) (a : Act) (w : World) (s : Nat) (q : Sem Next) : LRes → Prop
  | .A pre v => pre → ∃ u w' g', q.run P w = .ok (.value u) w' ∧ SimG E g' σ a w' ∧ Rep g' w' u v
  | .C pre o mk => pre → ∃ u w' g', q.run P w = .ok (.value u) w' ∧ SimG E g' ⟨σ.tm, hupd σ.H (s, σ.cnt s) o, cupd σ.cnt s⟩ a w' ∧ Rep g' w' u (mk (s, σ.cnt s))
  | .D pre v H' => pre → ∃ n w' g', q.run P w = .ok n w' ∧ ((n = .skip ∧ v = .junk) ∨ ∃ u, n = .value u ∧ Rep g' w' u v) ∧ SimG E g' ⟨σ.tm, H', σ.cnt⟩ a w'
  | .call pre f args sargs => entersOk P f = true → ∃ vs : Array Value, q.run P w = .ok (.enter f vs) w ∧ vs.size = args.length ∧ (∀ (j : Nat) (u : Value) (c : V), vs[j]? = some u → args[j]? = some c → Rep g w u c) ∧ sargs = args.map (snap σ.H 8) ∧ (pre → args.all (sok σ.H 8) = true)
  | .bad => True

theorem ok_of_pure (hs : SimG E g σ a w) {s : Nat} {q : Sem Value} {r : LRes} (h : LRes.pureOk P g w q r) : LRes.ok P E g σ a w s (do pure (.value (← q))) r := by
  cases r with
  | A pre v => intro hp; obtain ⟨u, h1, h2⟩ := h hp; exact ⟨u, w, g, by simp [h1], hs, h2⟩
  | bad => trivial
  | C => exact h.elim
  | D => exact h.elim
  | call => exact h.elim

/-- The cells of a struct's or an array's part. -/
theorem ldV_sound {us : Array Value} {cs : List V} {o off n : Nat} {agg : Bool} {v : V} (hl : o + cs.length ≤ us.size)
    (hr : ∀ (j : Nat) (u : Value) (c : V), us[o + j]? = some u → cs[j]? = some c → Rep g w u c) (h : ldV agg n cs off = some v) :
    (agg = true → off + n ≤ cs.length ∧ Rep g w (.agg (us.extract (o + off) (o + off + n))) v) ∧ (agg = false → ∃ u, us[o + off]? = some u ∧ Rep g w u v) := by
  unfold ldV at h
  cases agg with
  | true =>
    simp only [if_true] at h
    split at h
    · rename_i hle
      cases h
      refine ⟨fun _ => ⟨hle, .agg _ _ ?_ ?_⟩, (fun h => by cases h)⟩
      · simp; omega
      · intro j u c hu hc
        rw [Array.getElem?_extract] at hu
        split at hu
        · rw [List.getElem?_take] at hc
          split at hc
          · rw [List.getElem?_drop] at hc
            exact hr (off + j) u c (by rw [← Nat.add_assoc]; exact hu) hc
          · cases hc
        · cases hu
    · cases h
  | false =>
    simp only [Bool.false_eq_true, if_false] at h
    refine ⟨(fun h => by cases h), fun _ => ?_⟩
    have hlt : off < cs.length := by
      rcases Nat.lt_or_ge off cs.length with h' | h'
      · exact h'
      · rw [List.getElem?_eq_none h'] at h; cases h
    have : o + off < us.size := by omega
    exact ⟨us[o + off], Array.getElem?_eq_getElem this, hr off _ _ (Array.getElem?_eq_getElem this) h⟩

theorem szT_run {t s : Nat} (h : szT P t = some s) : (sizeOf t).run P w = .ok s w := by
  unfold szT at h
  cases hi : P.info? t with
  | none => simp [hi] at h
  | some i => simp [hi] at h; subst h; simp [sizeOf, typeInfo, hi]
theorem bytesT_run {t s : Nat} (h : bytesT P t = some s) : ∃ i, P.info? t = some i ∧ i.bytes = s := by
  unfold bytesT at h
  cases hi : P.info? t with
  | none => simp [hi] at h
  | some i => simp [hi] at h; exact ⟨i, rfl, h⟩
theorem zeroT_run {t : Nat} {z : V} (h : zeroT P t = some z) : ∃ v, (zeroValue t).run P w = .ok v w ∧ z = ofVal v := by
  unfold zeroT at h
  cases hi : P.info? t with
  | none => simp [hi] at h
  | some i =>
    cases hz : i.zero with
    | none => simp [hi, hz] at h
    | some v => simp [hi, hz] at h; exact ⟨v, by simp [zeroValue, typeInfo, hi, hz], h.symm⟩
theorem isAggT_run {t : Nat} {d} (h : P.underlying t = some d) : (isAgg t).run P w = .ok (isAggT P t) w := by
  cases d <;> simp [isAgg, run_underlying h, isAggT, h]

theorem isAgg_run (t : Nat) (h : isAggT P t = true ∨ ∃ d, P.underlying t = some d) : (isAgg t).run P w = .ok (isAggT P t) w := by
  rcases h with h | ⟨d, h⟩
  · cases hd : P.underlying t with
    | none => simp [isAggT, hd] at h
    | some d => exact isAggT_run hd
  · exact isAggT_run h

end
end Go.Lg
