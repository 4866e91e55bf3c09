import Derived.Test.YtlkdcgfjmhjjpaaGreatGRg
import Derived.SizedLaws
/-
  What comes in, with room: the sizes of slices, as the statement's form gives them.
-/
set_option linter.unusedSimpArgs false
set_option linter.unusedVariables false
namespace Go.Lg
open Go Go.RowKit

/-- The cells of a value of a type; what it holds has room. -/
inductive TyZ (P : Program) : TypeId → List V → Prop
  | bool (t b) : P.underlying t = some .bool → TyZ P t [.bool b]
  | int (t k n) : P.underlying t = some (.int k) → (Lit.int k n).wf = true → TyZ P t [.int k n]
  | str (t s) : P.underlying t = some .string → s.size ≤ maxLen → TyZ P t [.str s]
  | struct (t fs cs) : P.underlying t = some (.struct fs) → cs.length = P.cellsOf t → (∀ f ∈ fs.toList, TyZ P f.type ((cs.drop f.offset).take (P.cellsOf f.type))) → TyZ P t cs
  | array (t n e cs) : P.underlying t = some (.array n e) → cs.length = P.cellsOf t → (∀ i, i < n → TyZ P e ((cs.drop (i * P.cellsOf e)).take (P.cellsOf e))) → TyZ P t cs
  | slice (t e n cs) : P.underlying t = some (.slice e) → cs.length = n * P.cellsOf e → n ≤ maxLen → n * P.bytesOf e ≤ reachBytes → (∀ i, i < n → TyZ P e ((cs.drop (i * P.cellsOf e)).take (P.cellsOf e))) → TyZ P t [.sl n cs]
  | other (t d) : P.underlying t = some d → otherOk P d = true → TyZ P t [.junk]

section
variable {P : Program} {H : Type} {enc : TypeId × Value → H} {w : World}
/-- What a reading weighs is within reach. -/
def Wt (P : Program) (t : TypeId) (d : DataW H) : Prop := ∀ n ∈ d.weights P t, n ≤ reachBytes
theorem weights_mem_all {e : TypeId} : ∀ {l : List (DataW H)} {d : DataW H}, d ∈ l → ∀ n ∈ d.weights P e, n ∈ DataW.weightsAll P e l
  | [], _, h, _, _ => by cases h
  | x :: l, d, h, n, hn => by
    simp only [DataW.weightsAll, List.mem_append]
    rcases List.mem_cons.1 h with rfl | h
    · exact .inl hn
    · exact .inr (weights_mem_all h n hn)

theorem fields_repZ {fuel : Nat} (ih : ∀ (t : TypeId) (cs : List Value) (d : DataW H) (p : List MemPlace), t < P.types.size → DataW.trod enc P w 0 (fun _ => true) true fuel t cs = some (d, p) → Wt P t d → ∃ xs, TyZ P t xs ∧ CellsRep w cs xs) (cs : List Value) :
    ∀ (fs : List Field) (o n : Nat), (∀ f ∈ fs, f.type < P.types.size) → tileF P o fs = some n → n ≤ cs.length → (∀ f ∈ fs, ∃ x, DataW.trod enc P w 0 (fun _ => true) true fuel f.type ((cs.drop f.offset).take (P.cellsOf f.type)) = some x ∧ Wt P f.type x.1) →
      ∃ xs, o ≤ n ∧ CellsRep w ((cs.drop o).take (n - o)) xs ∧ ∀ f ∈ fs, o ≤ f.offset ∧ TyZ P f.type ((xs.drop (f.offset - o)).take (P.cellsOf f.type))
  | [], o, n, _, ht, hn, _ => by
    cases ht
    exact ⟨[], Nat.le_refl _, ⟨by simp, fun j v x h => by simp at h⟩, fun f h => by cases h⟩
  | f :: r, o, n, hin, ht, hn, hf => by
    simp only [tileF] at ht
    split at ht
    case isFalse => cases ht
    rename_i hoff
    obtain ⟨xs', hle, hrep, hty⟩ := fields_repZ ih cs r _ n (fun f hm => hin f (List.mem_cons_of_mem _ hm)) ht hn fun f hm => hf f (List.mem_cons_of_mem _ hm)
    obtain ⟨⟨d, p⟩, hx, hwx⟩ := hf f (List.mem_cons_self ..)
    obtain ⟨ys, hyt, hyr⟩ := ih _ _ _ _ (hin f (List.mem_cons_self ..)) hx hwx
    rw [hoff] at hx hyr
    have hyl : ys.length = P.cellsOf f.type := by
      rw [hyr.1, List.length_take, List.length_drop]; omega
    have hsplit : (cs.drop o).take (n - o) = (cs.drop o).take (P.cellsOf f.type) ++ (cs.drop (o + P.cellsOf f.type)).take (n - (o + P.cellsOf f.type)) := by
      have e1 : n - o = P.cellsOf f.type + (n - (o + P.cellsOf f.type)) := by omega
      rw [e1, List.take_add, List.drop_drop]
    refine ⟨ys ++ xs', by omega, ?_, fun g hg => ?_⟩
    · rw [hsplit]
      refine ⟨by rw [List.length_append, List.length_append, hyr.1, hrep.1], fun j v x hv hx' => ?_⟩
      have hl : ((cs.drop o).take (P.cellsOf f.type)).length = ys.length := hyr.1.symm
      rw [List.getElem?_append, hl] at hv
      rw [List.getElem?_append] at hx'
      split at hv
      · rename_i hlt; rw [if_pos hlt] at hx'; exact hyr.2 j v x hv hx'
      · rename_i hlt; rw [if_neg hlt] at hx'; exact hrep.2 _ v x hv hx'
    · rcases List.mem_cons.1 hg with rfl | hg
      · refine ⟨by omega, ?_⟩
        rw [hoff, Nat.sub_self, List.drop_zero, List.take_append_of_le_length (by omega), List.take_of_length_le (by omega)]
        exact hyt
      · obtain ⟨h1, h2⟩ := hty g hg
        refine ⟨by omega, ?_⟩
        rw [List.drop_append, List.drop_eq_nil_of_le (by omega), List.nil_append, show g.offset - o - ys.length = g.offset - (o + P.cellsOf f.type) by omega]
        exact h2

/-- Elements side by side, each read by itself. -/
theorem elems_repZ {e s : Nat} : ∀ (n : Nat) (get : Nat → List Value), (∀ i, i < n → (get i).length = s ∧ ∃ xs, TyZ P e xs ∧ CellsRep w (get i) xs) →
    ∃ xs, CellsRep w ((List.range n).flatMap get) xs ∧ xs.length = n * s ∧ ∀ i, i < n → TyZ P e ((xs.drop (i * s)).take s)
  | 0, get, _ => ⟨[], ⟨rfl, fun j v x h => by simp at h⟩, by simp, fun i h => by omega⟩
  | n + 1, get, h => by
    obtain ⟨xs, h1, h2, h3⟩ := elems_repZ n get fun i hi => h i (by omega)
    obtain ⟨hl, ys, hy1, hy2⟩ := h n (by omega)
    have hyl : ys.length = s := by rw [hy2.1, hl]
    rw [List.range_succ, List.flatMap_append]
    simp only [List.flatMap_cons, List.flatMap_nil, List.append_nil]
    refine ⟨xs ++ ys, ⟨by rw [List.length_append, List.length_append, h1.1, hy2.1], fun j v x hv hx => ?_⟩, by rw [List.length_append, h2, hyl, Nat.add_mul]; omega, fun i hi => ?_⟩
    · rw [List.getElem?_append, ← h1.1] at hv
      rw [List.getElem?_append] at hx
      split at hv
      · rename_i hlt; rw [if_pos hlt] at hx; exact h1.2 j v x hv hx
      · rename_i hlt; rw [if_neg hlt] at hx; exact hy2.2 _ v x hv hx
    · rcases Nat.lt_or_ge i n with hlt | hge
      · have hm : i * s + s ≤ n * s := by
          have := Nat.mul_le_mul_right s (show i + 1 ≤ n by omega)
          rw [Nat.add_mul] at this; omega
        rw [List.drop_append_of_le_length (by omega), List.take_append_of_le_length (by rw [List.length_drop]; omega)]
        exact h3 i hlt
      · obtain rfl : i = n := by omega
        rw [List.drop_append, List.drop_eq_nil_of_le (by omega), h2, Nat.sub_self]
        simp only [List.nil_append, List.drop_zero]
        rw [List.take_of_length_le (by omega)]
        exact hy1

theorem trod_repZ (htile : tilesOk P = true) : ∀ (fuel : Nat) (t : TypeId) (cs : List Value) (d : DataW H) (p : List MemPlace), t < P.types.size → DataW.trod enc P w 0 (fun _ => true) true fuel t cs = some (d, p) → Wt P t d → ∃ xs, TyZ P t xs ∧ CellsRep w cs xs
  | 0, t, cs, d, p, _, h, _ => by cases h
  | fuel + 1, t, cs, d, p, hin, h, hwd => by
    have ih := trod_repZ htile fuel
    obtain ⟨hto, hcomp⟩ := tile_all htile hin
    have h0 := h
    cases ht : P.underlying t with
    | none => unfold DataW.trod at h; rw [ht] at h; cases h
    | some td =>
      have other : ∀ v, cs = [v] → otherOk P td = true → ∃ xs, TyZ P t xs ∧ CellsRep w cs xs := by
        intro v e hm
        subst e
        exact ⟨[.junk], .other t td ht hm, CellsRep.one (.junk _)⟩
      cases td with
      | bool =>
        obtain ⟨b, rfl, _⟩ := DataW.trod_bool ht h
        exact ⟨_, .bool t b ht, CellsRep.one (.bool b)⟩
      | int k =>
        obtain ⟨n, rfl, _, hw⟩ := DataW.trod_int ht h
        exact ⟨_, .int t k n ht hw, CellsRep.one (.int k n)⟩
      | string =>
        obtain ⟨s, rfl, _, hs⟩ := DataW.trod_string ht h
        exact ⟨_, .str t s ht hs, CellsRep.one (.str s)⟩
      | struct fs =>
        obtain ⟨ys, n, hn, hdp, hl, hlen, hf⟩ := DataW.trod_struct ht h
        obtain rfl : n = fuel := by omega
        simp only [Prod.mk.injEq] at hdp
        rw [hdp.1] at hwd
        simp only [tileOk, ht, beq_iff_eq] at hto
        obtain ⟨xs, h1, h2, h3⟩ := fields_repZ ih cs fs.toList 0 _ (fun f hm => hcomp _ (by simp only [compsOf, ht]; exact List.mem_map_of_mem hm)) hto (by omega) (fun f hm => by
          obtain ⟨i, hi⟩ := List.mem_iff_getElem?.1 hm
          rw [Array.getElem?_toList] at hi
          have hlt : i < fs.size := by
            rcases Nat.lt_or_ge i fs.size with h' | h'
            · exact h'
            · rw [Array.getElem?_eq_none h'] at hi; cases hi
          refine ⟨ys[i], by rw [hf i f hi, List.getElem?_eq_getElem (by omega)], fun q hq => hwd q ?_⟩
          simp only [DataW.weights, ht]
          exact DataW.weights_mem_each (j := i) (t := f.type) (d := ys[i].1) (by rw [List.getElem?_map, Array.getElem?_toList, hi]; rfl) (by rw [List.getElem?_map, List.getElem?_eq_getElem (by omega)]; rfl) q hq)
        rw [List.drop_zero, Nat.sub_zero, List.take_of_length_le (by omega)] at h2
        exact ⟨xs, .struct t fs xs ht (by rw [h2.1, hl]) (fun f hm => by simpa using (h3 f hm).2), h2⟩
      | array n e =>
        obtain ⟨ys, m, hm, hdp, hl, hlen, hf⟩ := DataW.trod_array ht h
        obtain rfl : m = fuel := by omega
        simp only [Prod.mk.injEq] at hdp
        rw [hdp.1] at hwd
        simp only [tileOk, ht, beq_iff_eq] at hto
        obtain ⟨xs, h1, h2, h3⟩ := elems_repZ (P := P) (e := e) (s := P.cellsOf e) (w := w) n (fun i => (cs.drop (i * P.cellsOf e)).take (P.cellsOf e)) (fun i hi => by
          refine ⟨?_, ?_⟩
          · have hmm : i * P.cellsOf e + P.cellsOf e ≤ n * P.cellsOf e := by
              have := Nat.mul_le_mul_right (P.cellsOf e) (show i + 1 ≤ n by omega)
              rw [Nat.add_mul] at this; omega
            rw [List.length_take, List.length_drop]; omega
          · have hx := hf i hi
            rw [List.getElem?_eq_getElem (by omega)] at hx
            refine ih _ _ _ _ (hcomp e (by simp [compsOf, ht])) hx fun q hq => hwd q ?_
            simp only [DataW.weights, ht]
            exact weights_mem_all (List.mem_map_of_mem (List.getElem_mem (by omega))) q hq)
        have hcs : (List.range n).flatMap (fun i => (cs.drop (i * P.cellsOf e)).take (P.cellsOf e)) = cs := by
          have key : ∀ m, m ≤ n → (List.range m).flatMap (fun i => (cs.drop (i * P.cellsOf e)).take (P.cellsOf e)) = cs.take (m * P.cellsOf e) := by
            intro m
            induction m with
            | zero => intro _; simp
            | succ m ihm =>
              intro hm
              rw [List.range_succ, List.flatMap_append, ihm (by omega)]
              simp only [List.flatMap_cons, List.flatMap_nil, List.append_nil]
              rw [Nat.add_mul, Nat.one_mul, List.take_add]
          rw [key n (Nat.le_refl _), List.take_of_length_le (by omega)]
        rw [hcs] at h1
        exact ⟨xs, .array t n e xs ht (by rw [h1.1, hl]) h3, h1⟩
      | slice e =>
        unfold DataW.trod at h
        rw [ht] at h
        simp only [] at h
        by_cases hz : P.cellsOf e = 0
        · obtain ⟨a, l, c, rfl⟩ := Joins.slice_form ht h0
          exact other _ rfl (by simp [otherOk, hz])
        · have hp : 0 < P.cellsOf e := Nat.pos_of_ne_zero hz
          obtain ⟨a, l, c, rfl⟩ := Joins.slice_form ht h0
          cases a with
          | none =>
            have hlc : l = 0 ∧ c = 0 := by
              split at h <;> first | (cases h; done) | simp_all
            obtain ⟨rfl, rfl⟩ := hlc
            exact ⟨[.sl 0 []], .slice t e 0 [] ht (by simp) (Nat.zero_le _) (by simp) (fun i h => by omega), CellsRep.one (.sl0 _ _)⟩
          | some a =>
            simp only [] at h
            split at h
            case isFalse => cases h
            rename_i hcond
            simp only [Option.bind_eq_some_iff] at h
            obtain ⟨els, hels, hmap⟩ := h
            obtain ⟨q1, q2⟩ := mapM_spec hels
            rw [List.length_range] at q1
            simp only [Option.map_eq_some_iff] at hmap
            obtain ⟨rest, _, hdp⟩ := hmap
            simp only [Prod.mk.injEq] at hdp
            rw [← hdp.1] at hwd
            have hroom : l * P.bytesOf e ≤ reachBytes := by
              have h1 := hwd ((els.map (·.1)).length * P.bytesOf e + (rest.map (·.1)).length * P.bytesOf e) (by rw [← Nat.add_mul]; simp only [DataW.weights, ht]; exact List.mem_cons_self ..)
              rw [List.length_map, q1] at h1
              omega
            have each : ∀ i, i < l → ∃ cl, w.cells? 0 (a.add (i * P.cellsOf e)) (P.cellsOf e) = some cl ∧ ∃ xs, TyZ P e xs ∧ CellsRep w cl xs := by
              intro i hi
              have := q2 i i _ (by simp [hi]) (List.getElem?_eq_getElem (by omega))
              simp only [Option.bind_eq_some_iff] at this
              obtain ⟨cl, h1, h2⟩ := this
              refine ⟨cl, h1, ih _ _ _ _ (hcomp e (by simp [compsOf, ht])) h2 fun q hq => hwd q ?_⟩
              simp only [DataW.weights, ht]
              exact List.mem_cons_of_mem _ (List.mem_append_left _ (weights_mem_all (List.mem_map_of_mem (List.getElem_mem (by omega))) q hq))
            by_cases hl0 : l = 0
            · subst hl0
              exact ⟨[.sl 0 []], .slice t e 0 [] ht (by simp) (Nat.zero_le _) (by simp) (fun i h => by omega), CellsRep.one (.sl0 _ _)⟩
            · obtain ⟨cl0, hc0, _⟩ := each 0 (by omega)
              have ea0 : a.add (0 * P.cellsOf e) = a := by simp [Addr.add]
              rw [ea0] at hc0
              obtain ⟨_, hblk⟩ := cells?_spec hc0
              obtain ⟨us, T, fz, hspot, hb, _, _⟩ := hblk hp
              clear hblk
              obtain ⟨b, off, spot⟩ := a
              simp only [] at hspot hb
              subst hspot
              obtain ⟨xs, h1, h2, h3⟩ := elems_repZ (P := P) (e := e) (s := P.cellsOf e) (w := w) l (fun i => ((us.toList.drop (off + i * P.cellsOf e)).take (P.cellsOf e))) (fun i hi => by
                obtain ⟨cl, hcl, xs, hx1, hx2⟩ := each i hi
                rw [addr_add] at hcl
                obtain ⟨hlen, hsp⟩ := cells?_spec hcl
                obtain ⟨us', T', fz', _, hb', hsz, hget⟩ := hsp hp
                simp only [] at hb' hsz hget
                rw [hb] at hb'; cases hb'
                have heq : (us.toList.drop (off + i * P.cellsOf e)).take (P.cellsOf e) = cl := by
                  apply List.ext_getElem?
                  intro j
                  rw [List.getElem?_take]
                  split
                  · rename_i hj
                    rw [List.getElem?_drop, Array.getElem?_toList]
                    exact hget j hj
                  · rename_i hj
                    rw [List.getElem?_eq_none (by omega)]
                refine ⟨by rw [heq]; exact hlen, xs, hx1, by rw [heq]; exact hx2⟩)
              have hsz : off + l * P.cellsOf e ≤ us.size := by
                obtain ⟨cl, hcl, _⟩ := each (l - 1) (by omega)
                rw [addr_add] at hcl
                obtain ⟨_, hsp⟩ := cells?_spec hcl
                obtain ⟨us', T', fz', _, hb', hsz, _⟩ := hsp hp
                simp only [] at hb' hsz
                rw [hb] at hb'; cases hb'
                have : (l - 1) * P.cellsOf e + P.cellsOf e = l * P.cellsOf e := by
                  rw [← Nat.succ_mul]; congr 1; omega
                omega
              refine ⟨[.sl l xs], .slice t e l xs ht h2 (by omega) hroom h3, CellsRep.one (.sl b off l c us T fz xs ?_ hb (by omega) hcond.2.1 fun j v x hv hx => ?_)⟩
              · rcases Nat.lt_or_ge b w.heap.size with h' | h'
                · exact h'
                · rw [Array.getElem?_eq_none h'] at hb; cases hb
              · have hjl : j < l * P.cellsOf e := by
                  rcases Nat.lt_or_ge j xs.length with h' | h'
                  · omega
                  · rw [List.getElem?_eq_none h'] at hx; cases hx
                refine h1.2 j v x ?_ hx
                have hfl : (List.range l).flatMap (fun i => ((us.toList.drop (off + i * P.cellsOf e)).take (P.cellsOf e))) = (us.toList.drop off).take (l * P.cellsOf e) := by
                  have key : ∀ m, (List.range m).flatMap (fun i => ((us.toList.drop (off + i * P.cellsOf e)).take (P.cellsOf e))) = (us.toList.drop off).take (m * P.cellsOf e) := by
                    intro m
                    induction m with
                    | zero => simp
                    | succ m ihm =>
                      rw [List.range_succ, List.flatMap_append, ihm]
                      simp only [List.flatMap_cons, List.flatMap_nil, List.append_nil]
                      rw [Nat.add_mul, Nat.one_mul, List.take_add, List.drop_drop]
                  exact key l
                rw [hfl, List.getElem?_take, if_pos hjl, List.getElem?_drop, Array.getElem?_toList]
                exact hv
      | _ =>
        have : ∃ v, cs = [v] := by
          unfold DataW.trod at h
          rw [ht] at h
          simp only [] at h
          first
            | (cases h; done)
            | (split at h <;> first | (cases h; done) | exact ⟨_, rfl⟩ | simp_all)
        obtain ⟨v, hv⟩ := this
        exact other v hv rfl

end
theorem TyZ.toTy {P : Program} {t : TypeId} {xs : List V} (h : TyZ P t xs) : Ty P t xs := by
  induction h with
  | bool t b hu => exact .bool t b hu
  | int t k n hu hw => exact .int t k n hu hw
  | str t s hu hs => exact .str t s hu hs
  | struct t fs cs hu hl _ ih => exact .struct t fs cs hu hl ih
  | array t n e cs hu hl _ ih => exact .array t n e cs hu hl ih
  | slice t e n cs hu hl hn _ _ ih => exact .slice t e n cs hu hl hn ih
  | other t d hu ho => exact .other t d hu ho

def IsTZ (P : Program) (t : TypeId) {α : Type} (f : α → List V) (ok : α → Prop) : Prop := ∀ xs, TyZ P t xs → ∃ x, xs = f x ∧ ok x
theorem IsT.z {P : Program} {t : TypeId} {α : Type} {f : α → List V} {ok : α → Prop} (h : IsT P t f ok) : IsTZ P t f ok := fun xs hx => h xs hx.toTy
theorem TyZ.st {P : Program} {t : TypeId} {xs : List V} {ts : List TypeId} (h : TyZ P t xs) (hs : stF P t = some ts) : Pcs (TyZ P) ts xs := by
  unfold stF at hs
  cases h with
  | struct _ fs _ hu hl hf =>
    simp only [hu] at hs
    split at hs
    case isFalse => cases hs
    rename_i ht
    cases hs
    simp only [tileOk, hu, beq_iff_eq] at ht
    have := pcs_of (Q := TyZ P) (xs := xs) fs.toList 0 _ ht hl hf
    simpa using this
  | other _ d hu ho => simp only [hu] at hs; cases d <;> simp_all [otherOk]
  | _ => simp_all
theorem TyZ.sl {P : Program} {t e : TypeId} {s : Nat} {xs : List V} (h : TyZ P t xs) (hs : slF P t = some (e, s)) (hp : 0 < s) :
    ∃ n cs, xs = [.sl n cs] ∧ cs.length = n * s ∧ n ≤ maxLen ∧ n * P.bytesOf e ≤ reachBytes ∧ ∀ i, i < n → TyZ P e ((cs.drop (i * s)).take s) := by
  unfold slF at hs
  cases h with
  | slice _ e' n cs hu hl hn hb hi =>
    simp only [hu, Option.some.injEq, Prod.mk.injEq] at hs
    obtain ⟨rfl, rfl⟩ := hs
    exact ⟨n, cs, rfl, hl, hn, hb, hi⟩
  | other _ d hu ho =>
    simp only [hu] at hs
    cases d with
    | slice e' =>
      simp only [Option.some.injEq, Prod.mk.injEq] at hs
      obtain ⟨rfl, rfl⟩ := hs
      simp [otherOk] at ho; omega
    | _ => cases hs
  | _ => simp_all
theorem isSlZ {P : Program} {t e : TypeId} {s : Nat} {α : Type} {f : α → List V} {ok : α → Prop} (h : slF P t = some (e, s)) (hp : 0 < s) (hf : ∀ x, (f x).length = s) (he : IsTZ P e f ok) :
    IsTZ P t (fun l : List α => [encL f l]) (fun l => l.length ≤ maxLen ∧ l.length * P.bytesOf e ≤ reachBytes ∧ ∀ x ∈ l, ok x) := by
  intro xs hx
  obtain ⟨n, cs, rfl, hl, hn, hb, hi⟩ := hx.sl h hp
  obtain ⟨l, h1, h2, h3⟩ := list_of_pcs hf n cs hl fun i h => he _ (hi i h)
  exact ⟨l, by simp only [encL]; rw [← h2, h1], by omega, by rw [h1]; exact hb, h3⟩
end Go.Lg
namespace Go.Proofs.YtlkdcgfjmhjjpaaGreat
open Go Go.Lg Go.RowKit Go.ChangeShapes Go.WideShapes Go.ChangeAt
set_option linter.unusedVariables false

theorem tyStrsZ : IsTZ Tryz.prog 23 (fun l : List ByteArray => [encL cS l]) (fun l => l.length ≤ 8796093022208 ∧ l.length ≤ maxLen ∧ ∀ x ∈ l, x.size ≤ maxLen) := by
  intro xs hx
  obtain ⟨l, h1, h2, h3, h4⟩ := isSlZ (e := 9) (s := 1) (by kernel_rfl) (by decide) cS_len tyStr.z xs hx
  have hb : Tryz.prog.bytesOf 9 = 16 := by kernel_rfl
  rw [hb] at h3
  have : reachBytes = 140737488351232 := rfl
  exact ⟨l, h1, by omega, h2, h4⟩
theorem tyPathZ : IsTZ Tryz.prog 25 MPath.cells (fun p => p.ok ∧ smallP p) := by
  intro xs hx
  have hp := hx.st (ts := [3, 23]) (by kernel_rfl)
  obtain ⟨_, _, rfl, h0, _, _, rfl, h1, rfl⟩ := hp
  obtain ⟨l, rfl, o0⟩ := tyInt.z _ h0
  obtain ⟨s, rfl, o1⟩ := tyStrsZ _ h1
  exact ⟨⟨l, s⟩, by simp [MPath.cells, cI], ⟨o0, o1.2.1, o1.2.2⟩, o1.1⟩
theorem tyOperZ : IsTZ Tryz.prog 27 MOper.cells (fun o => o.ok ∧ smallP o.path) := by
  intro xs hx
  have hp := hx.st (ts := [3, 3, 25]) (by kernel_rfl)
  obtain ⟨_, _, rfl, h0, _, _, rfl, h1, _, _, rfl, h2, rfl⟩ := hp
  obtain ⟨k, rfl, o0⟩ := tyInt.z _ h0
  obtain ⟨n, rfl, o1⟩ := tyInt.z _ h1
  obtain ⟨p, rfl, o2⟩ := tyPathZ _ h2
  exact ⟨⟨k, n, p⟩, by rw [MOper.cells_split], ⟨o0, o1, o2.1⟩, o2.2⟩
theorem tyOpersZ : IsTZ Tryz.prog 29 (fun l : List MOper => [encL MOper.cells l]) (fun l => l.length ≤ maxLen ∧ ∀ x ∈ l, x.ok ∧ smallP x.path) := by
  intro xs hx
  obtain ⟨l, h1, h2, h3, h4⟩ := isSlZ (e := 27) (s := 4) (by kernel_rfl) (by decide) MOper.len tyOperZ xs hx
  exact ⟨l, h1, h2, h4⟩
/-- The operands of a value have room. -/
def valZ (v : MVal) : Prop := smallP v.a.path ∧ smallP v.b.path ∧ ∀ o ∈ v.args, smallP o.path
theorem valZ_opers {v : MVal} (h : valZ v) : smallO (opersL v) := by
  unfold opersL
  intro o ho
  split at ho
  · rw [List.mem_singleton.1 ho]; exact h.1
  · split at ho
    · rcases List.mem_cons.1 ho with rfl | ho
      · exact h.1
      · rw [List.mem_singleton.1 ho]; exact h.2.1
    · split at ho
      · exact h.2.2 o ho
      · cases ho
theorem tyValZ : IsTZ Tryz.prog 31 MVal.cells (fun v => v.ok ∧ valZ v) := by
  intro xs hx
  have hp := hx.st (ts := [3, 27, 27, 3, 25, 3, 9, 28, 29]) (by kernel_rfl)
  obtain ⟨_, _, rfl, h0, _, _, rfl, h1, _, _, rfl, h2, _, _, rfl, h3, _, _, rfl, h4, _, _, rfl, h5, _, _, rfl, h6, _, _, rfl, h7, _, _, rfl, h8, rfl⟩ := hp
  obtain ⟨x0, rfl, o0⟩ := tyInt.z _ h0
  obtain ⟨x1, rfl, o1⟩ := tyOperZ _ h1
  obtain ⟨x2, rfl, o2⟩ := tyOperZ _ h2
  obtain ⟨x3, rfl, o3⟩ := tyInt.z _ h3
  obtain ⟨x4, rfl, o4⟩ := tyPathZ _ h4
  obtain ⟨x5, rfl, o5⟩ := tyInt.z _ h5
  obtain ⟨x6, rfl, o6⟩ := tyStr.z _ h6
  obtain ⟨x7, rfl, o7⟩ := tyInts.z _ h7
  obtain ⟨x8, rfl, o8⟩ := tyOpersZ _ h8
  exact ⟨⟨x0, x1, x2, x3, x4, x5, x6, x7, x8⟩, by rw [MVal.cells_split], ⟨o0, o1.1, o2.1, o3, o4.1, o5, o6, o7, o8.1, fun x hx => (o8.2 x hx).1⟩, o1.2, o2.2, fun x hx => (o8.2 x hx).2⟩
theorem tyInstZ : IsTZ Tryz.prog 33 MInst.cells (fun x => x.ok ∧ valZ x.val) := by
  intro xs hx
  have hp := hx.st (ts := [3, 3, 4, 25, 31, 28]) (by kernel_rfl)
  obtain ⟨_, _, rfl, h0, _, _, rfl, h1, _, _, rfl, h2, _, _, rfl, h3, _, _, rfl, h4, _, _, rfl, h5, rfl⟩ := hp
  obtain ⟨x0, rfl, o0⟩ := tyInt.z _ h0
  obtain ⟨x1, rfl, o1⟩ := tyInt.z _ h1
  obtain ⟨x2, rfl, o2⟩ := tyBool.z _ h2
  obtain ⟨x3, rfl, o3⟩ := tyPathZ _ h3
  obtain ⟨x4, rfl, o4⟩ := tyValZ _ h4
  obtain ⟨x5, rfl, o5⟩ := tyInts.z _ h5
  exact ⟨⟨x0, x1, x2, x3, x4, x5⟩, by rw [MInst.cells_split], ⟨o0, o1, o3.1, o4.1, o5⟩, o4.2⟩
theorem tyInstsZ : IsTZ Tryz.prog 45 (fun l : List MInst => [encL MInst.cells l]) (fun l => l.length ≤ maxLen ∧ ∀ x ∈ l, x.ok ∧ valZ x.val) := by
  intro xs hx
  obtain ⟨l, h1, h2, h3, h4⟩ := isSlZ (e := 33) (s := 22) (by kernel_rfl) (by decide) MInst.len tyInstZ xs hx
  exact ⟨l, h1, h2, h4⟩
theorem tyMirZ : IsTZ Tryz.prog 47 Mir.cells (fun m => m.ok ∧ szOk m) := by
  intro xs hx
  have hp := hx.st (ts := [3, 3, 3, 43, 44, 45]) (by kernel_rfl)
  obtain ⟨_, _, rfl, h0, _, _, rfl, h1, _, _, rfl, h2, _, _, rfl, h3, _, _, rfl, h4, _, _, rfl, h5, rfl⟩ := hp
  obtain ⟨x0, rfl, o0⟩ := tyInt.z _ h0
  obtain ⟨x1, rfl, o1⟩ := tyInt.z _ h1
  obtain ⟨x2, rfl, o2⟩ := tyInt.z _ h2
  obtain ⟨x3, rfl, o3⟩ := tyKnown.z _ h3
  obtain ⟨x4, rfl, o4⟩ := tyLocals.z _ h4
  obtain ⟨x5, rfl, o5⟩ := tyInstsZ _ h5
  exact ⟨⟨x0, x1, x2, x3, x4, x5⟩, by simp [Mir.cells, cI], ⟨o0, o1, o2, o3, o4, o5.1, fun x hx => (o5.2 x hx).1⟩, ⟨fun x hx => valZ_opers (o5.2 x hx).2, fun x hx => (o5.2 x hx).2.1⟩⟩
theorem wt_of {P : Program} {H : Type} {ts : List TypeId} {ds : List (DataW H)} (h : (DataW.weightsEach P ts ds).all (· ≤ reachBytes) = true) {j : Nat} {t : TypeId} {d : DataW H} (ht : ts[j]? = some t) (hd : ds[j]? = some d) : Wt P t d := fun n hn => by
  have := List.all_eq_true.1 h n (DataW.weights_mem_each ht hd n hn)
  simpa using this
theorem arg_aggZ {P : Program} (htile : tilesOk P = true) {H : Type} {enc : TypeId × Value → H} {w : World} {t : TypeId} {fs : Array Field} {α : Type} {f : α → List V} {ok : α → Prop} {r : Reach} {b0 : Nat} {v : Value} {d : DataW H} {p : List MemPlace}
    (ht : P.underlying t = some (.struct fs)) (hin : t < P.types.size) (hT : IsTZ P t f ok) (hv : Value.okWide P w r b0 t v) (h : DataW.Trod enc P w 0 (fun _ => true) true t v d p) (hw : Wt P t d) :
    ∃ x : α, ok x ∧ RepI (· < w.heap.size) w v (.agg (f x)) := by
  obtain ⟨cs, rfl, hsz⟩ := okWide_struct ht hv
  obtain ⟨fuel, hf⟩ := h
  obtain ⟨xs, hty, hl, hr⟩ := trod_repZ htile fuel t _ d p hin hf hw
  obtain ⟨x, rfl, hok⟩ := hT xs hty
  simp only [Value.cells] at hl hr
  exact ⟨x, hok, .agg cs _ (by simpa using hl.symm) fun j v c hv hc => hr j v c (by simpa using hv) hc⟩
end Go.Proofs.YtlkdcgfjmhjjpaaGreat
