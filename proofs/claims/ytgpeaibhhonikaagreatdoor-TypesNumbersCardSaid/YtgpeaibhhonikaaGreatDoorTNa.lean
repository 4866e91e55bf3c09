/-
  LgR LgS MirA MirC LgW MirV LgX LgY LgZ Typ: put together.
-/
import Derived.Test.YtgpeaibhhonikaaGreatDoorLgV
import GoSem.ClaimChange
import Derived.ChangeArms
import Derived.OpenShut
import Derived.Lib.SmallJoins
import Derived.Test.YtgpeaibhhonikaaGreatDoorLgU
set_option linter.unusedSimpArgs false
set_option linter.unusedVariables false
namespace Go.Lg
open Go Go.RowKit

/-- Types whose values are not looked into. -/
def otherOk (P : Program) : TypeDesc → Bool
  | .bool | .int _ | .string | .struct _ | .array .. => false
  | .slice e => P.cellsOf e == 0
  | _ => true

/-- The cells of a value of a type. -/
inductive Ty (P : Program) : TypeId → List V → Prop
  | bool (t b) : P.underlying t = some .bool → Ty P t [.bool b]
  | int (t k n) : P.underlying t = some (.int k) → (Lit.int k n).wf = true → Ty P t [.int k n]
  | str (t s) : P.underlying t = some .string → s.size ≤ maxLen → Ty P t [.str s]
  | struct (t fs cs) : P.underlying t = some (.struct fs) → cs.length = P.cellsOf t → (∀ f ∈ fs.toList, Ty P f.type ((cs.drop f.offset).take (P.cellsOf f.type))) → Ty P t cs
  | array (t n e cs) : P.underlying t = some (.array n e) → cs.length = P.cellsOf t → (∀ i, i < n → Ty P e ((cs.drop (i * P.cellsOf e)).take (P.cellsOf e))) → Ty P t cs
  | slice (t e n cs) : P.underlying t = some (.slice e) → cs.length = n * P.cellsOf e → n ≤ maxLen → (∀ i, i < n → Ty P e ((cs.drop (i * P.cellsOf e)).take (P.cellsOf e))) → Ty P t [.sl n cs]
  | other (t d) : P.underlying t = some d → otherOk P d = true → Ty P t [.junk]

section
variable {P : Program} {H : Type} {enc : TypeId × Value → H} {w : World}

/-- Cells of the model and logical ones. -/
def CellsRep (w : World) (cs : List Value) (xs : List V) : Prop :=
  xs.length = cs.length ∧ ∀ (j : Nat) (v : Value) (x : V), cs[j]? = some v → xs[j]? = some x → RepI (· < w.heap.size) w v x

theorem CellsRep.one {v : Value} {x : V} (h : RepI (· < w.heap.size) w v x) : CellsRep w [v] [x] := by
  refine ⟨rfl, fun j u y hu hy => ?_⟩
  cases j with
  | zero => simp at hu hy; subst hu hy; exact h
  | succ j => simp at hu

theorem cells?_spec {a : Addr} {n : Nat} {l : List Value} (h : w.cells? 0 a n = some l) : l.length = n ∧ (0 < n → ∃ us T fz, a.spot = none ∧ w.heap[a.block]? = some (.cells us T fz) ∧ a.off + n ≤ us.size ∧ ∀ j, j < n → us[a.off + j]? = l[j]?) := by
  unfold World.cells? at h
  rw [if_pos (Nat.zero_le _)] at h
  obtain ⟨h1, h2⟩ := mapM_spec h
  rw [List.length_range] at h1
  have get : ∀ j (hj : j < n), w.cell? (a.add j) = some (l[j]'(by omega)) := by
    intro j hj
    exact h2 j j _ (by simp [hj]) (List.getElem?_eq_getElem (by omega))
  refine ⟨h1, fun hn => ?_⟩
  have h0 := get 0 hn
  have e0 : a.add 0 = a := by simp [Addr.add]
  rw [e0] at h0
  have hspot : a.spot = none := by
    unfold World.cell? at h0
    split at h0
    · split at h0
      · cases h0
      · rename_i hsp; simpa using hsp
    · cases h0
  obtain ⟨b, off, spot⟩ := a
  subst hspot
  unfold World.cell? at h0
  simp only [] at h0
  cases hb : w.heap[b]? with
  | none => rw [hb] at h0; cases h0
  | some ob =>
    cases ob with
    | cells us T fz =>
      have cell : ∀ j, j < n → us[off + j]? = l[j]? := by
        intro j hj
        have := get j hj
        rw [addr_add, cell_at hb] at this
        rw [this, List.getElem?_eq_getElem (by omega)]
      refine ⟨us, T, fz, rfl, rfl, ?_, cell⟩
      have hl := cell (n - 1) (by omega)
      rw [List.getElem?_eq_getElem (by omega)] at hl
      have : off + (n - 1) < us.size := by
        rcases Nat.lt_or_ge (off + (n - 1)) us.size with h' | h'
        · exact h'
        · rw [Array.getElem?_eq_none h'] at hl; cases hl
      simp only []
      omega
    | _ => rw [hb] at h0; cases h0

/-- Fields side by side. -/
def tileF (P : Program) : Nat → List Field → Option Nat
  | o, [] => some o
  | o, f :: r => if f.offset = o then tileF P (o + P.cellsOf f.type) r else none
def tileOk (P : Program) (t : TypeId) : Bool := match P.underlying t with
  | some (.struct fs) => tileF P 0 fs.toList == some (P.cellsOf t)
  | some (.array n e) => n * P.cellsOf e == P.cellsOf t
  | _ => true

def compsOf (P : Program) (t : TypeId) : List TypeId := match P.underlying t with
  | some (.struct fs) => fs.toList.map (·.type)
  | some (.array _ e) | some (.slice e) => [e]
  | _ => []
/-- All types of the table are laid out side by side, and made of types of the table. -/
def tilesOk (P : Program) : Bool := (List.range P.types.size).all fun t => tileOk P t && (compsOf P t).all fun c => decide (c < P.types.size)

theorem tile_all (h : tilesOk P = true) {t : TypeId} (ht : t < P.types.size) : tileOk P t = true ∧ ∀ c ∈ compsOf P t, c < P.types.size := by
  have := List.all_eq_true.1 h t (List.mem_range.2 ht)
  simp only [Bool.and_eq_true] at this
  exact ⟨this.1, fun c hc => by simpa using List.all_eq_true.1 this.2 c hc⟩

theorem fields_rep {fuel : Nat} (ih : ∀ (t : TypeId) (cs : List Value) (d : DataW H) (p : List MemPlace), t < P.types.size → DataW.trod enc P w 0 (fun _ => true) true fuel t cs = some (d, p) → ∃ xs, Ty P t xs ∧ CellsRep w cs xs) (cs : List Value) :
    ∀ (fs : List Field) (o n : Nat), (∀ f ∈ fs, f.type < P.types.size) → tileF P o fs = some n → n ≤ cs.length → (∀ f ∈ fs, ∃ x, DataW.trod enc P w 0 (fun _ => true) true fuel f.type ((cs.drop f.offset).take (P.cellsOf f.type)) = some x) →
      ∃ xs, o ≤ n ∧ CellsRep w ((cs.drop o).take (n - o)) xs ∧ ∀ f ∈ fs, o ≤ f.offset ∧ Ty P f.type ((xs.drop (f.offset - o)).take (P.cellsOf f.type))
  | [], o, n, _, ht, hn, _ => by
    cases ht
    exact ⟨[], Nat.le_refl _, ⟨by simp, fun j v x h => by simp at h⟩, fun f h => by cases h⟩
  | f :: r, o, n, hin, ht, hn, hf => by
    simp only [tileF] at ht
    split at ht
    case isFalse => cases ht
    rename_i hoff
    obtain ⟨xs', hle, hrep, hty⟩ := fields_rep ih cs r _ n (fun f hm => hin f (List.mem_cons_of_mem _ hm)) ht hn fun f hm => hf f (List.mem_cons_of_mem _ hm)
    obtain ⟨⟨d, p⟩, hx⟩ := hf f (List.mem_cons_self ..)
    obtain ⟨ys, hyt, hyr⟩ := ih _ _ _ _ (hin f (List.mem_cons_self ..)) hx
    rw [hoff] at hx hyr
    have hyl : ys.length = P.cellsOf f.type := by
      rw [hyr.1, List.length_take, List.length_drop]; omega
    have hsplit : (cs.drop o).take (n - o) = (cs.drop o).take (P.cellsOf f.type) ++ (cs.drop (o + P.cellsOf f.type)).take (n - (o + P.cellsOf f.type)) := by
      have e1 : n - o = P.cellsOf f.type + (n - (o + P.cellsOf f.type)) := by omega
      rw [e1, List.take_add, List.drop_drop]
    refine ⟨ys ++ xs', by omega, ?_, fun g hg => ?_⟩
    · rw [hsplit]
      refine ⟨by rw [List.length_append, List.length_append, hyr.1, hrep.1], fun j v x hv hx' => ?_⟩
      have hl : ((cs.drop o).take (P.cellsOf f.type)).length = ys.length := hyr.1.symm
      rw [List.getElem?_append, hl] at hv
      rw [List.getElem?_append] at hx'
      split at hv
      · rename_i hlt; rw [if_pos hlt] at hx'; exact hyr.2 j v x hv hx'
      · rename_i hlt; rw [if_neg hlt] at hx'; exact hrep.2 _ v x hv hx'
    · rcases List.mem_cons.1 hg with rfl | hg
      · refine ⟨by omega, ?_⟩
        rw [hoff, Nat.sub_self, List.drop_zero, List.take_append_of_le_length (by omega), List.take_of_length_le (by omega)]
        exact hyt
      · obtain ⟨h1, h2⟩ := hty g hg
        refine ⟨by omega, ?_⟩
        rw [List.drop_append, List.drop_eq_nil_of_le (by omega), List.nil_append, show g.offset - o - ys.length = g.offset - (o + P.cellsOf f.type) by omega]
        exact h2

/-- Elements side by side, each read by itself. -/
theorem elems_rep {e s : Nat} : ∀ (n : Nat) (get : Nat → List Value), (∀ i, i < n → (get i).length = s ∧ ∃ xs, Ty P e xs ∧ CellsRep w (get i) xs) →
    ∃ xs, CellsRep w ((List.range n).flatMap get) xs ∧ xs.length = n * s ∧ ∀ i, i < n → Ty P e ((xs.drop (i * s)).take s)
  | 0, get, _ => ⟨[], ⟨rfl, fun j v x h => by simp at h⟩, by simp, fun i h => by omega⟩
  | n + 1, get, h => by
    obtain ⟨xs, h1, h2, h3⟩ := elems_rep n get fun i hi => h i (by omega)
    obtain ⟨hl, ys, hy1, hy2⟩ := h n (by omega)
    have hyl : ys.length = s := by rw [hy2.1, hl]
    rw [List.range_succ, List.flatMap_append]
    simp only [List.flatMap_cons, List.flatMap_nil, List.append_nil]
    refine ⟨xs ++ ys, ⟨by rw [List.length_append, List.length_append, h1.1, hy2.1], fun j v x hv hx => ?_⟩, by rw [List.length_append, h2, hyl, Nat.add_mul]; omega, fun i hi => ?_⟩
    · rw [List.getElem?_append, ← h1.1] at hv
      rw [List.getElem?_append] at hx
      split at hv
      · rename_i hlt; rw [if_pos hlt] at hx; exact h1.2 j v x hv hx
      · rename_i hlt; rw [if_neg hlt] at hx; exact hy2.2 _ v x hv hx
    · rcases Nat.lt_or_ge i n with hlt | hge
      · have hm : i * s + s ≤ n * s := by
          have := Nat.mul_le_mul_right s (show i + 1 ≤ n by omega)
          rw [Nat.add_mul] at this; omega
        rw [List.drop_append_of_le_length (by omega), List.take_append_of_le_length (by rw [List.length_drop]; omega)]
        exact h3 i hlt
      · obtain rfl : i = n := by omega
        rw [List.drop_append, List.drop_eq_nil_of_le (by omega), h2, Nat.sub_self]
        simp only [List.nil_append, List.drop_zero]
        rw [List.take_of_length_le (by omega)]
        exact hy1

theorem trod_rep (htile : tilesOk P = true) : ∀ (fuel : Nat) (t : TypeId) (cs : List Value) (d : DataW H) (p : List MemPlace), t < P.types.size → DataW.trod enc P w 0 (fun _ => true) true fuel t cs = some (d, p) → ∃ xs, Ty P t xs ∧ CellsRep w cs xs
  | 0, t, cs, d, p, _, h => by cases h
  | fuel + 1, t, cs, d, p, hin, h => by
    have ih := trod_rep htile fuel
    obtain ⟨hto, hcomp⟩ := tile_all htile hin
    have h0 := h
    cases ht : P.underlying t with
    | none => unfold DataW.trod at h; rw [ht] at h; cases h
    | some td =>
      have other : ∀ v, cs = [v] → otherOk P td = true → ∃ xs, Ty P t xs ∧ CellsRep w cs xs := by
        intro v e hm
        subst e
        exact ⟨[.junk], .other t td ht hm, CellsRep.one (.junk _)⟩
      cases td with
      | bool =>
        obtain ⟨b, rfl, _⟩ := DataW.trod_bool ht h
        exact ⟨_, .bool t b ht, CellsRep.one (.bool b)⟩
      | int k =>
        obtain ⟨n, rfl, _, hw⟩ := DataW.trod_int ht h
        exact ⟨_, .int t k n ht hw, CellsRep.one (.int k n)⟩
      | string =>
        obtain ⟨s, rfl, _, hs⟩ := DataW.trod_string ht h
        exact ⟨_, .str t s ht hs, CellsRep.one (.str s)⟩
      | struct fs =>
        obtain ⟨ys, n, hn, _, hl, hlen, hf⟩ := DataW.trod_struct ht h
        obtain rfl : n = fuel := by omega
        simp only [tileOk, ht, beq_iff_eq] at hto
        obtain ⟨xs, h1, h2, h3⟩ := fields_rep ih cs fs.toList 0 _ (fun f hm => hcomp _ (by simp only [compsOf, ht]; exact List.mem_map_of_mem hm)) hto (by omega) (fun f hm => by
          obtain ⟨i, hi⟩ := List.mem_iff_getElem?.1 hm
          rw [Array.getElem?_toList] at hi
          have hlt : i < fs.size := by
            rcases Nat.lt_or_ge i fs.size with h' | h'
            · exact h'
            · rw [Array.getElem?_eq_none h'] at hi; cases hi
          exact ⟨ys[i], by rw [hf i f hi, List.getElem?_eq_getElem (by omega)]⟩)
        rw [List.drop_zero, Nat.sub_zero, List.take_of_length_le (by omega)] at h2
        exact ⟨xs, .struct t fs xs ht (by rw [h2.1, hl]) (fun f hm => by simpa using (h3 f hm).2), h2⟩
      | array n e =>
        obtain ⟨ys, m, hm, _, hl, hlen, hf⟩ := DataW.trod_array ht h
        obtain rfl : m = fuel := by omega
        simp only [tileOk, ht, beq_iff_eq] at hto
        obtain ⟨xs, h1, h2, h3⟩ := elems_rep (P := P) (e := e) (s := P.cellsOf e) (w := w) n (fun i => (cs.drop (i * P.cellsOf e)).take (P.cellsOf e)) (fun i hi => by
          refine ⟨?_, ?_⟩
          · have hmm : i * P.cellsOf e + P.cellsOf e ≤ n * P.cellsOf e := by
              have := Nat.mul_le_mul_right (P.cellsOf e) (show i + 1 ≤ n by omega)
              rw [Nat.add_mul] at this; omega
            rw [List.length_take, List.length_drop]; omega
          · have hx := hf i hi
            rw [List.getElem?_eq_getElem (by omega)] at hx
            exact ih _ _ _ _ (hcomp e (by simp [compsOf, ht])) hx)
        have hcs : (List.range n).flatMap (fun i => (cs.drop (i * P.cellsOf e)).take (P.cellsOf e)) = cs := by
          have key : ∀ m, m ≤ n → (List.range m).flatMap (fun i => (cs.drop (i * P.cellsOf e)).take (P.cellsOf e)) = cs.take (m * P.cellsOf e) := by
            intro m
            induction m with
            | zero => intro _; simp
            | succ m ihm =>
              intro hm
              rw [List.range_succ, List.flatMap_append, ihm (by omega)]
              simp only [List.flatMap_cons, List.flatMap_nil, List.append_nil]
              rw [Nat.add_mul, Nat.one_mul, List.take_add]
          rw [key n (Nat.le_refl _), List.take_of_length_le (by omega)]
        rw [hcs] at h1
        exact ⟨xs, .array t n e xs ht (by rw [h1.1, hl]) h3, h1⟩
      | slice e =>
        unfold DataW.trod at h
        rw [ht] at h
        simp only [] at h
        by_cases hz : P.cellsOf e = 0
        · obtain ⟨a, l, c, rfl⟩ := Joins.slice_form ht h0
          exact other _ rfl (by simp [otherOk, hz])
        · have hp : 0 < P.cellsOf e := Nat.pos_of_ne_zero hz
          obtain ⟨a, l, c, rfl⟩ := Joins.slice_form ht h0
          cases a with
          | none =>
            have hlc : l = 0 ∧ c = 0 := by
              split at h <;> first | (cases h; done) | simp_all
            obtain ⟨rfl, rfl⟩ := hlc
            exact ⟨[.sl 0 []], .slice t e 0 [] ht (by simp) (Nat.zero_le _) (fun i h => by omega), CellsRep.one (.sl0 _ _)⟩
          | some a =>
            simp only [] at h
            split at h
            case isFalse => cases h
            rename_i hcond
            simp only [Option.bind_eq_some_iff] at h
            obtain ⟨els, hels, _⟩ := h
            obtain ⟨q1, q2⟩ := mapM_spec hels
            rw [List.length_range] at q1
            have each : ∀ i, i < l → ∃ cl, w.cells? 0 (a.add (i * P.cellsOf e)) (P.cellsOf e) = some cl ∧ ∃ xs, Ty P e xs ∧ CellsRep w cl xs := by
              intro i hi
              have := q2 i i _ (by simp [hi]) (List.getElem?_eq_getElem (by omega))
              simp only [Option.bind_eq_some_iff] at this
              obtain ⟨cl, h1, h2⟩ := this
              exact ⟨cl, h1, ih _ _ _ _ (hcomp e (by simp [compsOf, ht])) h2⟩
            by_cases hl0 : l = 0
            · subst hl0
              exact ⟨[.sl 0 []], .slice t e 0 [] ht (by simp) (Nat.zero_le _) (fun i h => by omega), CellsRep.one (.sl0 _ _)⟩
            · obtain ⟨cl0, hc0, _⟩ := each 0 (by omega)
              have ea0 : a.add (0 * P.cellsOf e) = a := by simp [Addr.add]
              rw [ea0] at hc0
              obtain ⟨_, hblk⟩ := cells?_spec hc0
              obtain ⟨us, T, fz, hspot, hb, _, _⟩ := hblk hp
              clear hblk
              obtain ⟨b, off, spot⟩ := a
              simp only [] at hspot hb
              subst hspot
              obtain ⟨xs, h1, h2, h3⟩ := elems_rep (P := P) (e := e) (s := P.cellsOf e) (w := w) l (fun i => ((us.toList.drop (off + i * P.cellsOf e)).take (P.cellsOf e))) (fun i hi => by
                obtain ⟨cl, hcl, xs, hx1, hx2⟩ := each i hi
                rw [addr_add] at hcl
                obtain ⟨hlen, hsp⟩ := cells?_spec hcl
                obtain ⟨us', T', fz', _, hb', hsz, hget⟩ := hsp hp
                simp only [] at hb' hsz hget
                rw [hb] at hb'; cases hb'
                have heq : (us.toList.drop (off + i * P.cellsOf e)).take (P.cellsOf e) = cl := by
                  apply List.ext_getElem?
                  intro j
                  rw [List.getElem?_take]
                  split
                  · rename_i hj
                    rw [List.getElem?_drop, Array.getElem?_toList]
                    exact hget j hj
                  · rename_i hj
                    rw [List.getElem?_eq_none (by omega)]
                refine ⟨by rw [heq]; exact hlen, xs, hx1, by rw [heq]; exact hx2⟩)
              have hsz : off + l * P.cellsOf e ≤ us.size := by
                obtain ⟨cl, hcl, _⟩ := each (l - 1) (by omega)
                rw [addr_add] at hcl
                obtain ⟨_, hsp⟩ := cells?_spec hcl
                obtain ⟨us', T', fz', _, hb', hsz, _⟩ := hsp hp
                simp only [] at hb' hsz
                rw [hb] at hb'; cases hb'
                have : (l - 1) * P.cellsOf e + P.cellsOf e = l * P.cellsOf e := by
                  rw [← Nat.succ_mul]; congr 1; omega
                omega
              refine ⟨[.sl l xs], .slice t e l xs ht h2 (by omega) h3, CellsRep.one (.sl b off l c us T fz xs ?_ hb (by omega) hcond.2.1 fun j v x hv hx => ?_)⟩
              · rcases Nat.lt_or_ge b w.heap.size with h' | h'
                · exact h'
                · rw [Array.getElem?_eq_none h'] at hb; cases hb
              · have hjl : j < l * P.cellsOf e := by
                  rcases Nat.lt_or_ge j xs.length with h' | h'
                  · omega
                  · rw [List.getElem?_eq_none h'] at hx; cases hx
                refine h1.2 j v x ?_ hx
                have hfl : (List.range l).flatMap (fun i => ((us.toList.drop (off + i * P.cellsOf e)).take (P.cellsOf e))) = (us.toList.drop off).take (l * P.cellsOf e) := by
                  have key : ∀ m, (List.range m).flatMap (fun i => ((us.toList.drop (off + i * P.cellsOf e)).take (P.cellsOf e))) = (us.toList.drop off).take (m * P.cellsOf e) := by
                    intro m
                    induction m with
                    | zero => simp
                    | succ m ihm =>
                      rw [List.range_succ, List.flatMap_append, ihm]
                      simp only [List.flatMap_cons, List.flatMap_nil, List.append_nil]
                      rw [Nat.add_mul, Nat.one_mul, List.take_add, List.drop_drop]
                  exact key l
                rw [hfl, List.getElem?_take, if_pos hjl, List.getElem?_drop, Array.getElem?_toList]
                exact hv
      | _ =>
        have : ∃ v, cs = [v] := by
          unfold DataW.trod at h
          rw [ht] at h
          simp only [] at h
          first
            | (cases h; done)
            | (split at h <;> first | (cases h; done) | exact ⟨_, rfl⟩ | simp_all)
        obtain ⟨v, hv⟩ := this
        exact other v hv rfl

end
end Go.Lg

set_option linter.unusedSimpArgs false
set_option linter.unusedVariables false
namespace Go.Lg
open Go Go.RowKit

def kindF (P : Program) (t : TypeId) : Option IntKind := match P.underlying t with | some (.int k) => some k | _ => none
def strF (P : Program) (t : TypeId) : Bool := match P.underlying t with | some .string => true | _ => false
def stF (P : Program) (t : TypeId) : Option (List TypeId) := match P.underlying t with | some (.struct fs) => if tileOk P t then some (fs.toList.map (·.type)) else none | _ => none
def slF (P : Program) (t : TypeId) : Option (TypeId × Nat) := match P.underlying t with | some (.slice e) => some (e, P.cellsOf e) | _ => none
/-- Cells in pieces, each with its type. -/
def Pcs (Q : TypeId → List V → Prop) : List TypeId → List V → Prop
  | [], xs => xs = []
  | t :: r, xs => ∃ p q, xs = p ++ q ∧ Q t p ∧ Pcs Q r q

section
variable {P : Program}

theorem pcs_of {Q : TypeId → List V → Prop} {xs : List V} : ∀ (fs : List Field) (o n : Nat), tileF P o fs = some n → xs.length = n → (∀ f ∈ fs, Q f.type ((xs.drop f.offset).take (P.cellsOf f.type))) → Pcs Q (fs.map (·.type)) (xs.drop o)
  | [], o, n, h, hl, _ => by
    cases h
    simp only [List.map_nil, Pcs]
    exact List.drop_eq_nil_of_le (by omega)
  | f :: r, o, n, h, hl, hf => by
    simp only [tileF] at h
    split at h
    case isFalse => cases h
    rename_i ho
    have h1 := hf f (List.mem_cons_self ..)
    rw [ho] at h1
    refine ⟨_, _, ?_, h1, pcs_of r _ n h hl fun g hg => hf g (List.mem_cons_of_mem _ hg)⟩
    rw [← List.drop_drop, List.take_append_drop]

theorem Ty.st {t : TypeId} {xs : List V} {ts : List TypeId} (h : Ty P t xs) (hs : stF P t = some ts) : Pcs (Ty P) ts xs := by
  unfold stF at hs
  cases h with
  | struct _ fs _ hu hl hf =>
    simp only [hu] at hs
    split at hs
    case isFalse => cases hs
    rename_i ht
    cases hs
    simp only [tileOk, hu, beq_iff_eq] at ht
    have := pcs_of (Q := Ty P) (xs := xs) fs.toList 0 _ ht hl hf
    simpa using this
  | other _ d hu ho => simp only [hu] at hs; cases d <;> simp_all [otherOk]
  | _ => simp_all

def IsT (P : Program) (t : TypeId) {α : Type} (f : α → List V) (ok : α → Prop) : Prop := ∀ xs, Ty P t xs → ∃ x, xs = f x ∧ ok x

def encL {α : Type} (f : α → List V) (l : List α) : V := .sl l.length (l.flatMap f)

theorem isInt {t : TypeId} (h : kindF P t = some .i64) : IsT P t (fun n : Int => [.int .i64 n]) InI64 := by
  intro xs hx
  unfold kindF at h
  cases hx with
  | int _ k n hu hw =>
    simp only [hu, Option.some.injEq] at h
    subst h
    refine ⟨n, rfl, ?_⟩
    simp [Lit.wf, IntKind.min, IntKind.max, IntKind.signed, IntKind.bits] at hw
    exact hw
  | other _ d hu ho => simp only [hu] at h; cases d <;> simp_all [otherOk]
  | _ => simp_all
theorem isStr {t : TypeId} (h : strF P t = true) : IsT P t (fun s : ByteArray => [.str s]) (fun s => s.size ≤ maxLen) := by
  intro xs hx
  unfold strF at h
  cases hx with
  | str _ b hu hs => exact ⟨b, rfl, hs⟩
  | other _ d hu ho => simp only [hu] at h; cases d <;> simp_all [otherOk]
  | _ => simp_all

theorem Ty.sl {t e : TypeId} {s : Nat} {xs : List V} (h : Ty P t xs) (hs : slF P t = some (e, s)) (hp : 0 < s) :
    ∃ n cs, xs = [.sl n cs] ∧ cs.length = n * s ∧ n ≤ maxLen ∧ ∀ i, i < n → Ty P e ((cs.drop (i * s)).take s) := by
  unfold slF at hs
  cases h with
  | slice _ e' n cs hu hl hn hi =>
    simp only [hu, Option.some.injEq, Prod.mk.injEq] at hs
    obtain ⟨rfl, rfl⟩ := hs
    exact ⟨n, cs, rfl, hl, hn, hi⟩
  | other _ d hu ho =>
    simp only [hu] at hs
    cases d with
    | slice e' =>
      simp only [Option.some.injEq, Prod.mk.injEq] at hs
      obtain ⟨rfl, rfl⟩ := hs
      simp [otherOk] at ho; omega
    | _ => cases hs
  | _ => simp_all

theorem list_of_pcs {α : Type} {f : α → List V} {ok : α → Prop} {s : Nat} (hf : ∀ x, (f x).length = s) : ∀ (n : Nat) (cs : List V), cs.length = n * s → (∀ i, i < n → ∃ x, (cs.drop (i * s)).take s = f x ∧ ok x) →
    ∃ l : List α, l.length = n ∧ cs = l.flatMap f ∧ ∀ x ∈ l, ok x
  | 0, cs, hl, _ => ⟨[], rfl, List.eq_nil_of_length_eq_zero (by omega), fun x h => by cases h⟩
  | n + 1, cs, hl, h => by
    obtain ⟨x, hx, hox⟩ := h 0 (by omega)
    have hl' : (cs.drop s).length = n * s := by rw [List.length_drop, hl, Nat.add_mul]; omega
    obtain ⟨l, h1, h2, h3⟩ := list_of_pcs hf n (cs.drop s) hl' fun i hi => by
      obtain ⟨y, hy, hoy⟩ := h (i + 1) (by omega)
      refine ⟨y, ?_, hoy⟩
      rw [List.drop_drop, show s + i * s = (i + 1) * s by rw [Nat.add_mul]; omega]
      exact hy
    refine ⟨x :: l, by simp [h1], ?_, fun y hy => ?_⟩
    · simp only [Nat.zero_mul, List.drop_zero] at hx
      rw [List.flatMap_cons, ← h2, ← hx, List.take_append_drop]
    · rcases List.mem_cons.1 hy with rfl | hy
      · exact hox
      · exact h3 y hy

theorem isSl {t e : TypeId} {s : Nat} {α : Type} {f : α → List V} {ok : α → Prop} (h : slF P t = some (e, s)) (hp : 0 < s) (hf : ∀ x, (f x).length = s) (he : IsT P e f ok) :
    IsT P t (fun l : List α => [encL f l]) (fun l => l.length ≤ maxLen ∧ ∀ x ∈ l, ok x) := by
  intro xs hx
  obtain ⟨n, cs, rfl, hl, hn, hi⟩ := hx.sl h hp
  obtain ⟨l, h1, h2, h3⟩ := list_of_pcs hf n cs hl fun i h => he _ (hi i h)
  exact ⟨l, by simp only [encL]; rw [← h2, h1], by omega, h3⟩

/-! Reading lists of records. -/
theorem flat_len {α : Type} {f : α → List V} {s : Nat} (hf : ∀ x, (f x).length = s) : ∀ (l : List α), (l.flatMap f).length = l.length * s
  | [] => by simp
  | x :: l => by rw [List.flatMap_cons, List.length_append, flat_len hf l, hf, List.length_cons, Nat.add_mul]; omega

theorem flat_rec {α : Type} {f : α → List V} {s : Nat} (hf : ∀ x, (f x).length = s) : ∀ (l : List α) (i : Nat) (h : i < l.length), ((l.flatMap f).drop (i * s)).take s = f l[i]
  | x :: l, 0, _ => by
    rw [List.flatMap_cons, Nat.zero_mul, List.drop_zero, ← hf x, List.take_left]; rfl
  | x :: l, i + 1, h => by
    rw [List.flatMap_cons, Nat.add_mul, Nat.one_mul, Nat.add_comm, List.drop_append, hf, List.drop_eq_nil_of_le (by rw [hf]; omega), List.nil_append, Nat.add_sub_cancel_left]
    exact flat_rec hf l i (by simpa using h)

theorem flat_cell {α : Type} {f : α → List V} {s : Nat} (hf : ∀ x, (f x).length = s) : ∀ (l : List α) (i j : Nat) (h : i < l.length), j < s → (l.flatMap f)[i * s + j]? = (f l[i])[j]?
  | x :: l, 0, j, _, hj => by
    rw [List.flatMap_cons, Nat.zero_mul, Nat.zero_add, List.getElem?_append_left (by rw [hf]; exact hj)]; rfl
  | x :: l, i + 1, j, h, hj => by
    rw [List.flatMap_cons, List.getElem?_append_right (by rw [hf, Nat.add_mul]; omega), hf, show (i + 1) * s + j - s = i * s + j by rw [Nat.add_mul]; omega]
    exact flat_cell hf l i j (by simpa using h) hj

end
end Go.Lg

set_option linter.unusedSimpArgs false
set_option linter.unusedVariables false
namespace Go.Lg
open Go Go.RowKit

def cI (n : Int) : List V := [.int .i64 n]
def cB (b : Bool) : List V := [.bool b]
def cS (s : ByteArray) : List V := [.str s]

structure MPath where
  loc : Int
  steps : List ByteArray
@[irreducible] def MPath.cells (p : MPath) : List V := [.int .i64 p.loc, encL cS p.steps]
def MPath.ok (p : MPath) : Prop := InI64 p.loc ∧ p.steps.length ≤ maxLen ∧ ∀ s ∈ p.steps, s.size ≤ maxLen

structure MOper where
  kind : Int
  n : Int
  path : MPath
@[irreducible] def MOper.cells (o : MOper) : List V := [.int .i64 o.kind, .int .i64 o.n, .int .i64 o.path.loc, encL cS o.path.steps]
def MOper.ok (o : MOper) : Prop := InI64 o.kind ∧ InI64 o.n ∧ o.path.ok

structure MVal where
  kind : Int
  a : MOper
  b : MOper
  op : Int
  path : MPath
  region : Int
  name : ByteArray
  regions : List Int
  args : List MOper
@[irreducible] def MVal.cells (v : MVal) : List V := [.int .i64 v.kind, .int .i64 v.a.kind, .int .i64 v.a.n, .int .i64 v.a.path.loc, encL cS v.a.path.steps, .int .i64 v.b.kind, .int .i64 v.b.n, .int .i64 v.b.path.loc, encL cS v.b.path.steps,
  .int .i64 v.op, .int .i64 v.path.loc, encL cS v.path.steps, .int .i64 v.region, .str v.name, encL cI v.regions, encL MOper.cells v.args]
def MVal.ok (v : MVal) : Prop := InI64 v.kind ∧ v.a.ok ∧ v.b.ok ∧ InI64 v.op ∧ v.path.ok ∧ InI64 v.region ∧ v.name.size ≤ maxLen ∧ (v.regions.length ≤ maxLen ∧ ∀ x ∈ v.regions, InI64 x) ∧ (v.args.length ≤ maxLen ∧ ∀ x ∈ v.args, x.ok)

structure MInst where
  kind : Int
  at' : Int
  has : Bool
  to : MPath
  val : MVal
  next : List Int
@[irreducible] def MInst.cells (x : MInst) : List V := [.int .i64 x.kind, .int .i64 x.at', .bool x.has, .int .i64 x.to.loc, encL cS x.to.steps, .int .i64 x.val.kind, .int .i64 x.val.a.kind, .int .i64 x.val.a.n, .int .i64 x.val.a.path.loc, encL cS x.val.a.path.steps,
  .int .i64 x.val.b.kind, .int .i64 x.val.b.n, .int .i64 x.val.b.path.loc, encL cS x.val.b.path.steps, .int .i64 x.val.op, .int .i64 x.val.path.loc, encL cS x.val.path.steps, .int .i64 x.val.region, .str x.val.name, encL cI x.val.regions, encL MOper.cells x.val.args, encL cI x.next]
def MInst.ok (x : MInst) : Prop := InI64 x.kind ∧ InI64 x.at' ∧ x.to.ok ∧ x.val.ok ∧ x.next.length ≤ maxLen ∧ ∀ y ∈ x.next, InI64 y

inductive RT where
  | mk (kind : Int) (name : ByteArray) (regions : List Int) (elem : List RT)
def RT.kind : RT → Int | .mk k _ _ _ => k
def RT.name : RT → ByteArray | .mk _ n _ _ => n
def RT.regions : RT → List Int | .mk _ _ r _ => r
def RT.elem : RT → List RT | .mk _ _ _ e => e
mutual
def RT.cells : RT → List V
  | .mk k n r e => [.int .i64 k, .str n, encL cI r, .sl e.length (RT.cellsL e)]
def RT.cellsL : List RT → List V
  | [] => []
  | x :: r => RT.cells x ++ RT.cellsL r
end
mutual
def RT.ok : RT → Prop
  | .mk k n r e => InI64 k ∧ n.size ≤ maxLen ∧ (r.length ≤ maxLen ∧ ∀ x ∈ r, InI64 x) ∧ e.length ≤ maxLen ∧ RT.okL e
def RT.okL : List RT → Prop
  | [] => True
  | x :: r => RT.ok x ∧ RT.okL r
end
theorem RT.cellsL_eq : ∀ l : List RT, RT.cellsL l = l.flatMap RT.cells
  | [] => rfl
  | x :: r => by rw [RT.cellsL, RT.cellsL_eq r]; rfl
theorem RT.okL_iff : ∀ l : List RT, RT.okL l ↔ ∀ x ∈ l, x.ok
  | [] => by simp [RT.okL]
  | x :: r => by rw [RT.okL, RT.okL_iff r]; simp
theorem RT.cells_eq (t : RT) : t.cells = [.int .i64 t.kind, .str t.name, encL cI t.regions, encL RT.cells t.elem] := by
  cases t with
  | mk k n r e => rw [RT.cells, RT.cellsL_eq]; rfl
theorem RT.ok_iff (t : RT) : t.ok ↔ InI64 t.kind ∧ t.name.size ≤ maxLen ∧ (t.regions.length ≤ maxLen ∧ ∀ x ∈ t.regions, InI64 x) ∧ t.elem.length ≤ maxLen ∧ ∀ x ∈ t.elem, x.ok := by
  cases t with
  | mk k n r e => rw [RT.ok, RT.okL_iff]; rfl

structure MLocal where
  name : ByteArray
  type : RT
  param : Bool
@[irreducible] def MLocal.cells (l : MLocal) : List V := [.str l.name, .int .i64 l.type.kind, .str l.type.name, encL cI l.type.regions, encL RT.cells l.type.elem, .bool l.param]
def MLocal.ok (l : MLocal) : Prop := l.name.size ≤ maxLen ∧ l.type.ok

structure Mir where
  at' : Int
  free : Int
  regions : Int
  known : List (List Int)
  locals : List MLocal
  code : List MInst
@[irreducible] def Mir.cells (m : Mir) : List V := [.int .i64 m.at', .int .i64 m.free, .int .i64 m.regions, encL (fun k : List Int => k.flatMap cI) m.known, encL MLocal.cells m.locals, encL MInst.cells m.code]
def Mir.ok (m : Mir) : Prop := InI64 m.at' ∧ InI64 m.free ∧ InI64 m.regions ∧ (m.known.length ≤ maxLen ∧ ∀ k ∈ m.known, k.length = 2 ∧ ∀ x ∈ k, InI64 x) ∧ (m.locals.length ≤ maxLen ∧ ∀ x ∈ m.locals, x.ok) ∧ (m.code.length ≤ maxLen ∧ ∀ x ∈ m.code, x.ok)

theorem cI_len (x : Int) : (cI x).length = 1 := rfl
theorem cB_len (x : Bool) : (cB x).length = 1 := rfl
theorem cS_len (x : ByteArray) : (cS x).length = 1 := rfl
theorem MPath.len (x : MPath) : x.cells.length = 2 := by simp [MPath.cells]
theorem MOper.len (x : MOper) : x.cells.length = 4 := by simp [MOper.cells]
theorem MVal.len (x : MVal) : x.cells.length = 16 := by simp [MVal.cells]
theorem MInst.len (x : MInst) : x.cells.length = 22 := by simp [MInst.cells]
theorem RT.len (x : RT) : x.cells.length = 4 := by rw [RT.cells_eq]; rfl
theorem MLocal.len (x : MLocal) : x.cells.length = 6 := by simp [MLocal.cells]
theorem Mir.len (x : Mir) : x.cells.length = 6 := by simp [Mir.cells]

end Go.Lg

set_option linter.unusedSimpArgs false
set_option linter.unusedVariables false
namespace Go.Lg
open Go Go.RowKit

theorem MPath.c0 (x : MPath) : ldV false 1 x.cells 0 = some (.int .i64 x.loc) := by simp [ldV, MPath.cells]
theorem MPath.c1 (x : MPath) : ldV false 1 x.cells 1 = some (encL cS x.steps) := by simp [ldV, MPath.cells]
theorem MPath.call (x : MPath) : ldV true 2 x.cells 0 = some (.agg x.cells) := by simp only [ldV, if_true, Nat.zero_add, MPath.len, Nat.le_refl, List.drop_zero]; rw [List.take_of_length_le (by rw [MPath.len]; exact Nat.le_refl _)]
theorem MPath.snapc (x : MPath) (H : Heap) (d : Nat) : x.cells.map (snap H (d + 1)) = x.cells := by simp [MPath.cells, snap, encL]
theorem MPath.sokc (x : MPath) (H : Heap) (d : Nat) : x.cells.all (sok H (d + 1)) = true := by simp [MPath.cells, sok, encL]
theorem MPath.onec (x : MPath) : x.cells.all V.one = true := by simp [MPath.cells, V.one, encL]
theorem MPath.imvc (x : MPath) (d : Nat) : x.cells.all (imV (d + 1)) = true := by simp [MPath.cells, imV, encL]
theorem MOper.c0 (x : MOper) : ldV false 1 x.cells 0 = some (.int .i64 x.kind) := by simp [ldV, MOper.cells]
theorem MOper.c1 (x : MOper) : ldV false 1 x.cells 1 = some (.int .i64 x.n) := by simp [ldV, MOper.cells]
theorem MOper.c2 (x : MOper) : ldV false 1 x.cells 2 = some (.int .i64 x.path.loc) := by simp [ldV, MOper.cells]
theorem MOper.c3 (x : MOper) : ldV false 1 x.cells 3 = some (encL cS x.path.steps) := by simp [ldV, MOper.cells]
theorem MOper.call (x : MOper) : ldV true 4 x.cells 0 = some (.agg x.cells) := by simp only [ldV, if_true, Nat.zero_add, MOper.len, Nat.le_refl, List.drop_zero]; rw [List.take_of_length_le (by rw [MOper.len]; exact Nat.le_refl _)]
theorem MOper.s2_2 (x : MOper) : ldV true 2 x.cells 2 = some (.agg x.path.cells) := by simp [ldV, MOper.cells, MPath.cells]
theorem MOper.snapc (x : MOper) (H : Heap) (d : Nat) : x.cells.map (snap H (d + 1)) = x.cells := by simp [MOper.cells, snap, encL]
theorem MOper.sokc (x : MOper) (H : Heap) (d : Nat) : x.cells.all (sok H (d + 1)) = true := by simp [MOper.cells, sok, encL]
theorem MOper.onec (x : MOper) : x.cells.all V.one = true := by simp [MOper.cells, V.one, encL]
theorem MOper.imvc (x : MOper) (d : Nat) : x.cells.all (imV (d + 1)) = true := by simp [MOper.cells, imV, encL]
theorem MVal.c0 (x : MVal) : ldV false 1 x.cells 0 = some (.int .i64 x.kind) := by simp [ldV, MVal.cells]
theorem MVal.c1 (x : MVal) : ldV false 1 x.cells 1 = some (.int .i64 x.a.kind) := by simp [ldV, MVal.cells]
theorem MVal.c2 (x : MVal) : ldV false 1 x.cells 2 = some (.int .i64 x.a.n) := by simp [ldV, MVal.cells]
theorem MVal.c3 (x : MVal) : ldV false 1 x.cells 3 = some (.int .i64 x.a.path.loc) := by simp [ldV, MVal.cells]
theorem MVal.c4 (x : MVal) : ldV false 1 x.cells 4 = some (encL cS x.a.path.steps) := by simp [ldV, MVal.cells]
theorem MVal.c5 (x : MVal) : ldV false 1 x.cells 5 = some (.int .i64 x.b.kind) := by simp [ldV, MVal.cells]
theorem MVal.c6 (x : MVal) : ldV false 1 x.cells 6 = some (.int .i64 x.b.n) := by simp [ldV, MVal.cells]
theorem MVal.c7 (x : MVal) : ldV false 1 x.cells 7 = some (.int .i64 x.b.path.loc) := by simp [ldV, MVal.cells]
theorem MVal.c8 (x : MVal) : ldV false 1 x.cells 8 = some (encL cS x.b.path.steps) := by simp [ldV, MVal.cells]
theorem MVal.c9 (x : MVal) : ldV false 1 x.cells 9 = some (.int .i64 x.op) := by simp [ldV, MVal.cells]
theorem MVal.c10 (x : MVal) : ldV false 1 x.cells 10 = some (.int .i64 x.path.loc) := by simp [ldV, MVal.cells]
theorem MVal.c11 (x : MVal) : ldV false 1 x.cells 11 = some (encL cS x.path.steps) := by simp [ldV, MVal.cells]
theorem MVal.c12 (x : MVal) : ldV false 1 x.cells 12 = some (.int .i64 x.region) := by simp [ldV, MVal.cells]
theorem MVal.c13 (x : MVal) : ldV false 1 x.cells 13 = some (.str x.name) := by simp [ldV, MVal.cells]
theorem MVal.c14 (x : MVal) : ldV false 1 x.cells 14 = some (encL cI x.regions) := by simp [ldV, MVal.cells]
theorem MVal.c15 (x : MVal) : ldV false 1 x.cells 15 = some (encL MOper.cells x.args) := by simp [ldV, MVal.cells]
theorem MVal.call (x : MVal) : ldV true 16 x.cells 0 = some (.agg x.cells) := by simp only [ldV, if_true, Nat.zero_add, MVal.len, Nat.le_refl, List.drop_zero]; rw [List.take_of_length_le (by rw [MVal.len]; exact Nat.le_refl _)]
theorem MVal.s1_4 (x : MVal) : ldV true 4 x.cells 1 = some (.agg x.a.cells) := by simp [ldV, MVal.cells, MOper.cells]
theorem MVal.s5_4 (x : MVal) : ldV true 4 x.cells 5 = some (.agg x.b.cells) := by simp [ldV, MVal.cells, MOper.cells]
theorem MVal.s10_2 (x : MVal) : ldV true 2 x.cells 10 = some (.agg x.path.cells) := by simp [ldV, MVal.cells, MPath.cells]
theorem MVal.s3_2 (x : MVal) : ldV true 2 x.cells 3 = some (.agg x.a.path.cells) := by simp [ldV, MVal.cells, MPath.cells]
theorem MVal.s7_2 (x : MVal) : ldV true 2 x.cells 7 = some (.agg x.b.path.cells) := by simp [ldV, MVal.cells, MPath.cells]
theorem MVal.snapc (x : MVal) (H : Heap) (d : Nat) : x.cells.map (snap H (d + 1)) = x.cells := by simp [MVal.cells, snap, encL]
theorem MVal.sokc (x : MVal) (H : Heap) (d : Nat) : x.cells.all (sok H (d + 1)) = true := by simp [MVal.cells, sok, encL]
theorem MVal.onec (x : MVal) : x.cells.all V.one = true := by simp [MVal.cells, V.one, encL]
theorem MVal.imvc (x : MVal) (d : Nat) : x.cells.all (imV (d + 1)) = true := by simp [MVal.cells, imV, encL]
theorem MInst.c0 (x : MInst) : ldV false 1 x.cells 0 = some (.int .i64 x.kind) := by simp [ldV, MInst.cells]
theorem MInst.c1 (x : MInst) : ldV false 1 x.cells 1 = some (.int .i64 x.at') := by simp [ldV, MInst.cells]
theorem MInst.c2 (x : MInst) : ldV false 1 x.cells 2 = some (.bool x.has) := by simp [ldV, MInst.cells]
theorem MInst.c3 (x : MInst) : ldV false 1 x.cells 3 = some (.int .i64 x.to.loc) := by simp [ldV, MInst.cells]
theorem MInst.c4 (x : MInst) : ldV false 1 x.cells 4 = some (encL cS x.to.steps) := by simp [ldV, MInst.cells]
theorem MInst.c5 (x : MInst) : ldV false 1 x.cells 5 = some (.int .i64 x.val.kind) := by simp [ldV, MInst.cells]
theorem MInst.c6 (x : MInst) : ldV false 1 x.cells 6 = some (.int .i64 x.val.a.kind) := by simp [ldV, MInst.cells]
theorem MInst.c7 (x : MInst) : ldV false 1 x.cells 7 = some (.int .i64 x.val.a.n) := by simp [ldV, MInst.cells]
theorem MInst.c8 (x : MInst) : ldV false 1 x.cells 8 = some (.int .i64 x.val.a.path.loc) := by simp [ldV, MInst.cells]
theorem MInst.c9 (x : MInst) : ldV false 1 x.cells 9 = some (encL cS x.val.a.path.steps) := by simp [ldV, MInst.cells]
theorem MInst.c10 (x : MInst) : ldV false 1 x.cells 10 = some (.int .i64 x.val.b.kind) := by simp [ldV, MInst.cells]
theorem MInst.c11 (x : MInst) : ldV false 1 x.cells 11 = some (.int .i64 x.val.b.n) := by simp [ldV, MInst.cells]
theorem MInst.c12 (x : MInst) : ldV false 1 x.cells 12 = some (.int .i64 x.val.b.path.loc) := by simp [ldV, MInst.cells]
theorem MInst.c13 (x : MInst) : ldV false 1 x.cells 13 = some (encL cS x.val.b.path.steps) := by simp [ldV, MInst.cells]
theorem MInst.c14 (x : MInst) : ldV false 1 x.cells 14 = some (.int .i64 x.val.op) := by simp [ldV, MInst.cells]
theorem MInst.c15 (x : MInst) : ldV false 1 x.cells 15 = some (.int .i64 x.val.path.loc) := by simp [ldV, MInst.cells]
theorem MInst.c16 (x : MInst) : ldV false 1 x.cells 16 = some (encL cS x.val.path.steps) := by simp [ldV, MInst.cells]
theorem MInst.c17 (x : MInst) : ldV false 1 x.cells 17 = some (.int .i64 x.val.region) := by simp [ldV, MInst.cells]
theorem MInst.c18 (x : MInst) : ldV false 1 x.cells 18 = some (.str x.val.name) := by simp [ldV, MInst.cells]
theorem MInst.c19 (x : MInst) : ldV false 1 x.cells 19 = some (encL cI x.val.regions) := by simp [ldV, MInst.cells]
theorem MInst.c20 (x : MInst) : ldV false 1 x.cells 20 = some (encL MOper.cells x.val.args) := by simp [ldV, MInst.cells]
theorem MInst.c21 (x : MInst) : ldV false 1 x.cells 21 = some (encL cI x.next) := by simp [ldV, MInst.cells]
theorem MInst.call (x : MInst) : ldV true 22 x.cells 0 = some (.agg x.cells) := by simp only [ldV, if_true, Nat.zero_add, MInst.len, Nat.le_refl, List.drop_zero]; rw [List.take_of_length_le (by rw [MInst.len]; exact Nat.le_refl _)]
theorem MInst.s3_2 (x : MInst) : ldV true 2 x.cells 3 = some (.agg x.to.cells) := by simp [ldV, MInst.cells, MPath.cells]
theorem MInst.s5_16 (x : MInst) : ldV true 16 x.cells 5 = some (.agg x.val.cells) := by simp [ldV, MInst.cells, MVal.cells]
theorem MInst.s6_4 (x : MInst) : ldV true 4 x.cells 6 = some (.agg x.val.a.cells) := by simp [ldV, MInst.cells, MOper.cells]
theorem MInst.s10_4 (x : MInst) : ldV true 4 x.cells 10 = some (.agg x.val.b.cells) := by simp [ldV, MInst.cells, MOper.cells]
theorem MInst.s15_2 (x : MInst) : ldV true 2 x.cells 15 = some (.agg x.val.path.cells) := by simp [ldV, MInst.cells, MPath.cells]
theorem MInst.s8_2 (x : MInst) : ldV true 2 x.cells 8 = some (.agg x.val.a.path.cells) := by simp [ldV, MInst.cells, MPath.cells]
theorem MInst.s12_2 (x : MInst) : ldV true 2 x.cells 12 = some (.agg x.val.b.path.cells) := by simp [ldV, MInst.cells, MPath.cells]
theorem MInst.snapc (x : MInst) (H : Heap) (d : Nat) : x.cells.map (snap H (d + 1)) = x.cells := by simp [MInst.cells, snap, encL]
theorem MInst.sokc (x : MInst) (H : Heap) (d : Nat) : x.cells.all (sok H (d + 1)) = true := by simp [MInst.cells, sok, encL]
theorem MInst.onec (x : MInst) : x.cells.all V.one = true := by simp [MInst.cells, V.one, encL]
theorem MInst.imvc (x : MInst) (d : Nat) : x.cells.all (imV (d + 1)) = true := by simp [MInst.cells, imV, encL]
theorem RT.c0 (x : RT) : ldV false 1 x.cells 0 = some (.int .i64 x.kind) := by simp [ldV, RT.cells_eq]
theorem RT.c1 (x : RT) : ldV false 1 x.cells 1 = some (.str x.name) := by simp [ldV, RT.cells_eq]
theorem RT.c2 (x : RT) : ldV false 1 x.cells 2 = some (encL cI x.regions) := by simp [ldV, RT.cells_eq]
theorem RT.c3 (x : RT) : ldV false 1 x.cells 3 = some (encL RT.cells x.elem) := by simp [ldV, RT.cells_eq]
theorem RT.call (x : RT) : ldV true 4 x.cells 0 = some (.agg x.cells) := by simp only [ldV, if_true, Nat.zero_add, RT.len, Nat.le_refl, List.drop_zero]; rw [List.take_of_length_le (by rw [RT.len]; exact Nat.le_refl _)]
theorem RT.snapc (x : RT) (H : Heap) (d : Nat) : x.cells.map (snap H (d + 1)) = x.cells := by simp [RT.cells_eq, snap, encL]
theorem RT.sokc (x : RT) (H : Heap) (d : Nat) : x.cells.all (sok H (d + 1)) = true := by simp [RT.cells_eq, sok, encL]
theorem RT.onec (x : RT) : x.cells.all V.one = true := by simp [RT.cells_eq, V.one, encL]
theorem RT.imvc (x : RT) (d : Nat) : x.cells.all (imV (d + 1)) = true := by simp [RT.cells_eq, imV, encL]
theorem MLocal.c0 (x : MLocal) : ldV false 1 x.cells 0 = some (.str x.name) := by simp [ldV, MLocal.cells]
theorem MLocal.c1 (x : MLocal) : ldV false 1 x.cells 1 = some (.int .i64 x.type.kind) := by simp [ldV, MLocal.cells]
theorem MLocal.c2 (x : MLocal) : ldV false 1 x.cells 2 = some (.str x.type.name) := by simp [ldV, MLocal.cells]
theorem MLocal.c3 (x : MLocal) : ldV false 1 x.cells 3 = some (encL cI x.type.regions) := by simp [ldV, MLocal.cells]
theorem MLocal.c4 (x : MLocal) : ldV false 1 x.cells 4 = some (encL RT.cells x.type.elem) := by simp [ldV, MLocal.cells]
theorem MLocal.c5 (x : MLocal) : ldV false 1 x.cells 5 = some (.bool x.param) := by simp [ldV, MLocal.cells]
theorem MLocal.call (x : MLocal) : ldV true 6 x.cells 0 = some (.agg x.cells) := by simp only [ldV, if_true, Nat.zero_add, MLocal.len, Nat.le_refl, List.drop_zero]; rw [List.take_of_length_le (by rw [MLocal.len]; exact Nat.le_refl _)]
theorem MLocal.s1_4 (x : MLocal) : ldV true 4 x.cells 1 = some (.agg x.type.cells) := by simp [ldV, MLocal.cells, RT.cells_eq]
theorem MLocal.snapc (x : MLocal) (H : Heap) (d : Nat) : x.cells.map (snap H (d + 1)) = x.cells := by simp [MLocal.cells, snap, encL]
theorem MLocal.sokc (x : MLocal) (H : Heap) (d : Nat) : x.cells.all (sok H (d + 1)) = true := by simp [MLocal.cells, sok, encL]
theorem MLocal.onec (x : MLocal) : x.cells.all V.one = true := by simp [MLocal.cells, V.one, encL]
theorem MLocal.imvc (x : MLocal) (d : Nat) : x.cells.all (imV (d + 1)) = true := by simp [MLocal.cells, imV, encL]
theorem Mir.c0 (x : Mir) : ldV false 1 x.cells 0 = some (.int .i64 x.at') := by simp [ldV, Mir.cells]
theorem Mir.c1 (x : Mir) : ldV false 1 x.cells 1 = some (.int .i64 x.free) := by simp [ldV, Mir.cells]
theorem Mir.c2 (x : Mir) : ldV false 1 x.cells 2 = some (.int .i64 x.regions) := by simp [ldV, Mir.cells]
theorem Mir.c3 (x : Mir) : ldV false 1 x.cells 3 = some (encL (fun k : List Int => k.flatMap cI) x.known) := by simp [ldV, Mir.cells]
theorem Mir.c4 (x : Mir) : ldV false 1 x.cells 4 = some (encL MLocal.cells x.locals) := by simp [ldV, Mir.cells]
theorem Mir.c5 (x : Mir) : ldV false 1 x.cells 5 = some (encL MInst.cells x.code) := by simp [ldV, Mir.cells]
theorem Mir.call (x : Mir) : ldV true 6 x.cells 0 = some (.agg x.cells) := by simp only [ldV, if_true, Nat.zero_add, Mir.len, Nat.le_refl, List.drop_zero]; rw [List.take_of_length_le (by rw [Mir.len]; exact Nat.le_refl _)]
theorem Mir.snapc (x : Mir) (H : Heap) (d : Nat) : x.cells.map (snap H (d + 1)) = x.cells := by simp [Mir.cells, snap, encL]
theorem Mir.sokc (x : Mir) (H : Heap) (d : Nat) : x.cells.all (sok H (d + 1)) = true := by simp [Mir.cells, sok, encL]
theorem Mir.onec (x : Mir) : x.cells.all V.one = true := by simp [Mir.cells, V.one, encL]
theorem Mir.imvc (x : Mir) (d : Nat) : x.cells.all (imV (d + 1)) = true := by simp [Mir.cells, imV, encL]

theorem ld_flat {α : Type} {f : α → List V} {s : Nat} (hf : ∀ x, (f x).length = s) {l : List α} {i j n : Nat} {agg : Bool} (h : i < l.length) (hj : j + n ≤ s) (hn : 0 < n) : ldV agg n (l.flatMap f) (i * s + j) = ldV agg n (f l[i]) j := by
  unfold ldV
  cases agg with
  | false => simp only [Bool.false_eq_true, if_false]; exact flat_cell hf l i j h (by omega)
  | true =>
    have hm : i * s + s ≤ l.length * s := by
      have := Nat.mul_le_mul_right s (show i + 1 ≤ l.length by omega)
      rw [Nat.add_mul] at this; omega
    simp only [if_true]
    rw [if_pos (by rw [flat_len hf]; omega), if_pos (by rw [hf]; exact hj), ← flat_rec hf l i h, ← List.drop_drop, List.drop_take, List.take_take, Nat.min_eq_left (by omega)]

theorem ld_flat0 {α : Type} {f : α → List V} {s : Nat} (hf : ∀ x, (f x).length = s) {l : List α} {i n : Nat} {agg : Bool} (h : i < l.length) (hj : n ≤ s) (hn : 0 < n) : ldV agg n (l.flatMap f) (i * s) = ldV agg n (f l[i]) 0 :=
  ld_flat hf (j := 0) h (by omega) hn

theorem ld_cI {l : List Int} {i : Nat} (h : i < l.length) : ldV false 1 (l.flatMap cI) i = some (.int .i64 l[i]) := by
  have := ld_flat0 (agg := false) (n := 1) cI_len h (by decide) (by decide)
  rw [Nat.mul_one] at this; rw [this]; rfl
theorem ld_cB {l : List Bool} {i : Nat} (h : i < l.length) : ldV false 1 (l.flatMap cB) i = some (.bool l[i]) := by
  have := ld_flat0 (agg := false) (n := 1) cB_len h (by decide) (by decide)
  rw [Nat.mul_one] at this; rw [this]; rfl
theorem ld_cS {l : List ByteArray} {i : Nat} (h : i < l.length) : ldV false 1 (l.flatMap cS) i = some (.str l[i]) := by
  have := ld_flat0 (agg := false) (n := 1) cS_len h (by decide) (by decide)
  rw [Nat.mul_one] at this; rw [this]; rfl

theorem ld_one (v : V) : ldV false 1 [v] 0 = some v := rfl
theorem ld_cI0 (n : Int) : ldV false 1 (cI n) 0 = some (.int .i64 n) := rfl

theorem MInst.ld {l : List MInst} {i j n : Nat} {agg : Bool} (h : i < l.length) (hj : j + n ≤ 22) (hn : 0 < n) : ldV agg n (l.flatMap MInst.cells) (i * 22 + j) = ldV agg n l[i].cells j := ld_flat MInst.len h hj hn
theorem MInst.ld0 {l : List MInst} {i n : Nat} {agg : Bool} (h : i < l.length) (hj : n ≤ 22) (hn : 0 < n) : ldV agg n (l.flatMap MInst.cells) (i * 22) = ldV agg n l[i].cells 0 := ld_flat0 MInst.len h hj hn
theorem MLocal.ld {l : List MLocal} {i j n : Nat} {agg : Bool} (h : i < l.length) (hj : j + n ≤ 6) (hn : 0 < n) : ldV agg n (l.flatMap MLocal.cells) (i * 6 + j) = ldV agg n l[i].cells j := ld_flat MLocal.len h hj hn
theorem MLocal.ld0 {l : List MLocal} {i n : Nat} {agg : Bool} (h : i < l.length) (hj : n ≤ 6) (hn : 0 < n) : ldV agg n (l.flatMap MLocal.cells) (i * 6) = ldV agg n l[i].cells 0 := ld_flat0 MLocal.len h hj hn
theorem MOper.ld {l : List MOper} {i j n : Nat} {agg : Bool} (h : i < l.length) (hj : j + n ≤ 4) (hn : 0 < n) : ldV agg n (l.flatMap MOper.cells) (i * 4 + j) = ldV agg n l[i].cells j := ld_flat MOper.len h hj hn
theorem MOper.ld0 {l : List MOper} {i n : Nat} {agg : Bool} (h : i < l.length) (hj : n ≤ 4) (hn : 0 < n) : ldV agg n (l.flatMap MOper.cells) (i * 4) = ldV agg n l[i].cells 0 := ld_flat0 MOper.len h hj hn
theorem RT.ld {l : List RT} {i j n : Nat} {agg : Bool} (h : i < l.length) (hj : j + n ≤ 4) (hn : 0 < n) : ldV agg n (l.flatMap RT.cells) (i * 4 + j) = ldV agg n l[i].cells j := ld_flat RT.len h hj hn
theorem RT.ld0 {l : List RT} {i n : Nat} {agg : Bool} (h : i < l.length) (hj : n ≤ 4) (hn : 0 < n) : ldV agg n (l.flatMap RT.cells) (i * 4) = ldV agg n l[i].cells 0 := ld_flat0 RT.len h hj hn
theorem MPath.ld {l : List MPath} {i j n : Nat} {agg : Bool} (h : i < l.length) (hj : j + n ≤ 2) (hn : 0 < n) : ldV agg n (l.flatMap MPath.cells) (i * 2 + j) = ldV agg n l[i].cells j := ld_flat MPath.len h hj hn
theorem MPath.ld0 {l : List MPath} {i n : Nat} {agg : Bool} (h : i < l.length) (hj : n ≤ 2) (hn : 0 < n) : ldV agg n (l.flatMap MPath.cells) (i * 2) = ldV agg n l[i].cells 0 := ld_flat0 MPath.len h hj hn

theorem setCells_all {cs xs : List V} (h : cs.length = xs.length) : setCells cs 0 xs = xs := by
  simp [setCells, h]
end Go.Lg

set_option linter.unusedSimpArgs false
set_option linter.unusedVariables false
namespace Go.Lg
open Go Go.RowKit

theorem li_len (l : List Int) : (l.flatMap cI).length = l.length := by rw [flat_len cI_len, Nat.mul_one]
theorem li_snap (H : Heap) (d : Nat) (l : List Int) : (l.flatMap cI).map (snap H (d + 1)) = l.flatMap cI := by
  induction l with
  | nil => rfl
  | cons x r ih => rw [List.flatMap_cons, List.map_append, ih]; rfl
theorem li_sok (H : Heap) (d : Nat) (l : List Int) : (l.flatMap cI).all (sok H (d + 1)) = true := by
  induction l with
  | nil => rfl
  | cons x r ih => rw [List.flatMap_cons, List.all_append, ih]; rfl
theorem li_one (l : List Int) : (l.flatMap cI).all V.one = true := by
  induction l with
  | nil => rfl
  | cons x r ih => rw [List.flatMap_cons, List.all_append, ih]; rfl
theorem li_imv (d : Nat) (l : List Int) : (l.flatMap cI).all (imV d) = true := by
  induction l with
  | nil => rfl
  | cons x r ih => rw [List.flatMap_cons, List.all_append, ih]; cases d <;> rfl
theorem li_flat (d : Nat) (l : List Int) : (l.flatMap cI).all (flat d) = true := by
  induction l with
  | nil => rfl
  | cons x r ih => rw [List.flatMap_cons, List.all_append, ih]; cases d <;> rfl
theorem li_take {l : List Int} {n : Nat} (h : l.length ≤ n) : (l.flatMap cI).take n = l.flatMap cI := List.take_of_length_le (by rw [li_len]; exact h)
theorem li_set {l : List Int} {k : Nat} {v : Int} (h : k < l.length) : setCells (l.flatMap cI) k [.int .i64 v] = (l.set k v).flatMap cI := by
  induction l generalizing k with
  | nil => cases h
  | cons x r ih =>
    cases k with
    | zero => simp [setCells, cI]
    | succ k =>
      have := ih (k := k) (by simpa using h)
      simp only [setCells, List.flatMap_cons, List.set_cons_succ, cI, List.cons_append, List.nil_append, List.length_singleton, List.take_succ_cons] at this ⊢
      rw [show k + 1 + 1 = (k + 1) + 1 from rfl, List.drop_succ_cons, this]
theorem li_app (l : List Int) (x : Int) : l.flatMap cI ++ [.int .i64 x] = (l ++ [x]).flatMap cI := by rw [List.flatMap_append]; rfl
theorem li_mk (n : Nat) : (List.replicate n [V.int .i64 0]).flatten = (List.replicate n (0 : Int)).flatMap cI := by rw [List.flatMap_def, List.map_replicate]; rfl
theorem lb_len (l : List Bool) : (l.flatMap cB).length = l.length := by rw [flat_len cB_len, Nat.mul_one]
theorem lb_snap (H : Heap) (d : Nat) (l : List Bool) : (l.flatMap cB).map (snap H (d + 1)) = l.flatMap cB := by
  induction l with
  | nil => rfl
  | cons x r ih => rw [List.flatMap_cons, List.map_append, ih]; rfl
theorem lb_sok (H : Heap) (d : Nat) (l : List Bool) : (l.flatMap cB).all (sok H (d + 1)) = true := by
  induction l with
  | nil => rfl
  | cons x r ih => rw [List.flatMap_cons, List.all_append, ih]; rfl
theorem lb_one (l : List Bool) : (l.flatMap cB).all V.one = true := by
  induction l with
  | nil => rfl
  | cons x r ih => rw [List.flatMap_cons, List.all_append, ih]; rfl
theorem lb_imv (d : Nat) (l : List Bool) : (l.flatMap cB).all (imV d) = true := by
  induction l with
  | nil => rfl
  | cons x r ih => rw [List.flatMap_cons, List.all_append, ih]; cases d <;> rfl
theorem lb_flat (d : Nat) (l : List Bool) : (l.flatMap cB).all (flat d) = true := by
  induction l with
  | nil => rfl
  | cons x r ih => rw [List.flatMap_cons, List.all_append, ih]; cases d <;> rfl
theorem lb_take {l : List Bool} {n : Nat} (h : l.length ≤ n) : (l.flatMap cB).take n = l.flatMap cB := List.take_of_length_le (by rw [lb_len]; exact h)
theorem lb_set {l : List Bool} {k : Nat} {v : Bool} (h : k < l.length) : setCells (l.flatMap cB) k [.bool v] = (l.set k v).flatMap cB := by
  induction l generalizing k with
  | nil => cases h
  | cons x r ih =>
    cases k with
    | zero => simp [setCells, cB]
    | succ k =>
      have := ih (k := k) (by simpa using h)
      simp only [setCells, List.flatMap_cons, List.set_cons_succ, cB, List.cons_append, List.nil_append, List.length_singleton, List.take_succ_cons] at this ⊢
      rw [show k + 1 + 1 = (k + 1) + 1 from rfl, List.drop_succ_cons, this]
theorem lb_app (l : List Bool) (x : Bool) : l.flatMap cB ++ [.bool x] = (l ++ [x]).flatMap cB := by rw [List.flatMap_append]; rfl
theorem lb_mk (n : Nat) : (List.replicate n [V.bool false]).flatten = (List.replicate n (false : Bool)).flatMap cB := by rw [List.flatMap_def, List.map_replicate]; rfl
theorem ls_len (l : List ByteArray) : (l.flatMap cS).length = l.length := by rw [flat_len cS_len, Nat.mul_one]
theorem ls_snap (H : Heap) (d : Nat) (l : List ByteArray) : (l.flatMap cS).map (snap H (d + 1)) = l.flatMap cS := by
  induction l with
  | nil => rfl
  | cons x r ih => rw [List.flatMap_cons, List.map_append, ih]; rfl
theorem ls_sok (H : Heap) (d : Nat) (l : List ByteArray) : (l.flatMap cS).all (sok H (d + 1)) = true := by
  induction l with
  | nil => rfl
  | cons x r ih => rw [List.flatMap_cons, List.all_append, ih]; rfl
theorem ls_one (l : List ByteArray) : (l.flatMap cS).all V.one = true := by
  induction l with
  | nil => rfl
  | cons x r ih => rw [List.flatMap_cons, List.all_append, ih]; rfl
theorem ls_imv (d : Nat) (l : List ByteArray) : (l.flatMap cS).all (imV d) = true := by
  induction l with
  | nil => rfl
  | cons x r ih => rw [List.flatMap_cons, List.all_append, ih]; cases d <;> rfl
theorem ls_flat (d : Nat) (l : List ByteArray) : (l.flatMap cS).all (flat d) = true := by
  induction l with
  | nil => rfl
  | cons x r ih => rw [List.flatMap_cons, List.all_append, ih]; cases d <;> rfl
theorem ls_take {l : List ByteArray} {n : Nat} (h : l.length ≤ n) : (l.flatMap cS).take n = l.flatMap cS := List.take_of_length_le (by rw [ls_len]; exact h)
theorem ls_set {l : List ByteArray} {k : Nat} {v : ByteArray} (h : k < l.length) : setCells (l.flatMap cS) k [.str v] = (l.set k v).flatMap cS := by
  induction l generalizing k with
  | nil => cases h
  | cons x r ih =>
    cases k with
    | zero => simp [setCells, cS]
    | succ k =>
      have := ih (k := k) (by simpa using h)
      simp only [setCells, List.flatMap_cons, List.set_cons_succ, cS, List.cons_append, List.nil_append, List.length_singleton, List.take_succ_cons] at this ⊢
      rw [show k + 1 + 1 = (k + 1) + 1 from rfl, List.drop_succ_cons, this]
theorem ls_app (l : List ByteArray) (x : ByteArray) : l.flatMap cS ++ [.str x] = (l ++ [x]).flatMap cS := by rw [List.flatMap_append]; rfl
end Go.Lg

set_option linter.unusedSimpArgs false
set_option linter.unusedVariables false
namespace Go.Lg
open Go Go.RowKit

theorem MC0 : type_of% @Go.Lg.MPath.c0 ∧
  type_of% @Go.Lg.MPath.c1 ∧
  type_of% @Go.Lg.MPath.call ∧
  type_of% @Go.Lg.MPath.snapc ∧
  type_of% @Go.Lg.MPath.sokc ∧
  type_of% @Go.Lg.MPath.onec ∧
  type_of% @Go.Lg.MPath.imvc ∧
  type_of% @Go.Lg.MPath.len ∧
  type_of% @Go.Lg.MOper.c0 ∧
  type_of% @Go.Lg.MOper.c1 ∧
  type_of% @Go.Lg.MOper.c2 ∧
  type_of% @Go.Lg.MOper.c3 ∧
  type_of% @Go.Lg.MOper.call ∧
  type_of% @Go.Lg.MOper.s2_2 ∧
  type_of% @Go.Lg.MOper.snapc ∧
  type_of% @Go.Lg.MOper.sokc ∧
  type_of% @Go.Lg.MOper.onec ∧
  type_of% @Go.Lg.MOper.imvc ∧
  type_of% @Go.Lg.MOper.len ∧
  type_of% @Go.Lg.MVal.c0 ∧
  type_of% @Go.Lg.MVal.c1 ∧
  type_of% @Go.Lg.MVal.c2 ∧
  type_of% @Go.Lg.MVal.c3 ∧
  type_of% @Go.Lg.MVal.c4 ∧
  type_of% @Go.Lg.MVal.c5 ∧
  type_of% @Go.Lg.MVal.c6 ∧
  type_of% @Go.Lg.MVal.c7 ∧
  type_of% @Go.Lg.MVal.c8 ∧
  type_of% @Go.Lg.MVal.c9 ∧
  type_of% @Go.Lg.MVal.c10 ∧
  type_of% @Go.Lg.MVal.c11 ∧
  type_of% @Go.Lg.MVal.c12 ∧
  type_of% @Go.Lg.MVal.c13 ∧
  type_of% @Go.Lg.MVal.c14 ∧
  type_of% @Go.Lg.MVal.c15 ∧
  type_of% @Go.Lg.MVal.call ∧
  type_of% @Go.Lg.MVal.s1_4 ∧
  type_of% @Go.Lg.MVal.s5_4 ∧
  type_of% @Go.Lg.MVal.s10_2 ∧
  type_of% @Go.Lg.MVal.s3_2 ∧
  type_of% @Go.Lg.MVal.s7_2 ∧
  type_of% @Go.Lg.MVal.snapc ∧
  type_of% @Go.Lg.MVal.sokc ∧
  type_of% @Go.Lg.MVal.onec ∧
  type_of% @Go.Lg.MVal.imvc ∧
  type_of% @Go.Lg.MVal.len ∧
  type_of% @Go.Lg.MInst.c0 ∧
  type_of% @Go.Lg.MInst.c1 ∧
  type_of% @Go.Lg.MInst.c2 ∧
  type_of% @Go.Lg.MInst.c3 ∧
  type_of% @Go.Lg.MInst.c4 ∧
  type_of% @Go.Lg.MInst.c5 ∧
  type_of% @Go.Lg.MInst.c6 ∧
  type_of% @Go.Lg.MInst.c7 ∧
  type_of% @Go.Lg.MInst.c8 ∧
  type_of% @Go.Lg.MInst.c9 ∧
  type_of% @Go.Lg.MInst.c10 ∧
  type_of% @Go.Lg.MInst.c11 ∧
  type_of% @Go.Lg.MInst.c12 ∧
  type_of% @Go.Lg.MInst.c13 :=
  ⟨@Go.Lg.MPath.c0, @Go.Lg.MPath.c1, @Go.Lg.MPath.call, @Go.Lg.MPath.snapc, @Go.Lg.MPath.sokc, @Go.Lg.MPath.onec, @Go.Lg.MPath.imvc, @Go.Lg.MPath.len, @Go.Lg.MOper.c0, @Go.Lg.MOper.c1, @Go.Lg.MOper.c2, @Go.Lg.MOper.c3, @Go.Lg.MOper.call, @Go.Lg.MOper.s2_2, @Go.Lg.MOper.snapc, @Go.Lg.MOper.sokc, @Go.Lg.MOper.onec, @Go.Lg.MOper.imvc, @Go.Lg.MOper.len, @Go.Lg.MVal.c0, @Go.Lg.MVal.c1, @Go.Lg.MVal.c2, @Go.Lg.MVal.c3, @Go.Lg.MVal.c4, @Go.Lg.MVal.c5, @Go.Lg.MVal.c6, @Go.Lg.MVal.c7, @Go.Lg.MVal.c8, @Go.Lg.MVal.c9, @Go.Lg.MVal.c10, @Go.Lg.MVal.c11, @Go.Lg.MVal.c12, @Go.Lg.MVal.c13, @Go.Lg.MVal.c14, @Go.Lg.MVal.c15, @Go.Lg.MVal.call, @Go.Lg.MVal.s1_4, @Go.Lg.MVal.s5_4, @Go.Lg.MVal.s10_2, @Go.Lg.MVal.s3_2, @Go.Lg.MVal.s7_2, @Go.Lg.MVal.snapc, @Go.Lg.MVal.sokc, @Go.Lg.MVal.onec, @Go.Lg.MVal.imvc, @Go.Lg.MVal.len, @Go.Lg.MInst.c0, @Go.Lg.MInst.c1, @Go.Lg.MInst.c2, @Go.Lg.MInst.c3, @Go.Lg.MInst.c4, @Go.Lg.MInst.c5, @Go.Lg.MInst.c6, @Go.Lg.MInst.c7, @Go.Lg.MInst.c8, @Go.Lg.MInst.c9, @Go.Lg.MInst.c10, @Go.Lg.MInst.c11, @Go.Lg.MInst.c12, @Go.Lg.MInst.c13⟩

theorem MC1 : type_of% @Go.Lg.MInst.c14 ∧
  type_of% @Go.Lg.MInst.c15 ∧
  type_of% @Go.Lg.MInst.c16 ∧
  type_of% @Go.Lg.MInst.c17 ∧
  type_of% @Go.Lg.MInst.c18 ∧
  type_of% @Go.Lg.MInst.c19 ∧
  type_of% @Go.Lg.MInst.c20 ∧
  type_of% @Go.Lg.MInst.c21 ∧
  type_of% @Go.Lg.MInst.call ∧
  type_of% @Go.Lg.MInst.s3_2 ∧
  type_of% @Go.Lg.MInst.s5_16 ∧
  type_of% @Go.Lg.MInst.s6_4 ∧
  type_of% @Go.Lg.MInst.s10_4 ∧
  type_of% @Go.Lg.MInst.s15_2 ∧
  type_of% @Go.Lg.MInst.s8_2 ∧
  type_of% @Go.Lg.MInst.s12_2 ∧
  type_of% @Go.Lg.MInst.snapc ∧
  type_of% @Go.Lg.MInst.sokc ∧
  type_of% @Go.Lg.MInst.onec ∧
  type_of% @Go.Lg.MInst.imvc ∧
  type_of% @Go.Lg.MInst.len ∧
  type_of% @Go.Lg.RT.c0 ∧
  type_of% @Go.Lg.RT.c1 ∧
  type_of% @Go.Lg.RT.c2 ∧
  type_of% @Go.Lg.RT.c3 ∧
  type_of% @Go.Lg.RT.call ∧
  type_of% @Go.Lg.RT.snapc ∧
  type_of% @Go.Lg.RT.sokc ∧
  type_of% @Go.Lg.RT.onec ∧
  type_of% @Go.Lg.RT.imvc ∧
  type_of% @Go.Lg.RT.len ∧
  type_of% @Go.Lg.MLocal.c0 ∧
  type_of% @Go.Lg.MLocal.c1 ∧
  type_of% @Go.Lg.MLocal.c2 ∧
  type_of% @Go.Lg.MLocal.c3 ∧
  type_of% @Go.Lg.MLocal.c4 ∧
  type_of% @Go.Lg.MLocal.c5 ∧
  type_of% @Go.Lg.MLocal.call ∧
  type_of% @Go.Lg.MLocal.s1_4 ∧
  type_of% @Go.Lg.MLocal.snapc ∧
  type_of% @Go.Lg.MLocal.sokc ∧
  type_of% @Go.Lg.MLocal.onec ∧
  type_of% @Go.Lg.MLocal.imvc ∧
  type_of% @Go.Lg.MLocal.len ∧
  type_of% @Go.Lg.Mir.c0 ∧
  type_of% @Go.Lg.Mir.c1 ∧
  type_of% @Go.Lg.Mir.c2 ∧
  type_of% @Go.Lg.Mir.c3 ∧
  type_of% @Go.Lg.Mir.c4 ∧
  type_of% @Go.Lg.Mir.c5 ∧
  type_of% @Go.Lg.Mir.call ∧
  type_of% @Go.Lg.Mir.snapc ∧
  type_of% @Go.Lg.Mir.sokc ∧
  type_of% @Go.Lg.Mir.onec ∧
  type_of% @Go.Lg.Mir.imvc ∧
  type_of% @Go.Lg.Mir.len ∧
  type_of% @Go.Lg.ld_cI ∧
  type_of% @Go.Lg.ld_cB ∧
  type_of% @Go.Lg.ld_cS ∧
  type_of% @Go.Lg.ld_one :=
  ⟨@Go.Lg.MInst.c14, @Go.Lg.MInst.c15, @Go.Lg.MInst.c16, @Go.Lg.MInst.c17, @Go.Lg.MInst.c18, @Go.Lg.MInst.c19, @Go.Lg.MInst.c20, @Go.Lg.MInst.c21, @Go.Lg.MInst.call, @Go.Lg.MInst.s3_2, @Go.Lg.MInst.s5_16, @Go.Lg.MInst.s6_4, @Go.Lg.MInst.s10_4, @Go.Lg.MInst.s15_2, @Go.Lg.MInst.s8_2, @Go.Lg.MInst.s12_2, @Go.Lg.MInst.snapc, @Go.Lg.MInst.sokc, @Go.Lg.MInst.onec, @Go.Lg.MInst.imvc, @Go.Lg.MInst.len, @Go.Lg.RT.c0, @Go.Lg.RT.c1, @Go.Lg.RT.c2, @Go.Lg.RT.c3, @Go.Lg.RT.call, @Go.Lg.RT.snapc, @Go.Lg.RT.sokc, @Go.Lg.RT.onec, @Go.Lg.RT.imvc, @Go.Lg.RT.len, @Go.Lg.MLocal.c0, @Go.Lg.MLocal.c1, @Go.Lg.MLocal.c2, @Go.Lg.MLocal.c3, @Go.Lg.MLocal.c4, @Go.Lg.MLocal.c5, @Go.Lg.MLocal.call, @Go.Lg.MLocal.s1_4, @Go.Lg.MLocal.snapc, @Go.Lg.MLocal.sokc, @Go.Lg.MLocal.onec, @Go.Lg.MLocal.imvc, @Go.Lg.MLocal.len, @Go.Lg.Mir.c0, @Go.Lg.Mir.c1, @Go.Lg.Mir.c2, @Go.Lg.Mir.c3, @Go.Lg.Mir.c4, @Go.Lg.Mir.c5, @Go.Lg.Mir.call, @Go.Lg.Mir.snapc, @Go.Lg.Mir.sokc, @Go.Lg.Mir.onec, @Go.Lg.Mir.imvc, @Go.Lg.Mir.len, @Go.Lg.ld_cI, @Go.Lg.ld_cB, @Go.Lg.ld_cS, @Go.Lg.ld_one⟩

theorem MC2 : type_of% @Go.Lg.ld_cI0 ∧
  type_of% @Go.Lg.MInst.ld ∧
  type_of% @Go.Lg.MInst.ld0 ∧
  type_of% @Go.Lg.MLocal.ld ∧
  type_of% @Go.Lg.MLocal.ld0 ∧
  type_of% @Go.Lg.MOper.ld ∧
  type_of% @Go.Lg.MOper.ld0 ∧
  type_of% @Go.Lg.RT.ld ∧
  type_of% @Go.Lg.RT.ld0 ∧
  type_of% @Go.Lg.MPath.ld ∧
  type_of% @Go.Lg.MPath.ld0 ∧
  type_of% @Go.Lg.setCells_all ∧
  type_of% @Go.Lg.encL.eq_1 ∧
  type_of% @Go.Lg.li_len ∧
  type_of% @Go.Lg.li_snap ∧
  type_of% @Go.Lg.li_sok ∧
  type_of% @Go.Lg.li_one ∧
  type_of% @Go.Lg.li_imv ∧
  type_of% @Go.Lg.li_flat ∧
  type_of% @Go.Lg.li_take ∧
  type_of% @Go.Lg.li_set ∧
  type_of% @Go.Lg.li_app ∧
  type_of% @Go.Lg.li_mk ∧
  type_of% @Go.Lg.lb_len ∧
  type_of% @Go.Lg.lb_snap ∧
  type_of% @Go.Lg.lb_sok ∧
  type_of% @Go.Lg.lb_one ∧
  type_of% @Go.Lg.lb_imv ∧
  type_of% @Go.Lg.lb_flat ∧
  type_of% @Go.Lg.lb_take ∧
  type_of% @Go.Lg.lb_set ∧
  type_of% @Go.Lg.lb_app ∧
  type_of% @Go.Lg.lb_mk ∧
  type_of% @Go.Lg.ls_len ∧
  type_of% @Go.Lg.ls_snap ∧
  type_of% @Go.Lg.ls_sok ∧
  type_of% @Go.Lg.ls_one ∧
  type_of% @Go.Lg.ls_imv ∧
  type_of% @Go.Lg.ls_flat ∧
  type_of% @Go.Lg.ls_take ∧
  type_of% @Go.Lg.ls_set ∧
  type_of% @Go.Lg.ls_app ∧
  type_of% @List.mem_singleton.{0} ∧
  type_of% @List.length_replicate.{0} ∧
  type_of% @List.length_set.{0} ∧
  type_of% @List.length_append.{0} ∧
  type_of% @List.length_map.{0,0} ∧
  type_of% @List.length_range :=
  ⟨@Go.Lg.ld_cI0, @Go.Lg.MInst.ld, @Go.Lg.MInst.ld0, @Go.Lg.MLocal.ld, @Go.Lg.MLocal.ld0, @Go.Lg.MOper.ld, @Go.Lg.MOper.ld0, @Go.Lg.RT.ld, @Go.Lg.RT.ld0, @Go.Lg.MPath.ld, @Go.Lg.MPath.ld0, @Go.Lg.setCells_all, @Go.Lg.encL.eq_1, @Go.Lg.li_len, @Go.Lg.li_snap, @Go.Lg.li_sok, @Go.Lg.li_one, @Go.Lg.li_imv, @Go.Lg.li_flat, @Go.Lg.li_take, @Go.Lg.li_set, @Go.Lg.li_app, @Go.Lg.li_mk, @Go.Lg.lb_len, @Go.Lg.lb_snap, @Go.Lg.lb_sok, @Go.Lg.lb_one, @Go.Lg.lb_imv, @Go.Lg.lb_flat, @Go.Lg.lb_take, @Go.Lg.lb_set, @Go.Lg.lb_app, @Go.Lg.lb_mk, @Go.Lg.ls_len, @Go.Lg.ls_snap, @Go.Lg.ls_sok, @Go.Lg.ls_one, @Go.Lg.ls_imv, @Go.Lg.ls_flat, @Go.Lg.ls_take, @Go.Lg.ls_set, @Go.Lg.ls_app, @List.mem_singleton.{0}, @List.length_replicate.{0}, @List.length_set.{0}, @List.length_append.{0}, @List.length_map.{0,0}, @List.length_range⟩

end Go.Lg

set_option linter.unusedSimpArgs false
set_option linter.unusedVariables false
namespace Go.Lg
open Go Go.RowKit

section
variable {α : Type} (f : α → List V)

variable {f} {H : Heap} {U : Key → Prop} {K : (Key → Prop) → Prop} {esz : Nat}

end

end Go.Lg

set_option linter.unusedSimpArgs false
set_option linter.unusedVariables false
namespace Go.Lg
open Go Go.RowKit

end Go.Lg

set_option linter.unusedSimpArgs false
set_option linter.unusedVariables false
namespace Go.Lg
open Go Go.RowKit

section
variable {α : Type} {f : α → List V} {H : Heap} {U : Key → Prop} {K : (Key → Prop) → Prop} {esz : Nat}

end

section
variable {P : Program}
end
end Go.Lg

set_option linter.unusedSimpArgs false
set_option linter.unusedVariables false
namespace Go.Lg
open Go Go.RowKit
set_option linter.unusedVariables false

mutual
theorem RT.ind {p : RT → Prop} (h : ∀ k n r e, (∀ x ∈ e, p x) → p (.mk k n r e)) : ∀ t, p t
  | .mk k n r e => h k n r e (RT.indL h e)
theorem RT.indL {p : RT → Prop} (h : ∀ k n r e, (∀ x ∈ e, p x) → p (.mk k n r e)) : ∀ (e : List RT), ∀ x ∈ e, p x
  | [], x, hx => absurd hx (by simp)
  | y :: l, x, hx => (List.mem_cons.1 hx).elim (fun e => e ▸ RT.ind h y) (fun hx => RT.indL h l x hx)
end

theorem RT.mkE (k n r e) : (RT.mk k n r e).elem = e := rfl
theorem RT.mkR (k n r e) : (RT.mk k n r e).regions = r := rfl
theorem RT.mkK (k n r e) : (RT.mk k n r e).kind = k := rfl
theorem RT.mkN (k n r e) : (RT.mk k n r e).name = n := rfl
def isRef (k : Int) : Bool := decide (k = 4) || decide (k = 5)
def ownS (k : Int) (r : List Int) : List Int := if k = 3 then r else if isRef k = true then r.take 1 else []
mutual
def regS : RT → List Int
  | .mk k _ r e => ownS k r ++ (if isRef k = true then regH e else [])
def regH : List RT → List Int
  | [] => []
  | x :: _ => regS x
end
def copyB (k : Int) : Bool := decide (k = 1) || (decide (k = 2) || decide (k = 4))
mutual
def sameB : RT → RT → Bool
  | .mk k n r e, b => decide (k = b.kind) && (decide (n = b.name) && (decide (r.length = b.regions.length) && sameL e b.elem))
def sameL : List RT → List RT → Bool
  | [], m => m.isEmpty
  | x :: l, m => match m with
    | [] => false
    | y :: m => sameB x y && sameL l m
end
mutual
def exB : RT → RT → Bool
  | .mk k n r e, b => decide (k = b.kind) && (decide (n = b.name) && (decide (r = b.regions) && exL e b.elem))
def exL : List RT → List RT → Bool
  | [], m => m.isEmpty
  | x :: l, m => match m with
    | [] => false
    | y :: m => exB x y && exL l m
end
def mapR (m : List Int) (r : Int) : Int := if 0 ≤ r ∧ r < m.length then m.getD r.toNat 0 else r
mutual
def substS (m : List Int) : RT → RT
  | .mk k n r e => .mk k n (r.map (mapR m)) (substL m e)
def substL (m : List Int) : List RT → List RT
  | [] => []
  | x :: l => substS m x :: substL m l
end
mutual
def wellS : RT → List (Int × Int)
  | .mk k _ r e => if isRef k = true then wellH (r.take 1) e else []
def wellH (q : List Int) : List RT → List (Int × Int)
  | [] => []
  | x :: _ => ((regS x).flatMap fun a => q.map fun b => (a, b)) ++ wellS x
end
def bothS : List Int → List Int → List (Int × Int)
  | x :: l, y :: m => (x, y) :: (y, x) :: bothS l m
  | _, _ => []
mutual
def subS : RT → RT → List (Int × Int)
  | .mk k _ r e, b => if k = 3 then bothS r b.regions else if isRef k = true then (r.take 1).zip b.regions ++ subH (decide (k = 4)) e b.elem else []
def subH (ref : Bool) : List RT → List RT → List (Int × Int)
  | [], _ => []
  | x :: _, m => match m with
    | [] => []
    | y :: _ => if ref = true then subS x y else bothS (regS x) (regS y)
end
mutual
def plainB : RT → Bool
  | .mk k _ r e => (if isRef k = true then decide (r.length = 1) else (decide (k = 3) || decide (r.length = 0)) && decide (e.length = 0)) && (decide (e.length ≤ 1) && plainH e)
def plainH : List RT → Bool
  | [] => true
  | x :: _ => plainB x
end

theorem regS_eq (t : RT) : regS t = ownS t.kind t.regions ++ (if isRef t.kind = true then regH t.elem else []) := by cases t; rfl
theorem regH_pos {e : List RT} (h : 0 < e.length) : regH e = regS e[0] := by cases e with | nil => simp at h | cons x l => rfl
theorem sameB_eq (a b : RT) : sameB a b = (decide (a.kind = b.kind) && (decide (a.name = b.name) && (decide (a.regions.length = b.regions.length) && sameL a.elem b.elem))) := by cases a; rfl
theorem exB_eq (a b : RT) : exB a b = (decide (a.kind = b.kind) && (decide (a.name = b.name) && (decide (a.regions = b.regions) && exL a.elem b.elem))) := by cases a; rfl
theorem substS_eq (m : List Int) (t : RT) : substS m t = .mk t.kind t.name (t.regions.map (mapR m)) (substL m t.elem) := by cases t; rfl
theorem plainB_eq (t : RT) : plainB t = ((if isRef t.kind = true then decide (t.regions.length = 1) else (decide (t.kind = 3) || decide (t.regions.length = 0)) && decide (t.elem.length = 0)) && (decide (t.elem.length ≤ 1) && plainH t.elem)) := by cases t; rfl

theorem substL_eq (m : List Int) : ∀ l, substL m l = l.map (substS m)
  | [] => rfl
  | x :: l => by rw [substL, substL_eq m l]; rfl
theorem exB_iff : ∀ a b : RT, exB a b = true ↔ a = b := by
  refine RT.ind ?_
  intro k n r e ih b
  have hl : ∀ (e : List RT), (∀ x ∈ e, ∀ b, exB x b = true ↔ x = b) → ∀ m, exL e m = true ↔ e = m := by
    intro e
    induction e with
    | nil => intro _ m; cases m <;> simp [exL]
    | cons x l il =>
      intro h m
      cases m with
      | nil => simp [exL]
      | cons y m =>
        simp only [exL, Bool.and_eq_true, List.cons.injEq]
        rw [h x (List.mem_cons_self ..), il (fun z hz => h z (List.mem_cons_of_mem _ hz))]
  simp only [exB, Bool.and_eq_true, decide_eq_true_eq]
  obtain ⟨k', n', r', e'⟩ := b
  simp only [RT.kind, RT.name, RT.regions, RT.elem, RT.mk.injEq]
  rw [hl e ih]
theorem sameL_map' (f g : RT → RT) : ∀ (l : List RT), (∀ x ∈ l, sameB (f x) (g x) = true) → sameL (l.map f) (l.map g) = true
  | [], _ => rfl
  | x :: l, h => by
    simp only [List.map_cons, sameL, h x (List.mem_cons_self ..), Bool.true_and]
    exact sameL_map' f g l fun z hz => h z (List.mem_cons_of_mem _ hz)
theorem same_subst (m n : List Int) : ∀ t, sameB (substS m t) (substS n t) = true := by
  refine RT.ind ?_
  intro k nm r e ih
  simp only [substS, sameB, RT.kind, RT.name, RT.regions, RT.elem, List.length_map, decide_true, Bool.true_and, substL_eq]
  exact sameL_map' _ _ e ih
theorem mapR_nil (x : Int) : mapR [] x = x := by
  unfold mapR
  rw [if_neg]
  intro h; simp only [List.length_nil] at h; omega
theorem subst_nil : ∀ t, substS [] t = t := by
  refine RT.ind ?_
  intro k nm r e ih
  rw [substS, substL_eq]
  congr 1
  · rw [show (mapR []) = id from funext mapR_nil, List.map_id]
  · rw [List.map_congr_left ih, List.map_id']
theorem same_subst_l (m : List Int) (t : RT) : sameB (substS m t) t = true := by
  have := same_subst m [] t
  rwa [subst_nil] at this
theorem same_self (t : RT) : sameB t t = true := by
  have := same_subst [] [] t
  rwa [subst_nil] at this
theorem subst_kind (m : List Int) (t : RT) : (substS m t).kind = t.kind := by cases t; rfl
theorem ownS_map (f : Int → Int) (k : Int) (r : List Int) : ownS k (r.map f) = (ownS k r).map f := by
  unfold ownS
  split
  · rfl
  · split
    · rw [List.map_take]
    · rfl
theorem regS_subst (m : List Int) : ∀ t, regS (substS m t) = (regS t).map (mapR m) := by
  refine RT.ind ?_
  intro k nm r e ih
  simp only [substS, regS, List.map_append, ownS_map, substL_eq]
  congr 1
  split
  · cases e with
    | nil => rfl
    | cons x l => simp only [List.map_cons, regH]; exact ih x (List.mem_cons_self ..)
  · rfl

/-- Numbers put in by a map, and by another one: those of both. -/
theorem subst_subst (a b both : List Int) (hboth : ∀ x, 0 ≤ x → x < 16 → mapR b (mapR a x) = mapR both x) : ∀ t, plainB t = true → (∀ x ∈ regS t, 0 ≤ x ∧ x < 16) → substS b (substS a t) = substS both t := by
  refine RT.ind ?_
  intro k nm r e ih hp hr
  simp only [plainB, Bool.and_eq_true, decide_eq_true_eq] at hp
  obtain ⟨hp1, hp2, hp3⟩ := hp
  have hrr : ∀ x ∈ r, 0 ≤ x ∧ x < 16 := by
    intro x hx
    by_cases hk : isRef k = true
    · rw [if_pos hk] at hp1
      have h1 : r.length = 1 := of_decide_eq_true hp1
      refine hr x ?_
      rw [regS, ownS]
      refine List.mem_append_left _ ?_
      split
      · exact hx
      · rw [List.take_of_length_le (by omega)]; exact hx
    · rw [if_neg hk] at hp1
      simp only [Bool.and_eq_true, Bool.or_eq_true, decide_eq_true_eq] at hp1
      rcases hp1.1 with h3 | h0
      · refine hr x ?_
        rw [regS, ownS, if_pos h3]
        exact List.mem_append_left _ hx
      · rw [List.eq_nil_of_length_eq_zero h0] at hx; cases hx
  simp only [substS, substL_eq, List.map_map]
  congr 1
  · exact List.map_congr_left fun x hx => hboth x (hrr x hx).1 (hrr x hx).2
  · refine List.map_congr_left fun x hx => ?_
    cases e with
    | nil => cases hx
    | cons y l =>
      have hl : l = [] := List.eq_nil_of_length_eq_zero (by simp only [List.length_cons] at hp2; omega)
      subst hl
      obtain rfl := List.mem_singleton.1 hx
      refine ih x hx hp3 fun z hz => hr z ?_
      have hk : isRef k = true := by
        by_cases hk : isRef k = true
        · exact hk
        · rw [if_neg hk] at hp1
          simp at hp1
      rw [regS, if_pos hk]
      exact List.mem_append_right _ hz

/-- What is asked of the first and the third one follows from what is asked in between. -/
def Via (l : List (Int × Int)) (p : Int × Int) : Prop := ∃ j, (p.1, j) ∈ l ∧ (j, p.2) ∈ l
theorem Via.mono {l m : List (Int × Int)} {p : Int × Int} (h : Via l p) (hs : ∀ q ∈ l, q ∈ m) : Via m p := by
  obtain ⟨j, h1, h2⟩ := h
  exact ⟨j, hs _ h1, hs _ h2⟩
/-! Pairs as cells. -/
theorem sameL_len : ∀ (e e' : List RT), sameL e e' = true → e.length = e'.length
  | [], m, h => by cases m with
    | nil => rfl
    | cons y m => simp [sameL] at h
  | x :: l, [], h => by simp [sameL] at h
  | x :: l, y :: m, h => by
    simp only [sameL, Bool.and_eq_true] at h
    simp [sameL_len l m h.2]
/-- Is a type's depth above a bound, or is there too much in it? -/
def deepB : Nat → RT → Bool
  | 0, _ => true
  | d + 1, t => decide (2 < t.elem.length) || decide (70 < t.regions.length) || t.elem.any (deepB d)
theorem deep_zero {t : RT} (h : deepB 0 t = false) : False := by cases h
theorem deep_succ {d : Nat} {t : RT} (h : deepB (d + 1) t = false) : t.elem.length ≤ 2 ∧ t.regions.length ≤ 70 ∧ ∀ x ∈ t.elem, deepB d x = false := by
  simp only [deepB, Bool.or_eq_false_iff, decide_eq_false_iff_not, List.any_eq_false] at h
  exact ⟨by omega, by omega, fun x hx => by simpa using h.2 x hx⟩
theorem deep_subst (m : List Int) : ∀ (d : Nat) (t : RT), deepB d t = false → deepB d (substS m t) = false
  | 0, _, h => (deep_zero h).elim
  | d + 1, t, h1 => by
    obtain ⟨a, b, c⟩ := deep_succ h1
    rw [substS_eq]
    simp only [deepB, RT.mkE, RT.mkR, Bool.or_eq_false_iff, decide_eq_false_iff_not, List.any_eq_false, substL_eq, List.length_map, List.mem_map, forall_exists_index, and_imp, forall_apply_eq_imp_iff₂]
    exact ⟨⟨by omega, by omega⟩, fun x hx => by simp [deep_subst m d x (c x hx)]⟩
theorem own_len (k : Int) (r : List Int) : (ownS k r).length ≤ r.length := by
  unfold ownS
  split
  · exact Nat.le_refl _
  · split
    · rw [List.length_take]; omega
    · exact Nat.zero_le _
theorem reg_len : ∀ (d : Nat) (t : RT), deepB d t = false → (regS t).length ≤ 70 * d
  | 0, _, h => (deep_zero h).elim
  | d + 1, t, h => by
    obtain ⟨a, b, c⟩ := deep_succ h
    have h1 := own_len t.kind t.regions
    rw [regS_eq, List.length_append]
    split
    · cases he : t.elem with
      | nil => simp only [regH, List.length_nil]; omega
      | cons x l =>
        have := reg_len d x (c x (by rw [he]; exact List.mem_cons_self ..))
        simp only [regH]; omega
    · simp only [List.length_nil]; omega
theorem isRef3 : isRef 3 = false := rfl
theorem isRef4 : isRef 4 = true := rfl
theorem isRef5 : isRef 5 = true := rfl
/-! Lists of types as cells. -/
theorem rt_len (l : List RT) : (l.flatMap RT.cells).length = l.length * 4 := flat_len RT.len l
theorem rt_snap (H : Heap) (d : Nat) (l : List RT) : (l.flatMap RT.cells).map (snap H (d + 1)) = l.flatMap RT.cells := by
  induction l with
  | nil => rfl
  | cons x r ih => rw [List.flatMap_cons, List.map_append, ih, RT.snapc]
theorem rt_app (l : List RT) (x : RT) : l.flatMap RT.cells ++ x.cells = (l ++ [x]).flatMap RT.cells := by rw [List.flatMap_append]; simp
end Go.Lg
