/-
  What comes in: whatever can be read as data of a type is a logical value of that type's shape, in memory that never turns.
-/
import Derived.Test.YtobhpkagbmadlaaLgV
import GoSem.ClaimChange
import Derived.ChangeArms
import Derived.OpenShut
import Derived.Lib.SmallJoins
set_option linter.unusedSimpArgs false
set_option linter.unusedVariables false
namespace Go.Lg
open Go Go.RowKit

/-- Types whose values are not looked into. -/
def otherOk (P : Program) : TypeDesc → Bool
  | .bool | .int _ | .string | .struct _ | .array .. => false
  | .slice e => P.cellsOf e == 0
  | _ => true

/-- The cells of a value of a type. -/
inductive Ty (P : Program) : TypeId → List V → Prop
  | bool (t b) : P.underlying t = some .bool → Ty P t [.bool b]
  | int (t k n) : P.underlying t = some (.int k) → (Lit.int k n).wf = true → Ty P t [.int k n]
  | str (t s) : P.underlying t = some .string → s.size ≤ maxLen → Ty P t [.str s]
  | struct (t fs cs) : P.underlying t = some (.struct fs) → cs.length = P.cellsOf t → (∀ f ∈ fs.toList, Ty P f.type ((cs.drop f.offset).take (P.cellsOf f.type))) → Ty P t cs
  | array (t n e cs) : P.underlying t = some (.array n e) → cs.length = P.cellsOf t → (∀ i, i < n → Ty P e ((cs.drop (i * P.cellsOf e)).take (P.cellsOf e))) → Ty P t cs
  | slice (t e n cs) : P.underlying t = some (.slice e) → cs.length = n * P.cellsOf e → n ≤ maxLen → (∀ i, i < n → Ty P e ((cs.drop (i * P.cellsOf e)).take (P.cellsOf e))) → Ty P t [.sl n cs]
  | other (t d) : P.underlying t = some d → otherOk P d = true → Ty P t [.junk]

section
variable {P : Program} {H : Type} {enc : TypeId × Value → H} {w : World}

/-- Cells of the model and logical ones. -/
def CellsRep (w : World) (cs : List Value) (xs : List V) : Prop :=
  xs.length = cs.length ∧ ∀ (j : Nat) (v : Value) (x : V), cs[j]? = some v → xs[j]? = some x → RepI (· < w.heap.size) w v x

theorem CellsRep.one {v : Value} {x : V} (h : RepI (· < w.heap.size) w v x) : CellsRep w [v] [x] := by
  refine ⟨rfl, fun j u y hu hy => ?_⟩
  cases j with
  | zero => simp at hu hy; subst hu hy; exact h
  | succ j => simp at hu

theorem cells?_spec {a : Addr} {n : Nat} {l : List Value} (h : w.cells? 0 a n = some l) : l.length = n ∧ (0 < n → ∃ us T fz, a.spot = none ∧ w.heap[a.block]? = some (.cells us T fz) ∧ a.off + n ≤ us.size ∧ ∀ j, j < n → us[a.off + j]? = l[j]?) := by
  unfold World.cells? at h
  rw [if_pos (Nat.zero_le _)] at h
  obtain ⟨h1, h2⟩ := mapM_spec h
  rw [List.length_range] at h1
  have get : ∀ j (hj : j < n), w.cell? (a.add j) = some (l[j]'(by omega)) := by
    intro j hj
    exact h2 j j _ (by simp [hj]) (List.getElem?_eq_getElem (by omega))
  refine ⟨h1, fun hn => ?_⟩
  have h0 := get 0 hn
  have e0 : a.add 0 = a := by simp [Addr.add]
  rw [e0] at h0
  have hspot : a.spot = none := by
    unfold World.cell? at h0
    split at h0
    · split at h0
      · cases h0
      · rename_i hsp; simpa using hsp
    · cases h0
  obtain ⟨b, off, spot⟩ := a
  subst hspot
  unfold World.cell? at h0
  simp only [] at h0
  cases hb : w.heap[b]? with
  | none => rw [hb] at h0; cases h0
  | some ob =>
    cases ob with
    | cells us T fz =>
      have cell : ∀ j, j < n → us[off + j]? = l[j]? := by
        intro j hj
        have := get j hj
        rw [addr_add, cell_at hb] at this
        rw [this, List.getElem?_eq_getElem (by omega)]
      refine ⟨us, T, fz, rfl, rfl, ?_, cell⟩
      have hl := cell (n - 1) (by omega)
      rw [List.getElem?_eq_getElem (by omega)] at hl
      have : off + (n - 1) < us.size := by
        rcases Nat.lt_or_ge (off + (n - 1)) us.size with h' | h'
        · exact h'
        · rw [Array.getElem?_eq_none h'] at hl; cases hl
      simp only []
      omega
    | _ => rw [hb] at h0; cases h0

/-- Parts side by side. -/
theorem concat_rep {f : Nat → List V} {s : Nat} (hf : ∀ i, (f i).length = s) : ∀ (n : Nat), ((List.range n).flatMap f).length = n * s ∧ ∀ i, i < n → (((List.range n).flatMap f).drop (i * s)).take s = f i
  | 0 => ⟨by simp, fun i h => by omega⟩
  | n + 1 => by
    obtain ⟨h1, h2⟩ := concat_rep hf n
    rw [List.range_succ, List.flatMap_append]
    simp only [List.flatMap_cons, List.flatMap_nil, List.append_nil]
    refine ⟨by rw [List.length_append, h1, hf, Nat.add_mul]; omega, fun i hi => ?_⟩
    rcases Nat.lt_or_ge i n with hlt | hge
    · have hm : i * s + s ≤ n * s := by
        have := Nat.mul_le_mul_right s (show i + 1 ≤ n by omega)
        rw [Nat.add_mul] at this; omega
      rw [List.drop_append_of_le_length (by omega), List.take_append_of_le_length (by rw [List.length_drop]; omega)]
      exact h2 i hlt
    · obtain rfl : i = n := by omega
      rw [List.drop_append, List.drop_eq_nil_of_le (by omega), h1, Nat.sub_self]
      simp only [List.nil_append, List.drop_zero]
      rw [List.take_of_length_le (by rw [hf]; exact Nat.le_refl _)]

/-- Fields side by side. -/
def tileF (P : Program) : Nat → List Field → Option Nat
  | o, [] => some o
  | o, f :: r => if f.offset = o then tileF P (o + P.cellsOf f.type) r else none
def tileOk (P : Program) (t : TypeId) : Bool := match P.underlying t with
  | some (.struct fs) => tileF P 0 fs.toList == some (P.cellsOf t)
  | some (.array n e) => n * P.cellsOf e == P.cellsOf t
  | _ => true

def compsOf (P : Program) (t : TypeId) : List TypeId := match P.underlying t with
  | some (.struct fs) => fs.toList.map (·.type)
  | some (.array _ e) | some (.slice e) => [e]
  | _ => []
/-- All types of the table are laid out side by side, and made of types of the table. -/
def tilesOk (P : Program) : Bool := (List.range P.types.size).all fun t => tileOk P t && (compsOf P t).all fun c => decide (c < P.types.size)

theorem tile_all (h : tilesOk P = true) {t : TypeId} (ht : t < P.types.size) : tileOk P t = true ∧ ∀ c ∈ compsOf P t, c < P.types.size := by
  have := List.all_eq_true.1 h t (List.mem_range.2 ht)
  simp only [Bool.and_eq_true] at this
  exact ⟨this.1, fun c hc => by simpa using List.all_eq_true.1 this.2 c hc⟩

theorem fields_rep {fuel : Nat} (ih : ∀ (t : TypeId) (cs : List Value) (d : DataW H) (p : List MemPlace), t < P.types.size → DataW.trod enc P w 0 (fun _ => true) true fuel t cs = some (d, p) → ∃ xs, Ty P t xs ∧ CellsRep w cs xs) (cs : List Value) :
    ∀ (fs : List Field) (o n : Nat), (∀ f ∈ fs, f.type < P.types.size) → tileF P o fs = some n → n ≤ cs.length → (∀ f ∈ fs, ∃ x, DataW.trod enc P w 0 (fun _ => true) true fuel f.type ((cs.drop f.offset).take (P.cellsOf f.type)) = some x) →
      ∃ xs, o ≤ n ∧ CellsRep w ((cs.drop o).take (n - o)) xs ∧ ∀ f ∈ fs, o ≤ f.offset ∧ Ty P f.type ((xs.drop (f.offset - o)).take (P.cellsOf f.type))
  | [], o, n, _, ht, hn, _ => by
    cases ht
    exact ⟨[], Nat.le_refl _, ⟨by simp, fun j v x h => by simp at h⟩, fun f h => by cases h⟩
  | f :: r, o, n, hin, ht, hn, hf => by
    simp only [tileF] at ht
    split at ht
    case isFalse => cases ht
    rename_i hoff
    obtain ⟨xs', hle, hrep, hty⟩ := fields_rep ih cs r _ n (fun f hm => hin f (List.mem_cons_of_mem _ hm)) ht hn fun f hm => hf f (List.mem_cons_of_mem _ hm)
    obtain ⟨⟨d, p⟩, hx⟩ := hf f (List.mem_cons_self ..)
    obtain ⟨ys, hyt, hyr⟩ := ih _ _ _ _ (hin f (List.mem_cons_self ..)) hx
    rw [hoff] at hx hyr
    have hyl : ys.length = P.cellsOf f.type := by
      rw [hyr.1, List.length_take, List.length_drop]; omega
    have hsplit : (cs.drop o).take (n - o) = (cs.drop o).take (P.cellsOf f.type) ++ (cs.drop (o + P.cellsOf f.type)).take (n - (o + P.cellsOf f.type)) := by
      have e1 : n - o = P.cellsOf f.type + (n - (o + P.cellsOf f.type)) := by omega
      rw [e1, List.take_add, List.drop_drop]
    refine ⟨ys ++ xs', by omega, ?_, fun g hg => ?_⟩
    · rw [hsplit]
      refine ⟨by rw [List.length_append, List.length_append, hyr.1, hrep.1], fun j v x hv hx' => ?_⟩
      have hl : ((cs.drop o).take (P.cellsOf f.type)).length = ys.length := hyr.1.symm
      rw [List.getElem?_append, hl] at hv
      rw [List.getElem?_append] at hx'
      split at hv
      · rename_i hlt; rw [if_pos hlt] at hx'; exact hyr.2 j v x hv hx'
      · rename_i hlt; rw [if_neg hlt] at hx'; exact hrep.2 _ v x hv hx'
    · rcases List.mem_cons.1 hg with rfl | hg
      · refine ⟨by omega, ?_⟩
        rw [hoff, Nat.sub_self, List.drop_zero, List.take_append_of_le_length (by omega), List.take_of_length_le (by omega)]
        exact hyt
      · obtain ⟨h1, h2⟩ := hty g hg
        refine ⟨by omega, ?_⟩
        rw [List.drop_append, List.drop_eq_nil_of_le (by omega), List.nil_append, show g.offset - o - ys.length = g.offset - (o + P.cellsOf f.type) by omega]
        exact h2

/-- Elements side by side, each read by itself. -/
theorem elems_rep {e s : Nat} : ∀ (n : Nat) (get : Nat → List Value), (∀ i, i < n → (get i).length = s ∧ ∃ xs, Ty P e xs ∧ CellsRep w (get i) xs) →
    ∃ xs, CellsRep w ((List.range n).flatMap get) xs ∧ xs.length = n * s ∧ ∀ i, i < n → Ty P e ((xs.drop (i * s)).take s)
  | 0, get, _ => ⟨[], ⟨rfl, fun j v x h => by simp at h⟩, by simp, fun i h => by omega⟩
  | n + 1, get, h => by
    obtain ⟨xs, h1, h2, h3⟩ := elems_rep n get fun i hi => h i (by omega)
    obtain ⟨hl, ys, hy1, hy2⟩ := h n (by omega)
    have hyl : ys.length = s := by rw [hy2.1, hl]
    rw [List.range_succ, List.flatMap_append]
    simp only [List.flatMap_cons, List.flatMap_nil, List.append_nil]
    refine ⟨xs ++ ys, ⟨by rw [List.length_append, List.length_append, h1.1, hy2.1], fun j v x hv hx => ?_⟩, by rw [List.length_append, h2, hyl, Nat.add_mul]; omega, fun i hi => ?_⟩
    · rw [List.getElem?_append, ← h1.1] at hv
      rw [List.getElem?_append] at hx
      split at hv
      · rename_i hlt; rw [if_pos hlt] at hx; exact h1.2 j v x hv hx
      · rename_i hlt; rw [if_neg hlt] at hx; exact hy2.2 _ v x hv hx
    · rcases Nat.lt_or_ge i n with hlt | hge
      · have hm : i * s + s ≤ n * s := by
          have := Nat.mul_le_mul_right s (show i + 1 ≤ n by omega)
          rw [Nat.add_mul] at this; omega
        rw [List.drop_append_of_le_length (by omega), List.take_append_of_le_length (by rw [List.length_drop]; omega)]
        exact h3 i hlt
      · obtain rfl : i = n := by omega
        rw [List.drop_append, List.drop_eq_nil_of_le (by omega), h2, Nat.sub_self]
        simp only [List.nil_append, List.drop_zero]
        rw [List.take_of_length_le (by omega)]
        exact hy1

theorem trod_rep (htile : tilesOk P = true) : ∀ (fuel : Nat) (t : TypeId) (cs : List Value) (d : DataW H) (p : List MemPlace), t < P.types.size → DataW.trod enc P w 0 (fun _ => true) true fuel t cs = some (d, p) → ∃ xs, Ty P t xs ∧ CellsRep w cs xs
  | 0, t, cs, d, p, _, h => by cases h
  | fuel + 1, t, cs, d, p, hin, h => by
    have ih := trod_rep htile fuel
    obtain ⟨hto, hcomp⟩ := tile_all htile hin
    have h0 := h
    cases ht : P.underlying t with
    | none => unfold DataW.trod at h; rw [ht] at h; cases h
    | some td =>
      have other : ∀ v, cs = [v] → otherOk P td = true → ∃ xs, Ty P t xs ∧ CellsRep w cs xs := by
        intro v e hm
        subst e
        exact ⟨[.junk], .other t td ht hm, CellsRep.one (.junk _)⟩
      cases td with
      | bool =>
        obtain ⟨b, rfl, _⟩ := DataW.trod_bool ht h
        exact ⟨_, .bool t b ht, CellsRep.one (.bool b)⟩
      | int k =>
        obtain ⟨n, rfl, _, hw⟩ := DataW.trod_int ht h
        exact ⟨_, .int t k n ht hw, CellsRep.one (.int k n)⟩
      | string =>
        obtain ⟨s, rfl, _, hs⟩ := DataW.trod_string ht h
        exact ⟨_, .str t s ht hs, CellsRep.one (.str s)⟩
      | struct fs =>
        obtain ⟨ys, n, hn, _, hl, hlen, hf⟩ := DataW.trod_struct ht h
        obtain rfl : n = fuel := by omega
        simp only [tileOk, ht, beq_iff_eq] at hto
        obtain ⟨xs, h1, h2, h3⟩ := fields_rep ih cs fs.toList 0 _ (fun f hm => hcomp _ (by simp only [compsOf, ht]; exact List.mem_map_of_mem hm)) hto (by omega) (fun f hm => by
          obtain ⟨i, hi⟩ := List.mem_iff_getElem?.1 hm
          rw [Array.getElem?_toList] at hi
          have hlt : i < fs.size := by
            rcases Nat.lt_or_ge i fs.size with h' | h'
            · exact h'
            · rw [Array.getElem?_eq_none h'] at hi; cases hi
          exact ⟨ys[i], by rw [hf i f hi, List.getElem?_eq_getElem (by omega)]⟩)
        rw [List.drop_zero, Nat.sub_zero, List.take_of_length_le (by omega)] at h2
        exact ⟨xs, .struct t fs xs ht (by rw [h2.1, hl]) (fun f hm => by simpa using (h3 f hm).2), h2⟩
      | array n e =>
        obtain ⟨ys, m, hm, _, hl, hlen, hf⟩ := DataW.trod_array ht h
        obtain rfl : m = fuel := by omega
        simp only [tileOk, ht, beq_iff_eq] at hto
        obtain ⟨xs, h1, h2, h3⟩ := elems_rep (P := P) (e := e) (s := P.cellsOf e) (w := w) n (fun i => (cs.drop (i * P.cellsOf e)).take (P.cellsOf e)) (fun i hi => by
          refine ⟨?_, ?_⟩
          · have hmm : i * P.cellsOf e + P.cellsOf e ≤ n * P.cellsOf e := by
              have := Nat.mul_le_mul_right (P.cellsOf e) (show i + 1 ≤ n by omega)
              rw [Nat.add_mul] at this; omega
            rw [List.length_take, List.length_drop]; omega
          · have hx := hf i hi
            rw [List.getElem?_eq_getElem (by omega)] at hx
            exact ih _ _ _ _ (hcomp e (by simp [compsOf, ht])) hx)
        have hcs : (List.range n).flatMap (fun i => (cs.drop (i * P.cellsOf e)).take (P.cellsOf e)) = cs := by
          have key : ∀ m, m ≤ n → (List.range m).flatMap (fun i => (cs.drop (i * P.cellsOf e)).take (P.cellsOf e)) = cs.take (m * P.cellsOf e) := by
            intro m
            induction m with
            | zero => intro _; simp
            | succ m ihm =>
              intro hm
              rw [List.range_succ, List.flatMap_append, ihm (by omega)]
              simp only [List.flatMap_cons, List.flatMap_nil, List.append_nil]
              rw [Nat.add_mul, Nat.one_mul, List.take_add]
          rw [key n (Nat.le_refl _), List.take_of_length_le (by omega)]
        rw [hcs] at h1
        exact ⟨xs, .array t n e xs ht (by rw [h1.1, hl]) h3, h1⟩
      | slice e =>
        unfold DataW.trod at h
        rw [ht] at h
        simp only [] at h
        by_cases hz : P.cellsOf e = 0
        · obtain ⟨a, l, c, rfl⟩ := Joins.slice_form ht h0
          exact other _ rfl (by simp [otherOk, hz])
        · have hp : 0 < P.cellsOf e := Nat.pos_of_ne_zero hz
          obtain ⟨a, l, c, rfl⟩ := Joins.slice_form ht h0
          cases a with
          | none =>
            have hlc : l = 0 ∧ c = 0 := by
              split at h <;> first | (cases h; done) | simp_all
            obtain ⟨rfl, rfl⟩ := hlc
            exact ⟨[.sl 0 []], .slice t e 0 [] ht (by simp) (Nat.zero_le _) (fun i h => by omega), CellsRep.one (.sl0 _ _)⟩
          | some a =>
            simp only [] at h
            split at h
            case isFalse => cases h
            rename_i hcond
            simp only [Option.bind_eq_some_iff] at h
            obtain ⟨els, hels, _⟩ := h
            obtain ⟨q1, q2⟩ := mapM_spec hels
            rw [List.length_range] at q1
            have each : ∀ i, i < l → ∃ cl, w.cells? 0 (a.add (i * P.cellsOf e)) (P.cellsOf e) = some cl ∧ ∃ xs, Ty P e xs ∧ CellsRep w cl xs := by
              intro i hi
              have := q2 i i _ (by simp [hi]) (List.getElem?_eq_getElem (by omega))
              simp only [Option.bind_eq_some_iff] at this
              obtain ⟨cl, h1, h2⟩ := this
              exact ⟨cl, h1, ih _ _ _ _ (hcomp e (by simp [compsOf, ht])) h2⟩
            by_cases hl0 : l = 0
            · subst hl0
              exact ⟨[.sl 0 []], .slice t e 0 [] ht (by simp) (Nat.zero_le _) (fun i h => by omega), CellsRep.one (.sl0 _ _)⟩
            · obtain ⟨cl0, hc0, _⟩ := each 0 (by omega)
              have ea0 : a.add (0 * P.cellsOf e) = a := by simp [Addr.add]
              rw [ea0] at hc0
              obtain ⟨_, hblk⟩ := cells?_spec hc0
              obtain ⟨us, T, fz, hspot, hb, _, _⟩ := hblk hp
              clear hblk
              obtain ⟨b, off, spot⟩ := a
              simp only [] at hspot hb
              subst hspot
              obtain ⟨xs, h1, h2, h3⟩ := elems_rep (P := P) (e := e) (s := P.cellsOf e) (w := w) l (fun i => ((us.toList.drop (off + i * P.cellsOf e)).take (P.cellsOf e))) (fun i hi => by
                obtain ⟨cl, hcl, xs, hx1, hx2⟩ := each i hi
                rw [addr_add] at hcl
                obtain ⟨hlen, hsp⟩ := cells?_spec hcl
                obtain ⟨us', T', fz', _, hb', hsz, hget⟩ := hsp hp
                simp only [] at hb' hsz hget
                rw [hb] at hb'; cases hb'
                have heq : (us.toList.drop (off + i * P.cellsOf e)).take (P.cellsOf e) = cl := by
                  apply List.ext_getElem?
                  intro j
                  rw [List.getElem?_take]
                  split
                  · rename_i hj
                    rw [List.getElem?_drop, Array.getElem?_toList]
                    exact hget j hj
                  · rename_i hj
                    rw [List.getElem?_eq_none (by omega)]
                refine ⟨by rw [heq]; exact hlen, xs, hx1, by rw [heq]; exact hx2⟩)
              have hsz : off + l * P.cellsOf e ≤ us.size := by
                obtain ⟨cl, hcl, _⟩ := each (l - 1) (by omega)
                rw [addr_add] at hcl
                obtain ⟨_, hsp⟩ := cells?_spec hcl
                obtain ⟨us', T', fz', _, hb', hsz, _⟩ := hsp hp
                simp only [] at hb' hsz
                rw [hb] at hb'; cases hb'
                have : (l - 1) * P.cellsOf e + P.cellsOf e = l * P.cellsOf e := by
                  rw [← Nat.succ_mul]; congr 1; omega
                omega
              refine ⟨[.sl l xs], .slice t e l xs ht h2 (by omega) h3, CellsRep.one (.sl b off l c us T fz xs ?_ hb (by omega) hcond.2.1 fun j v x hv hx => ?_)⟩
              · rcases Nat.lt_or_ge b w.heap.size with h' | h'
                · exact h'
                · rw [Array.getElem?_eq_none h'] at hb; cases hb
              · have hjl : j < l * P.cellsOf e := by
                  rcases Nat.lt_or_ge j xs.length with h' | h'
                  · omega
                  · rw [List.getElem?_eq_none h'] at hx; cases hx
                refine h1.2 j v x ?_ hx
                have hfl : (List.range l).flatMap (fun i => ((us.toList.drop (off + i * P.cellsOf e)).take (P.cellsOf e))) = (us.toList.drop off).take (l * P.cellsOf e) := by
                  have key : ∀ m, (List.range m).flatMap (fun i => ((us.toList.drop (off + i * P.cellsOf e)).take (P.cellsOf e))) = (us.toList.drop off).take (m * P.cellsOf e) := by
                    intro m
                    induction m with
                    | zero => simp
                    | succ m ihm =>
                      rw [List.range_succ, List.flatMap_append, ihm]
                      simp only [List.flatMap_cons, List.flatMap_nil, List.append_nil]
                      rw [Nat.add_mul, Nat.one_mul, List.take_add, List.drop_drop]
                  exact key l
                rw [hfl, List.getElem?_take, if_pos hjl, List.getElem?_drop, Array.getElem?_toList]
                exact hv
      | _ =>
        have : ∃ v, cs = [v] := by
          unfold DataW.trod at h
          rw [ht] at h
          simp only [] at h
          first
            | (cases h; done)
            | (split at h <;> first | (cases h; done) | exact ⟨_, rfl⟩ | simp_all)
        obtain ⟨v, hv⟩ := this
        exact other v hv rfl

end
end Go.Lg
