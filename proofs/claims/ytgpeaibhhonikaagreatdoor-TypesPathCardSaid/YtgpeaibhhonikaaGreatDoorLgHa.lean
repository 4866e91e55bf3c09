/-
  Each operation of the plain logic is borne out by the model's own: maps, arrays of numbers, bytes and texts.
-/
import Derived.Test.YtgpeaibhhonikaaGreatDoorLgH
import Derived.ChangeKeysEq
import Derived.MapKept
import Derived.Lib.ConvBytes
import Derived.Laws.BytesString
set_option linter.unusedSimpArgs false
set_option linter.unusedVariables false
namespace Go.Lg
open Go Go.RowKit

def kval1 : V → Value
  | .int q n => .int q n
  | .str s => .string s
  | .bool b => .bool b
  | _ => .nilIface
def kval : V → Value
  | .agg cs => .agg (cs.map kval1).toArray
  | x => kval1 x

theorem intsK_get {q : IntKind} : ∀ {cs : List V}, intsK q cs = true → ∀ {j : Nat} {c : V}, cs[j]? = some c → ∃ n, c = .int q n
  | [], _, j, c, h => by simp at h
  | x :: r, hk, j, c, h => by
    cases x with
    | int q' n =>
      simp only [intsK, Bool.and_eq_true, decide_eq_true_eq] at hk
      cases j with
      | zero => simp at h; subst h; exact ⟨n, by rw [hk.1]⟩
      | succ j => exact intsK_get hk.2 (by simpa using h)
    | _ => cases hk

section
variable {P : Program} {g : Gh} {w w' : World} {E : Env} {σ : St} {a : Act}

theorem rep_ints {q : IntKind} {vs : Array Value} {cs : List V} (hk : intsK q cs = true) (hs : vs.size = cs.length) (hj : ∀ (j : Nat) (v : Value) (c : V), vs[j]? = some v → cs[j]? = some c → Rep g w v c) : vs = (cs.map kval1).toArray := by
  apply Array.ext
  · simp [hs]
  · intro i h1 h2
    have hc : i < cs.length := by omega
    obtain ⟨n, hn⟩ := intsK_get hk (List.getElem?_eq_getElem hc)
    have := hj i _ _ (Array.getElem?_eq_getElem h1) (List.getElem?_eq_getElem hc)
    rw [hn] at this
    have := this.int_inv
    simp [this, hn, kval1]

theorem rep_key {kt : KT} {v : Value} {x : V} (h : Rep g w v x) (hk : keyV kt x = true) : v = kval x := by
  cases x with
  | int q n => exact h.int_inv
  | str s => exact h.str_inv
  | bool b => exact h.bool_inv
  | agg cs =>
    cases kt with
    | arr n q =>
      simp only [keyV, Bool.and_eq_true, decide_eq_true_eq] at hk
      obtain ⟨vs, rfl, hs, hj⟩ := h.agg_inv
      simp only [kval]
      rw [rep_ints hk.2 hs hj]
    | _ => cases hk
  | _ => cases kt <;> cases hk

theorem intsK_rep {q : IntKind} : ∀ {cs : List V}, intsK q cs = true → ∀ (j : Nat) (v : Value) (c : V), (cs.map kval1).toArray[j]? = some v → cs[j]? = some c → Rep g w v c := by
  intro cs hk j v c hv hc
  obtain ⟨n, rfl⟩ := intsK_get hk hc
  simp only [List.getElem?_toArray, List.getElem?_map, hc, Option.map_some, Option.some.injEq] at hv
  subst hv
  exact .imm _ _ (.int _ _)

theorem szT_info {t : TypeId} {n : Nat} (h : szT P t = some n) : ∃ i, P.info? t = some i ∧ P.cellsOf t = n := by
  unfold szT at h
  cases hi : P.info? t with
  | none => simp [hi] at h
  | some i => simp [hi] at h; exact ⟨i, rfl, by simp [Program.cellsOf, hi, h]⟩

/-! Arrays of numbers. -/
theorem eqInts_run {e : TypeId} {q : IntKind} (he : P.underlying e = some (.int q)) (d : Nat) {xs ys : List V} (hx : intsK q xs = true) (hy : intsK q ys = true) (hl : xs.length = ys.length) : ∀ (m s : Nat), s + m = xs.length →
    (Op.eqItems (d + 1) e 1 (xs.map kval1).toArray (ys.map kval1).toArray (List.range' s m)).run P w = .ok (eqInts (xs.drop s) (ys.drop s)) w := by
  intro m
  induction m with
  | zero =>
    intro s hs
    rw [List.drop_of_length_le (by omega), List.drop_of_length_le (by omega)]
    simp [Op.eqItems, eqInts]
  | succ m ih =>
    intro s hs
    have h1 : s < xs.length := by omega
    have h2 : s < ys.length := by omega
    obtain ⟨x, ex⟩ := intsK_get hx (List.getElem?_eq_getElem h1)
    obtain ⟨y, ey⟩ := intsK_get hy (List.getElem?_eq_getElem h2)
    have hp : P.plainKey e = true := by simp [Program.plainKey, he]
    have gx : (xs.map kval1).toArray[s * 1]? = some (.int q x) := by simp [h1, ex, kval1]
    have gy : (ys.map kval1).toArray[s * 1]? = some (.int q y) := by simp [h2, ey, kval1]
    have hq : (Op.equalIn (d + 1) e (.int q x) (.int q y)).run P w = .ok (x == y) w := by simp [Op.equalIn, run_underlying he]
    have ih' := ih (s + 1) (by omega)
    rw [List.drop_eq_getElem_cons h1, List.drop_eq_getElem_cons h2, ex, ey]
    simp only [List.range'_succ, Op.eqItems, Sem.run_bind, run_part_plain w hp gx, run_part_plain w hp gy, Result.andThen_ok, hq, eqInts]
    cases hxy : (x == y)
    · simp
    · simpa using ih'

theorem equal_arr {t e : TypeId} {q : IntKind} {n : Nat} (d : Nat) (ht : P.underlying t = some (.array n e)) (he : P.underlying e = some (.int q)) (hz : szT P e = some 1) {xs ys : List V} (hx : intsK q xs = true) (hy : intsK q ys = true) (hxl : xs.length = n) (hyl : ys.length = n) :
    (Op.equalIn (d + 2) t (.agg (xs.map kval1).toArray) (.agg (ys.map kval1).toArray)).run P w = .ok (eqInts xs ys) w := by
  obtain ⟨i, hi, hc⟩ := szT_info hz
  rw [run_equalIn_array w (d + 1) _ _ ht hi, hc, List.range_eq_range']
  have := eqInts_run (w := w) he d hx hy (by omega) n 0 (by omega)
  simpa using this

theorem checkItems {e : TypeId} {q : IntKind} {i0 : TypeInfo} (hi : P.info? e = some i0) (hc : P.cellsOf e = 1) (he : P.underlying e = some (.int q)) (em : Bool) (d : Nat) {xs : List V} (hx : intsK q xs = true) : ∀ (m s : Nat), s + m ≤ xs.length →
    (forIn (List.range' s m) PUnit.unit fun i r => do Instr.checkKey em (d + 1) e (← part e (xs.map kval1).toArray (i * (← sizeOf e))); pure (ForInStep.yield PUnit.unit) : Sem PUnit).run P w = .ok PUnit.unit w := by
  intro m
  induction m with
  | zero => intro s _; simp
  | succ m ih =>
    intro s hs
    have h1 : s < xs.length := by omega
    obtain ⟨x, ex⟩ := intsK_get hx (List.getElem?_eq_getElem h1)
    have hp : P.plainKey e = true := by simp [Program.plainKey, he]
    have gx : (xs.map kval1).toArray[s * 1]? = some (.int q x) := by simp [h1, ex, kval1]
    have hck : (Instr.checkKey em (d + 1) e (.int q x)).run P w = .ok () w := by simp [Instr.checkKey, run_underlying he]
    simp only [List.range'_succ, List.forIn_cons, Sem.run_bind, run_sizeOf w hi, hc, run_part_plain w hp gx, Result.andThen_ok, hck, Sem.run_pure]
    exact ih (s + 1) (by omega)

theorem check_run' (d0 : Nat) {k : TypeId} {kt : KT} (hk : ktOf P k = some kt) {x : V} (hx : keyV kt x = true) (em : Bool) : (Instr.checkKey em (d0 + 2) k (kval x)).run P w = .ok () w := by
  unfold ktOf at hk
  cases hu : P.underlying k with
  | none => simp [hu] at hk
  | some d =>
    rw [hu] at hk
    cases d with
    | int q => simp [Instr.checkKey, run_underlying hu]
    | string => simp [Instr.checkKey, run_underlying hu]
    | bool => simp [Instr.checkKey, run_underlying hu]
    | array n e =>
      simp only at hk
      cases he : P.underlying e with
      | none => simp [he] at hk
      | some de =>
        rw [he] at hk
        cases de with
        | int q =>
          simp only at hk
          split at hk
          · rename_i hz
            cases hk
            cases x with
            | agg cs =>
              simp only [keyV, Bool.and_eq_true, decide_eq_true_eq] at hx
              obtain ⟨i, hi, hc⟩ := szT_info hz
              have := checkItems (w := w) hi hc he em d0 hx.2 n 0 (by omega)
              simp only [kval]
              rw [Instr.checkKey]
              simp only [Sem.run_bind, run_underlying hu, Result.andThen_ok]
              simp only [Std.Legacy.Range.forIn_eq_forIn_range', Std.Legacy.Range.size, Nat.sub_zero, Nat.add_one_sub_one, Nat.div_one]
              simp only [Sem.run_bind, this, Result.andThen_ok, Sem.run_pure]
            | _ => cases hx
          · cases hk
        | _ => cases hk
    | _ => cases hk

theorem check_run {k : TypeId} {kt : KT} (hk : ktOf P k = some kt) {x : V} (hx : keyV kt x = true) (em : Bool) : (Instr.checkKey em 10000 k (kval x)).run P w = .ok () w := check_run' 9998 hk hx em

/-! What a search finds. -/
def fr (i : Nat) (L : List MapEntry) : Option (Nat × V) → Option (Nat × Value)
  | some p => some (i + p.1, ((L[p.1]?).map (·.val)).getD .nilIface)
  | none => none
theorem fr_cons (i : Nat) (e : MapEntry) (L : List MapEntry) (r : Option (Nat × V)) : fr i (e :: L) (r.map fun p => (p.1 + 1, p.2)) = fr (i + 1) L r := by
  cases r with
  | none => rfl
  | some p => simp [fr]; omega

theorem findNow_ok {d : TypeDesc} {x : V} : ∀ (es : List (V × V)) (L : List MapEntry) (i : Nat), L.map (·.key) = es.map (fun p => kval p.1) → (∀ p ∈ es, Instr.sameNow d (kval x) (kval p.1) = some (eqK x p.1)) →
    Instr.findNow d (kval x) L i = some (fr i L (findK x es))
  | [], [], i, _, _ => rfl
  | [], e :: L, i, h, _ => by simp at h
  | p :: es, [], i, h, _ => by simp at h
  | p :: es, e :: L, i, h, hs => by
    simp only [List.map_cons, List.cons.injEq] at h
    have h1 := hs p (List.mem_cons_self ..)
    have ih := findNow_ok es L (i + 1) h.2 fun q hq => hs q (List.mem_cons_of_mem _ hq)
    simp only [Instr.findNow, h.1, h1, findK]
    cases hq : eqK x p.1
    · simp only [Bool.false_eq_true, if_false, fr_cons]
      exact ih
    · simp [fr]
theorem findAsking_ok {k : TypeId} {x : V} : ∀ (es : List (V × V)) (L : List MapEntry) (i : Nat), L.map (·.key) = es.map (fun p => kval p.1) → (∀ p ∈ es, (Op.equal k (kval x) (kval p.1)).run P w = .ok (eqK x p.1) w) →
    (Instr.findAsking k (kval x) L i).run P w = .ok (fr i L (findK x es)) w
  | [], [], i, _, _ => by simp [Instr.findAsking, findK, fr]
  | [], e :: L, i, h, _ => by simp at h
  | p :: es, [], i, h, _ => by simp at h
  | p :: es, e :: L, i, h, hs => by
    simp only [List.map_cons, List.cons.injEq] at h
    have h1 := hs p (List.mem_cons_self ..)
    have ih := findAsking_ok es L (i + 1) h.2 fun q hq => hs q (List.mem_cons_of_mem _ hq)
    simp only [Instr.findAsking, h.1, Sem.run_bind, h1, Result.andThen_ok, findK]
    cases hq : eqK x p.1
    · simp only [Bool.false_eq_true, if_false, fr_cons]
      exact ih
    · simp [fr]

theorem findKey_ok {k : TypeId} {kt : KT} (hk : ktOf P k = some kt) {x : V} (hx : keyV kt x = true) {es : List (V × V)} (hes : es.all (fun e => keyV kt e.1) = true) {L : List MapEntry} (hL : L.map (·.key) = es.map (fun p => kval p.1)) :
    (Instr.findKey k (kval x) L).run P w = .ok (fr 0 L (findK x es)) w := by
  rw [List.all_eq_true] at hes
  unfold ktOf at hk
  unfold Instr.findKey
  cases hu : P.underlying k with
  | none => simp [hu] at hk
  | some d =>
    rw [hu] at hk
    simp only [Sem.run_bind, run_underlying hu, Result.andThen_ok]
    have prim : (∀ p ∈ es, Instr.sameNow d (kval x) (kval p.1) = some (eqK x p.1)) → (match Instr.findNow d (kval x) L 0 with | some r => pure r | none => Instr.findAsking k (kval x) L : Sem _).run P w = .ok (fr 0 L (findK x es)) w := by
      intro h
      rw [findNow_ok es L 0 hL h]
      simp
    cases d with
    | int q =>
      cases hk
      refine prim fun p hp => ?_
      have h1 := hes p hp
      generalize p.1 = y at h1
      cases x <;> simp only [keyV, Bool.false_eq_true] at hx
      cases y <;> simp only [keyV, Bool.false_eq_true] at h1
      rw [decide_eq_true_eq] at hx h1
      subst hx h1
      simp [kval, kval1, Instr.sameNow, eqK]
    | string =>
      cases hk
      refine prim fun p hp => ?_
      have h1 := hes p hp
      generalize p.1 = y at h1
      cases x <;> simp only [keyV, Bool.false_eq_true] at hx
      cases y <;> simp only [keyV, Bool.false_eq_true] at h1
      simp [kval, kval1, Instr.sameNow, eqK]
    | bool =>
      cases hk
      refine prim fun p hp => ?_
      have h1 := hes p hp
      generalize p.1 = y at h1
      cases x <;> simp only [keyV, Bool.false_eq_true] at hx
      cases y <;> simp only [keyV, Bool.false_eq_true] at h1
      simp [kval, kval1, Instr.sameNow, eqK]
    | array n e =>
      simp only at hk
      cases he : P.underlying e with
      | none => simp [he] at hk
      | some de =>
        rw [he] at hk
        cases de with
        | int q =>
          simp only at hk
          split at hk
          · rename_i hz
            cases hk
            cases x with
            | agg xs =>
              simp only [keyV, Bool.and_eq_true, decide_eq_true_eq] at hx
              have ask := findAsking_ok (P := P) (w := w) (k := k) (x := .agg xs) es L 0 hL fun p hp => by
                have h1 := hes p hp
                generalize p.1 = y at h1
                cases y with
                | agg ys =>
                  simp only [keyV, Bool.and_eq_true, decide_eq_true_eq] at h1
                  exact equal_arr 9998 hu he hz hx.2 h1.2 hx.1 h1.1
                | _ => simp [keyV] at h1
              have hnow : Instr.findNow (.array n e) (kval (.agg xs)) L 0 = none ∨ L = [] := by
                cases L with
                | nil => exact .inr rfl
                | cons e0 L =>
                  left
                  simp only [Instr.findNow]
                  have : Instr.sameNow (.array n e) (kval (.agg xs)) e0.key = none := by simp [kval, Instr.sameNow]
                  rw [this]
              rcases hnow with h | h
              · rw [h]; exact ask
              · subst h
                have : es = [] := by simpa using hL.symm
                subst this
                simp [Instr.findNow, findK, fr]
            | _ => cases hx
          · cases hk
        | _ => cases hk
    | _ => cases hk

theorem findK_get {x : V} : ∀ {es : List (V × V)} {j : Nat} {v : V}, findK x es = some (j, v) → ∃ k', es[j]? = some (k', v) ∧ eqK x k' = true
  | [], j, v, h => by simp [findK] at h
  | e :: es, j, v, h => by
    simp only [findK] at h
    split at h
    · rename_i hq; cases h; exact ⟨e.1, rfl, hq⟩
    · simp only [Option.map_eq_some_iff] at h
      obtain ⟨⟨j', v'⟩, h1, h2⟩ := h
      cases h2
      obtain ⟨k', h3, h4⟩ := findK_get h1
      exact ⟨k', by simpa using h3, h4⟩

theorem bytes_eq {a b : ByteArray} (h : (a == b) = true) : a = b := by
  cases a; cases b
  have h' : (_ == _) = true := h
  congr 1
  exact eq_of_beq h'
theorem bytes_refl (a : ByteArray) : (a == a) = true := by
  cases a with | mk d => exact (beq_self_eq_true d : (d == d) = true)

theorem eqInts_eq {q : IntKind} : ∀ {xs ys : List V}, intsK q xs = true → intsK q ys = true → eqInts xs ys = true → xs = ys
  | [], [], _, _, _ => rfl
  | [], y :: ys, _, _, h => by simp [eqInts] at h
  | x :: xs, [], _, _, h => by cases x <;> simp [eqInts] at h
  | x :: xs, y :: ys, hx, hy, h => by
    cases x <;> simp only [intsK, Bool.false_eq_true] at hx
    cases y <;> simp only [intsK, Bool.false_eq_true] at hy
    simp only [Bool.and_eq_true, decide_eq_true_eq] at hx hy
    simp only [eqInts, Bool.and_eq_true, beq_iff_eq] at h
    rw [hx.1, hy.1, h.1, eqInts_eq hx.2 hy.2 h.2]
theorem eqK_eq {kt : KT} {x y : V} (hx : keyV kt x = true) (hy : keyV kt y = true) (h : eqK x y = true) : x = y := by
  cases kt <;> cases x <;> simp only [keyV, Bool.false_eq_true] at hx <;> cases y <;> simp only [keyV, Bool.false_eq_true] at hy <;> simp only [eqK] at h
  · simp_all
  · rw [bytes_eq h]
  · simp_all
  · simp only [Bool.and_eq_true, decide_eq_true_eq] at hx hy
    rw [eqInts_eq hx.2 hy.2 h]

theorem sameBits_ints {q : IntKind} (m : Nat) : ∀ {cs : List V}, intsK q cs = true → (((cs.map kval1).zip (cs.map kval1)).all fun (x, y) => Instr.sameBits m x y) = true
  | [], _ => rfl
  | x :: cs, h => by
    cases x <;> simp only [intsK, Bool.false_eq_true] at h
    simp only [Bool.and_eq_true] at h
    simp only [List.map_cons, List.zip_cons_cons, List.all_cons, Bool.and_eq_true]
    exact ⟨by simp [kval1, Instr.sameBits], sameBits_ints m h.2⟩
theorem stays_run {kt : KT} {x : V} (hx : keyV kt x = true) : (Instr.keyThatStays (kval x) (kval x)).run P w = .ok (kval x) w := by
  have : ∀ m, Instr.sameBits (m + 1) (kval x) (kval x) = true := by
    intro m
    cases kt <;> cases x <;> simp only [keyV, Bool.false_eq_true] at hx
    · simp [kval, kval1, Instr.sameBits]
    · simp only [kval, kval1, Instr.sameBits]; exact bytes_refl _
    · simp [kval, kval1, Instr.sameBits]
    · simp only [Bool.and_eq_true] at hx
      simp only [kval, Instr.sameBits, Bool.and_eq_true]
      exact ⟨by simp, sameBits_ints m hx.2⟩
  have h := this 9999
  unfold Instr.keyThatStays
  rw [show (10000 : Nat) = 9999 + 1 from rfl, h]
  simp

theorem entries_keys {kt : KT} {ents : Array MapEntry} {es : List (V × V)} (hl : ents.size = es.length) (hes : es.all (fun e => keyV kt e.1) = true)
    (h : ∀ (j : Nat) (e : MapEntry) (p : V × V), ents[j]? = some e → es[j]? = some p → Rep g w e.key p.1 ∧ Rep g w e.val p.2) : ents.toList.map (·.key) = es.map (fun p => kval p.1) := by
  rw [List.all_eq_true] at hes
  apply List.ext_getElem
  · simp [hl]
  · intro j h1 h2
    have hj1 : j < ents.size := by simpa using h1
    have hj2 : j < es.length := by simpa using h2
    simp only [List.getElem_map, Array.getElem_toList]
    exact rep_key (h j _ _ (Array.getElem?_eq_getElem hj1) (List.getElem?_eq_getElem hj2)).1 (hes _ (List.getElem_mem hj2))

theorem mapObj (hs : SimG E g σ a w) {key : Key} {es : List (V × V)} (hk : σ.H key = some (.map es)) {b cap : Nat} (hb : g.ref key 0 = some (some b, cap)) :
    cap = 0 ∧ OwnB E.B E.F key b ∧ b < w.heap.size ∧ ¬ g.imm b ∧ MapOk g w es b ∧ ∀ m, 0 < m → g.ref key m = none := by
  obtain ⟨b', h1, h2, h3, h4, h5, h6⟩ := hs.obj key _ hk
  rw [hb] at h1; cases h1
  exact ⟨rfl, h3, h4, h5, h6, h2⟩

theorem im_inv {v : Value} {es : List (V × V)} (h : Rep g w v (.im es)) : ∃ b, v = .map (some b) ∧ MapOk g w es b := by
  cases h with
  | imm _ _ h =>
    cases h with
    | im b clock ents _ h1 h2 h3 h4 h5 => exact ⟨b, rfl, ents, clock, h2, h3, fun j e p he hp => ⟨.imm _ _ (h4 j e p he hp), .imm _ _ (h5 j e p he hp)⟩⟩

theorem mlk_obj {t k e : TypeId} {kt : KT} {ok : Bool} {z I : V} {vi : Value} {es : List (V × V)} {b : Nat} (ht : P.underlying t = some (.map k e)) (hkt : ktOf P k = some kt) (hz : zeroT P e = some z) (hm : MapOk g w es b) (hi : Rep g w vi I) :
    LRes.pureOk P g w (Instr.lookup t (.map (some b)) vi ok) (.A (keyV kt I = true ∧ es.all (fun e => keyV kt e.1) = true) (lkV ok z (findK I es))) := by
        intro ⟨p1, p2⟩
        obtain ⟨ents, clock, m1, m2, m3⟩ := hm
        have hki := rep_key hi p1
        subst hki
        obtain ⟨zv, hzv, rfl⟩ := zeroT_run (w := w) hz
        have hf := findKey_ok (P := P) (w := w) hkt p1 p2 (entries_keys m2 p2 m3)
        cases hfk : findK I es with
        | none =>
          rw [hfk] at hf
          refine ⟨if ok then .tuple #[zv, .bool false] else zv, ?_, ?_⟩
          · simp only [Instr.lookup, Sem.run_bind, run_underlying ht, Result.andThen_ok, MapKept.run_getObj_map m1, Sem.run_pure, check_run hkt p1, hf, fr, hzv]
          · cases ok
            · exact .imm _ _ (repI_ofVal _)
            · refine .tup _ _ rfl fun j u c hu hc => ?_
              match j with
              | 0 => simp at hu hc; subst hu hc; exact .imm _ _ (repI_ofVal _)
              | 1 => simp at hu hc; subst hu hc; exact rbool _
              | j + 2 => simp at hu
        | some q =>
          obtain ⟨j, vv⟩ := q
          rw [hfk] at hf
          obtain ⟨k', g1, g2⟩ := findK_get hfk
          have hj : j < ents.size := by rw [m2]; exact (List.getElem?_eq_some_iff.1 g1).1
          have hr := (m3 j _ _ (Array.getElem?_eq_getElem hj) g1).2
          have hval : ((ents.toList[j]?).map (·.val)).getD .nilIface = ents[j].val := by simp [hj]
          refine ⟨if ok then .tuple #[ents[j].val, .bool true] else ents[j].val, ?_, ?_⟩
          · simp only [Instr.lookup, Sem.run_bind, run_underlying ht, Result.andThen_ok, MapKept.run_getObj_map m1, Sem.run_pure, check_run hkt p1, hf, fr, hval]
          · cases ok
            · exact hr
            · refine .tup _ _ rfl fun j u c hu hc => ?_
              match j with
              | 0 => simp at hu hc; subst hu hc; exact hr
              | 1 => simp at hu hc; subst hu hc; exact rbool _
              | j + 2 => simp at hu

theorem mlk_pure (hs : SimG E g σ a w) {t k e : TypeId} {kt : KT} {ok : Bool} {z X I : V} {v vi : Value} (ht : P.underlying t = some (.map k e)) (hkt : ktOf P k = some kt) (hz : zeroT P e = some z) (hx : Rep g w v X) (hi : Rep g w vi I) :
    LRes.pureOk P g w (Instr.lookup t v vi ok) (lmlk σ.H kt ok z X I) := by
  cases X with
  | mm key =>
    obtain ⟨b, cap, hb, rfl⟩ := hx.mm_inv
    simp only [lmlk]
    cases hk : σ.H key with
    | none => trivial
    | some o =>
      cases o with
      | row => trivial
      | map es => exact mlk_obj ht hkt hz (mapObj hs hk hb).2.2.2.2.1 hi
  | im es =>
    obtain ⟨b, rfl, hm⟩ := im_inv hx
    exact mlk_obj ht hkt hz hm hi
  | _ => trivial

theorem isU8_inv {e : TypeId} (h : isU8 P e = true) : P.underlying e = some (.int .u8) := by
  unfold isU8 at h
  split at h
  · assumption
  · cases h

/-- The mark that a constant text's bytes get turns no cell. -/
theorem msb_ok (hs : SimG E g σ a w) {s : Nat} {t e : TypeId} {v : Value} {x : V} (ht : P.underlying t = some (.slice e)) (he : isU8 P e = true) (hx : Rep g w v x) :
    LRes.ok P E g σ a w s (do pure (.value (← convert t t v))) (lmsb σ.H x) := by
  have he' := isU8_inv he
  cases x with
  | msl key gen off n =>
    obtain ⟨c, A, blk, cap, rfl, q1, q2, q3, q4, q5⟩ := hx.msl_inv
    simp only [lmsb]
    cases hk : σ.H key with
    | none => trivial
    | some o =>
      cases o with
      | map => trivial
      | row g' esz cs =>
        intro ⟨e1, hn⟩
        subst e1
        obtain ⟨blk', cap', r1, r2, r3⟩ := hs.obj key _ hk
        rw [q1] at r1; cases r1
        cases blk with
        | none => have := q5 rfl; omega
        | some b =>
          have hA := q4 b rfl (by omega); subst hA
          obtain ⟨p1, p2, p3, us, T, fz, t1, t2, t3, t4, t5⟩ := r3
          have hsh : w.shape? b = some (T, us.size) := by simp [World.shape?, t1]
          have hw : w.freeze ⟨b, us.size, none⟩ 1 = { w with heap := w.heap.modify b fun
              | .cells c elem (lo, hi) => .cells c elem (if lo == hi then (us.size, us.size + 1) else (min lo us.size, max hi (us.size + 1)))
              | o => o } := by
            unfold World.freeze
            rw [if_neg (by decide)]
            rfl
          have hne : ∀ j, j ≠ b → (w.freeze ⟨b, us.size, none⟩ 1).heap[j]? = w.heap[j]? := by
            intro j hj
            rw [hw]
            simp only [Array.getElem?_modify]
            rw [if_neg (Ne.symm hj)]
          have hsz : (w.freeze ⟨b, us.size, none⟩ 1).heap.size = w.heap.size := by rw [hw]; simp
          have hat : ∃ fz', NoFz us.size fz' ∧ (w.freeze ⟨b, us.size, none⟩ 1).heap[b]? = some (.cells us T fz') := by
            obtain ⟨lo, hi⟩ := fz
            refine ⟨if lo == hi then (us.size, us.size + 1) else (min lo us.size, max hi (us.size + 1)), ?_, by rw [hw]; simp [Array.getElem?_modify, t1]⟩
            obtain ⟨z1, z2⟩ := t2
            simp only at z1 z2
            split
            · exact ⟨fun o ho => by simp only; omega, by simp only; omega⟩
            · rename_i hne2
              have hlt : lo < hi := by
                rcases Nat.lt_or_ge lo hi with h | h
                · exact h
                · exact absurd (by simp; omega) hne2
              have hge : us.size ≤ lo := by
                rcases Nat.lt_or_ge lo us.size with h | h
                · exact absurd ⟨Nat.le_refl lo, hlt⟩ (z1 lo h)
                · exact h
              exact ⟨fun o ho => by simp only; omega, by simp only; omega⟩
          obtain ⟨fz', hfz', hat⟩ := hat
          generalize hw' : w.freeze ⟨b, us.size, none⟩ 1 = w' at *
          have hos : w'.os = w.os ∧ w'.tape = w.tape ∧ w'.output = w.output ∧ w.drawn ≤ w'.drawn := by rw [hw]; exact ⟨rfl, rfl, rfl, Nat.le_refl _⟩
          have hrun : (convert t t (.slice (some ⟨b, off, none⟩) n c)).run P w = .ok (.slice (some ⟨b, off, none⟩) n c) w' := by
            simp [convert, run_underlying ht, run_underlying he', markStringish, hsh, hw']
          have hblk : blkOf g key (.row g' esz cs) = some b := by simp [blkOf, q1]
          have hset := hs.setObj (w' := w') hk (gen' := g') (esz' := esz) (cap' := cap) (cs' := cs) (blk' := some b) (Nat.le_refl _) (fun _ => q1)
            ⟨hos.1, hos.2.1, hos.2.2.1, by omega, fun j hj hf => hne j (by
              rintro rfl
              rcases p1 with h | h
              · omega
              · exact hf h.2), hos.2.2.2⟩ (fun j hj hb => hne j fun e => hb (by rw [hblk, e]))
            ⟨.inl hblk, by omega, us, T, fz', hat, hfz', t3, t4, fun j u x hu hx => (t5 j u x hu hx).mono (fun _ h => h) (fun b' hb' => hne b' fun e => p3 (by rw [← e]; exact hb')) (fun k m r h => by
              by_cases e : k = key ∧ m = g'
              · obtain ⟨rfl, rfl⟩ := e
                rw [Gh.set_same, ← q1]; exact h
              · rw [Gh.set_ne _ _ e]; exact h)⟩
          have hH : hupd σ.H key (.row g' esz cs) = σ.H := by
            funext k
            simp only [hupd]
            split
            · rename_i e; rw [e, hk]
            · rfl
          rw [hH] at hset
          refine ⟨_, w', _, by simp only [Sem.run_bind, hrun, Result.andThen_ok, Sem.run_pure], hset, .msl _ _ _ _ c _ (some b) cap (Gh.set_same _ _ _ _) q2 q3 q4 (fun h => by cases h)⟩
  | _ => trivial

theorem mset_ok (hs : SimG E g σ a w) {s : Nat} {t k e : TypeId} {kt : KT} {X I Y : V} {v vi vy : Value} (ht : P.underlying t = some (.map k e)) (hkt : ktOf P k = some kt) (hx : Rep g w v X) (hi : Rep g w vi I) (hy : Rep g w vy Y) :
    LRes.ok P E g σ a w s (do Instr.mapUpdate t v vi vy; pure .skip) (lmset σ.H kt X I Y) := by
  cases X with
  | mm key =>
    obtain ⟨b, cap, hb, rfl⟩ := hx.mm_inv
    simp only [lmset]
    cases hk : σ.H key with
    | none => trivial
    | some o =>
      cases o with
      | row => trivial
      | map es =>
        intro ⟨p1, p2⟩
        obtain ⟨rfl, q1, q2, q3, ⟨ents, clock, m1, m2, m3⟩, q4⟩ := mapObj hs hk hb
        have hki := rep_key hi p1
        subst hki
        have hf := findKey_ok (P := P) (w := w) hkt p1 p2 (entries_keys m2 p2 m3)
        have fin : ∀ (ents' : Array MapEntry) (clock' : Nat) (es' : List (V × V)), (Instr.mapUpdate t (.map (some b)) (kval I) vy).run P w = .ok () { w with heap := w.heap.setIfInBounds b (.map ents' clock') } → ents'.size = es'.length →
            (∀ (j : Nat) (e : MapEntry) (p : V × V), ents'[j]? = some e → es'[j]? = some p → Rep g w e.key p.1 ∧ Rep g w e.val p.2) → setK es I Y = es' →
            ∃ n w' g', (do Instr.mapUpdate t (.map (some b)) (kval I) vy; pure .skip : Sem Next).run P w = .ok n w' ∧ ((n = .skip ∧ V.junk = .junk) ∨ ∃ u, n = .value u ∧ Rep g' w' u .junk) ∧ SimG E g' ⟨σ.tm, hupd σ.H key (.map (setK es I Y)), σ.cnt⟩ a w' := by
          intro ents' clock' es' hrun hl' hr' he'
          have hheap : ∀ j, j ≠ b → ({ w with heap := w.heap.setIfInBounds b (.map ents' clock') } : World).heap[j]? = w.heap[j]? := fun j hj => by
            show (w.heap.setIfInBounds b _)[j]? = _
            rw [Array.getElem?_setIfInBounds_ne (Ne.symm hj)]
          have href : ∀ k n r, g.ref k n = some r → (g.set key 0 (some b, 0)).ref k n = some r := by
            intro k n r hh
            by_cases e : k = key ∧ n = 0
            · obtain ⟨rfl, rfl⟩ := e; rw [Gh.set_same, ← hb]; exact hh
            · rw [Gh.set_ne _ _ e]; exact hh
          refine ⟨.skip, { w with heap := w.heap.setIfInBounds b (.map ents' clock') }, _, by simp [hrun], .inl ⟨rfl, rfl⟩, hs.setAny hk (gen' := 0) (r' := (some b, 0)) href ?_ ?_ ?_ ?_⟩
          · refine ⟨rfl, rfl, rfl, by simp, fun j hj hf => hheap j ?_, Nat.le_refl _⟩
            rintro rfl
            rcases q1 with h | h
            · omega
            · exact hf h.2
          · intro j _ hne
            refine hheap j fun e => hne ?_
            simp [blkOf, hb, e]
          · intro hmono
            refine ⟨b, Gh.set_same _ _ _ _, fun m hm => ?_, q1, by simpa using q2, q3, ents', clock', ?_, ?_, ?_⟩
            · rw [Gh.set_ne]
              · exact q4 m hm
              · rintro ⟨_, rfl⟩; omega
            · show (w.heap.setIfInBounds b _)[b]? = _
              simp [q2]
            · rw [hl', he']
            · intro j e p h1 h2
              rw [he'] at h2
              obtain ⟨r1, r2⟩ := hr' j e p h1 h2
              exact ⟨hmono _ _ r1, hmono _ _ r2⟩
          · intro b' hb'
            left
            simp only [blkOf, Gh.set_same, Option.bind_some] at hb'
            simp [blkOf, hb, ← hb']
        cases hfk : findK I es with
        | none =>
          rw [hfk] at hf
          refine fin (ents.push ⟨kval I, vy, clock⟩) (clock + 1) (es ++ [(I, Y)]) ?_ (by simp [m2]) ?_ (by simp [setK, hfk])
          · simp [Instr.mapUpdate, run_underlying ht, MapKept.run_getObj_map m1, check_run hkt p1, hf, fr, MapKept.run_setObj_map _ m1, Result.andThen]
          · intro j e p h1 h2
            rw [Array.getElem?_push] at h1
            rw [List.getElem?_append] at h2
            split at h1
            · rename_i hj
              cases h1
              rw [if_neg (by omega)] at h2
              have e0 : j - es.length = 0 := by omega
              rw [e0] at h2
              simp at h2
              subst h2
              exact ⟨hi, hy⟩
            · rename_i hj
              have hj2 : j < ents.size := by
                rcases Nat.lt_or_ge j ents.size with h' | h'
                · exact h'
                · rw [Array.getElem?_eq_none h'] at h1; cases h1
              rw [if_pos (by omega)] at h2
              exact m3 j e p h1 h2
        | some q =>
          obtain ⟨j, vv⟩ := q
          rw [hfk] at hf
          obtain ⟨k', g1, g2⟩ := findK_get hfk
          have hjl : j < es.length := (List.getElem?_eq_some_iff.1 g1).1
          have hj : j < ents.size := by omega
          have hkk : I = k' := eqK_eq p1 (List.all_eq_true.1 p2 _ (List.mem_of_getElem? g1)) g2
          subst hkk
          have hkey : ents[j].key = kval I := rep_key (m3 j _ _ (Array.getElem?_eq_getElem hj) g1).1 p1
          refine fin (ents.modify j fun e => { e with key := kval I, val := vy }) clock (es.set j (I, Y)) ?_ (by simp [m2]) ?_ (by simp [setK, hfk])
          · simp [Instr.mapUpdate, run_underlying ht, MapKept.run_getObj_map m1, check_run hkt p1, hf, fr, hj, hkey, stays_run p1, MapKept.run_setObj_map _ m1, Result.andThen]
          · intro i e p h1 h2
            rw [Array.getElem?_modify] at h1
            rw [List.getElem?_set] at h2
            by_cases hij : j = i
            · subst hij
              rw [if_pos rfl] at h1 h2
              simp only [hj, hjl, if_true, Array.getElem?_eq_getElem, Option.map_some, Option.some.injEq] at h1 h2
              subst h1 h2
              exact ⟨hi, hy⟩
            · rw [if_neg hij] at h1 h2
              exact m3 i e p h1 h2
  | _ => trivial

theorem mkmap_ok (hs : SimG E g σ a w) {s : Nat} {t : TypeId} :
    LRes.ok P E g σ a w s (do pure (.value (← Instr.makeMap t none))) (.C True (.map []) .mm) := by
  intro _
  have hfr := (hs.fresh s (σ.cnt s) (Nat.le_refl _)).2
  have hb : BelowD w.heap.size w (w.alloc (.map #[] 0)) := (BelowD.refl _ _).alloc (Nat.le_refl _) _
  refine ⟨.map (some w.heap.size), w.alloc (.map #[] 0), _, by simp [Instr.makeMap], hs.newAny s (r0 := (some w.heap.size, 0)) (o0 := .map []) (.of (hb.mono hs.sizeB)) (fun b h => hb.block b h)
    ⟨w.heap.size, Gh.set_same _ _ _ _, fun m hm => ?_, .inl hs.sizeB, by simp, fun hm => by have := hs.immlt _ hm; omega, #[], 0, ?_, rfl, fun j e p h => by simp at h⟩ (fun b hbk k o hk hb' => ?_), .mm _ _ 0 (Gh.set_same _ _ _ _)⟩
  · rw [Gh.set_ne]
    · exact hfr m
    · rintro ⟨_, rfl⟩; omega
  · show (w.heap.push _)[w.heap.size]? = _
    simp
  · have := ((hs.obj k o hk).blk hb').1
    simp only [blkOf, Gh.set_same, Option.bind_some] at hbk
    cases hbk
    omega

theorem nilm_inv {v : Value} (h : Rep g w v .nilm) : v = .map none := by
  cases h with | imm _ _ h => cases h; rfl

theorem mlen_pure (hs : SimG E g σ a w) {ts : Array TypeId} {ty t k e : TypeId} {x : Operand} (h : ts[0]? = some t) (hu : P.underlying t = some (.map k e)) (hx : Rep g w (a.eval x) ((rdOf x).get σ.tm)) :
    LRes.pureOk P g w (Builtin.len_ ts ty (#[x].map a.eval)) (lmlen σ.H ((rdOf x).get σ.tm)) := by
  generalize (rdOf x).get σ.tm = X at hx
  cases X with
  | mm key =>
    obtain ⟨b, cap, hb, hv⟩ := hx.mm_inv
    simp only [lmlen]
    cases hk : σ.H key with
    | none => trivial
    | some o =>
      cases o with
      | row => trivial
      | map es =>
        intro _
        obtain ⟨_, _, _, _, ⟨ents, clock, m1, m2, m3⟩, _⟩ := mapObj hs hk hb
        exact ⟨_, by simp [Builtin.len_, h, run_underlying hu, hv, goInt, MapKept.run_getObj_map m1, Result.andThen, m2], rint _ _⟩
  | nilm =>
    have hv := nilm_inv hx
    intro _
    exact ⟨_, by simp [Builtin.len_, h, run_underlying hu, hv, goInt], rint _ _⟩
  | im es =>
    obtain ⟨b, hv, ents, clock, m1, m2, m3⟩ := im_inv hx
    intro _
    exact ⟨_, by simp [Builtin.len_, h, run_underlying hu, hv, goInt, MapKept.run_getObj_map m1, Result.andThen, m2], rint _ _⟩
  | _ => trivial

theorem s2b_ok (hs : SimG E g σ a w) {s : Nat} {src dst e : TypeId} {v : Value} {x : V} (h1 : P.underlying src = some .string) (h2 : P.underlying dst = some (.slice e)) (he : isU8 P e = true) (hx : Rep g w v x) :
    LRes.ok P E g σ a w s (do pure (.value (← convert src dst v))) (ls2b x) := by
  cases x with
  | str t =>
    have := hx.str_inv; subst this
    intro _
    have he' := isU8_inv he
    have hge := grownCap_ge w t.size 0 e
    have hbel : BelowD w.heap.size w (Lib.bytesWorld w e t) := ⟨⟨rfl, rfl, rfl, by rw [Lib.bytesWorld_size]; omega, fun j hj => Lib.bytesWorld_at_old w e t j hj⟩, by show w.drawn ≤ _; unfold Lib.bytesWorld World.freeze; rw [if_neg (by decide)]; exact Nat.le_succ _⟩
    have hsz : (Lib.bytesCells w e t).size = grownCap w t.size 0 e := by
      simp only [Lib.bytesCells, Array.size_append, Array.size_map, Array.size_replicate]
      have : t.data.size = t.size := rfl
      omega
    refine ⟨.slice (some ⟨w.heap.size, 0, none⟩) t.size (grownCap w t.size 0 e), _, _, by simp only [Sem.run_bind, Lib.run_convert_string_bytes w src dst e t h1 h2 he', Result.andThen_ok, Sem.run_pure], hs.newObj s (esz := 1) (cap := grownCap w t.size 0 e) (cs := t.data.toList.map fun b => .int .u8 b.toNat) (blk := some w.heap.size) hbel
      ⟨Nat.le_refl _, by rw [Lib.bytesWorld_size]; omega, _, _, _, Lib.bytesWorld_at_new w e t, ⟨fun o ho => by simp only; omega, by simp only; omega⟩, ?_, by omega, fun j u c hu hc => ?_⟩,
      .msl _ _ _ _ (grownCap w t.size 0 e) _ (some w.heap.size) _ (Gh.set_same _ _ _ _) (fun _ => rfl) hge (fun b hb _ => by cases hb; rfl) (fun h => by cases h)⟩
    · rw [hsz, List.length_map, Array.length_toList]; exact hge
    · simp only [List.getElem?_map, Array.getElem?_toList, Option.map_eq_some_iff] at hc
      obtain ⟨y, hy, rfl⟩ := hc
      have hjl : j < t.data.size := (Array.getElem?_eq_some_iff.1 hy).1
      rw [Lib.bytesCells, Array.getElem?_append_left (by simpa using hjl), Array.getElem?_map, hy] at hu
      simp at hu
      subst hu
      exact rint _ _
  | _ => trivial

theorem strOf_fold : ∀ {cs : List V} {q : IntKind}, intsK q cs = true → ∀ (r : ByteArray), ∃ ns : List Int, cs.map kval1 = ns.map (Value.int q) ∧
    cs.foldl strStep r = ns.foldl (fun r n => r.push (UInt8.ofNat n.toNat)) r
  | [], q, _, r => ⟨[], rfl, rfl⟩
  | x :: cs, q, h, r => by
    cases x <;> simp only [intsK, Bool.false_eq_true] at h
    rename_i q' n
    simp only [Bool.and_eq_true, decide_eq_true_eq] at h
    obtain ⟨rfl, h⟩ := h
    obtain ⟨ns, h1, h2⟩ := strOf_fold h (r.push (UInt8.ofNat n.toNat))
    exact ⟨n :: ns, by simp [kval1, h1], by simp [strStep, h2]⟩

theorem b2s_pure (hs : SimG E g σ a w) {src dst e : TypeId} {v : Value} {x : V} (h1 : P.underlying src = some (.slice e)) (h2 : P.underlying dst = some .string) (he : isU8 P e = true) (hx : Rep g w v x) :
    LRes.pureOk P g w (convert src dst v) (lb2s σ.H x) := by
  simp only [lb2s]
  cases hsrc : srcOf σ.H 1 x with
  | none => trivial
  | some srcv =>
    obtain ⟨m, ys⟩ := srcv
    intro ⟨hsl, hk⟩
    dsimp only at hk
    have he' := isU8_inv he
    obtain ⟨hlen, arr, hfc, harr, hys, hrep⟩ := src_run (w1 := w) hs hsrc hx rfl
    have harr' := rep_ints hk (by simpa using harr) hrep
    obtain ⟨ns, e1, e2⟩ := strOf_fold hk ByteArray.empty
    have hv : ∃ A n c, v = .slice A n c := by
      cases x <;> simp only [isSlV, Bool.false_eq_true] at hsl
      · obtain ⟨A, c, rfl, _⟩ := hx.sl_inv; exact ⟨_, _, _, rfl⟩
      · obtain ⟨A, rfl⟩ := hx.e0_inv; exact ⟨_, _, _, rfl⟩
      · obtain ⟨c, A, blk, cap, rfl, _⟩ := hx.msl_inv; exact ⟨_, _, _, rfl⟩
    obtain ⟨A, n, c, rfl⟩ := hv
    have hn : n = m := by
      have := hlen w
      simpa [Builtin.lenOf] using this
    subst hn
    refine ⟨.string (strOf ys), ?_, rstr _⟩
    cases A with
    | none =>
      have : arr = #[] := by simpa [Builtin.firstCells] using hfc.symm
      subst this
      have hy0 : ys = [] := List.eq_nil_of_length_eq_zero (by simpa using harr.symm)
      subst hy0
      simp [convert, run_underlying h1, run_underlying h2, run_underlying he', Conv.bytesToString, strOf]
    | some ad =>
      have hld : (loadCells ad n).run P w = .ok ((ns.map (Value.int .u8)).toArray) w := by
        have := hfc
        simp only [Builtin.firstCells, Nat.mul_one] at this
        rw [this, harr', e1]
      have := run_bytesToString (P := P) w ad n c ns hld
      simp only [convert, Sem.run_bind, run_underlying h1, run_underlying h2, Result.andThen_ok, run_underlying he', this]
      simp only [strOf]
      rw [e2]

theorem arrIT_inv {t : TypeId} {n : Nat} {q : IntKind} (h : arrIT P t = some (n, q)) : ∃ e, P.underlying t = some (.array n e) ∧ P.underlying e = some (.int q) ∧ szT P e = some 1 ∧ P.eqGuardType P.depth t = false := by
  unfold arrIT at h
  split at h
  · rename_i n e hu
    split at h
    · rename_i q he
      split at h
      · rename_i h1
        cases h
        exact ⟨e, hu, he, h1.1, h1.2⟩
      · cases h
    · cases h
  · cases h

theorem leqa_sound {neg : Bool} {t : TypeId} {n : Nat} {q : IntKind} {x y : Operand} {vx vy : Value} {X Y : V} (hx : Rep g w vx X) (hy : Rep g w vy Y) (ha : arrIT P t = some (n, q)) :
    LRes.pureOk P g w (do eqGuard (if neg then .neq else .eql) t x y vx vy; binOp (if neg then .neq else .eql) t vx vy) (leqa n q neg X Y) := by
  obtain ⟨e, ht, he, hz, hg⟩ := arrIT_inv ha
  cases X with
  | agg xs =>
    cases Y with
    | agg ys =>
      intro ⟨h1, h2⟩
      have e1 := rep_key hx h1
      have e2 := rep_key hy h2
      simp only [keyV, Bool.and_eq_true, decide_eq_true_eq] at h1 h2
      have heq : (Op.equal t (kval (.agg xs)) (kval (.agg ys))).run P w = .ok (eqInts xs ys) w := equal_arr 9998 ht he hz h1.2 h2.2 h1.1 h2.1
      subst e1 e2
      refine eq_fin (r := eqInts xs ys) ?_ ?_ rfl
      · simp only [kval]
        cases neg <;> simp [eqGuard, hg]
      · simp only [kval] at heq ⊢
        cases neg <;> simp [binOp, heq]
    | _ => trivial
  | _ => trivial
end
end Go.Lg
