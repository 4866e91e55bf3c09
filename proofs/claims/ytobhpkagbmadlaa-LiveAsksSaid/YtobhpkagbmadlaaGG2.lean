/-
  Texts LiveD, LiveE of this claim, put together.
-/
import Derived.Test.YtobhpkagbmadlaaGG
/-
  Lists of numbers that rise; what points use, by the document; a search to and fro until nothing turns. Plain laws.
-/
set_option linter.unusedSimpArgs false
set_option linter.unusedVariables false
namespace Go.Lg
open Go

theorem rise_eq : ∀ {a b : List Int}, a.Pairwise (· < ·) → b.Pairwise (· < ·) → (∀ x, x ∈ a ↔ x ∈ b) → a = b
  | [], [], _, _, _ => rfl
  | [], y :: b, _, _, h => by have := (h y).2 (List.mem_cons_self ..); cases this
  | x :: a, [], _, _, h => by have := (h x).1 (List.mem_cons_self ..); cases this
  | x :: a, y :: b, ha, hb, h => by
    obtain ⟨ha1, ha2⟩ := List.pairwise_cons.1 ha
    obtain ⟨hb1, hb2⟩ := List.pairwise_cons.1 hb
    have hxy : x = y := by
      have h1 := (h x).1 (List.mem_cons_self ..)
      have h2 := (h y).2 (List.mem_cons_self ..)
      rcases List.mem_cons.1 h1 with e | h1
      · exact e
      · rcases List.mem_cons.1 h2 with e | h2
        · exact e.symm
        · have := ha1 _ h2
          have := hb1 _ h1
          omega
    subst hxy
    congr 1
    refine rise_eq ha2 hb2 fun z => ?_
    have hz := h z
    simp only [List.mem_cons] at hz
    constructor
    · intro hm
      have := ha1 z hm
      rcases hz.1 (.inr hm) with e | hm'
      · omega
      · exact hm'
    · intro hm
      have := hb1 z hm
      rcases hz.2 (.inr hm) with e | hm'
      · omega
      · exact hm'

theorem compact_rise {l : List Int} (h : l.Pairwise (· ≤ ·)) : (Lib.compact l).Pairwise (· < ·) := by
  unfold Lib.compact Lib.compactUpTo
  rw [List.pairwise_map]
  refine List.Pairwise.imp_of_mem ?_ ((List.pairwise_lt_range (n := l.length)).filter (Lib.keeps l.toArray))
  intro a b ha hb hab
  simp only [List.mem_filter, List.mem_range] at ha hb
  obtain ⟨hal, _⟩ := ha
  obtain ⟨hbl, hk⟩ := hb
  simp only [Lib.keeps, decide_eq_true_eq] at hk
  have hne : l[b] ≠ l[b - 1] := by
    rcases hk with h0 | h0
    · omega
    · rw [getElem!_pos _ b (by simpa using hbl), getElem!_pos _ (b - 1) (by simp; omega)] at h0
      simpa using h0
  rw [getElem!_pos _ a (by simpa using hal), getElem!_pos _ b (by simpa using hbl)]
  simp only [List.getElem_toArray]
  have hp := List.pairwise_iff_getElem.1 h
  have h1 : l[a] ≤ l[b - 1] := by
    rcases Nat.lt_or_ge a (b - 1) with h' | h'
    · exact hp a (b - 1) hal (by omega) h'
    · have e : a = b - 1 := by omega
      subst e; exact Int.le_refl _
  have h2 : l[b - 1] ≤ l[b] := hp (b - 1) b (by omega) hbl (by omega)
  omega

theorem sortI_rise (l : List Int) : (sortI l).Pairwise (· ≤ ·) := by
  have := List.pairwise_mergeSort (le := fun x y : Int => decide (x ≤ y)) (fun a b c h1 h2 => by simp at *; omega) (fun a b => by simp; omega) l
  exact this.imp fun h => by simpa using h
theorem usesL_rise (x : MInst) : (usesL x).Pairwise (· < ·) := compact_rise (sortI_rise _)

/-- A number put where it belongs. -/
def putAt (O : List Int) (k : Nat) (x : Int) : List Int := O.take k ++ x :: O.drop k
theorem putAt_len {O : List Int} {k : Nat} {x : Int} (h : k ≤ O.length) : (putAt O k x).length = O.length + 1 := by
  simp [putAt]; omega
theorem mem_putAt {O : List Int} {k : Nat} {x y : Int} : y ∈ putAt O k x ↔ y = x ∨ y ∈ O := by
  unfold putAt
  constructor
  · intro h
    rcases List.mem_append.1 h with h | h
    · exact .inr (List.mem_of_mem_take h)
    · rcases List.mem_cons.1 h with h | h
      · exact .inl h
      · exact .inr (List.mem_of_mem_drop h)
  · rintro (rfl | h)
    · exact List.mem_append_right _ (List.mem_cons_self ..)
    · rw [← List.take_append_drop k O] at h
      rcases List.mem_append.1 h with h | h
      · exact List.mem_append_left _ h
      · exact List.mem_append_right _ (List.mem_cons_of_mem _ h)
theorem putAt_rise {O : List Int} {k : Nat} {x : Int} (hO : O.Pairwise (· < ·)) (hlo : ∀ (j : Nat) (h : j < O.length), j < k → O[j] < x) (hhi : ∀ h : k < O.length, x < O[k]) : (putAt O k x).Pairwise (· < ·) := by
  have hp := List.pairwise_iff_getElem.1 hO
  have hd : ∀ y ∈ O.drop k, x < y := by
    intro y hy
    obtain ⟨j, hj, rfl⟩ := List.mem_iff_getElem.1 hy
    rw [List.length_drop] at hj
    rw [List.getElem_drop]
    have h0 := hhi (by omega)
    by_cases e : j = 0
    · subst e; exact h0
    · have := hp k (k + j) (by omega) (by omega) (by omega)
      omega
  have htk : ∀ y ∈ O.take k, y < x := by
    intro y hy
    obtain ⟨j, hj, rfl⟩ := List.mem_iff_getElem.1 hy
    rw [List.length_take] at hj
    rw [List.getElem_take]
    exact hlo j (by omega) (by omega)
  unfold putAt
  rw [List.pairwise_append]
  refine ⟨hO.sublist (List.take_sublist ..), List.pairwise_cons.2 ⟨hd, hO.sublist (List.drop_sublist ..)⟩, fun a ha b hb => ?_⟩
  have h1 := htk a ha
  rcases List.mem_cons.1 hb with rfl | hb
  · exact h1
  · have := hd b hb; omega

/-- What a point uses, by the document, in its order. -/
def refL (x : MInst) (ops : List MOper) : List Int :=
  if x.kind = 1 then (ops.flatMap operL) ++ ((if x.val.kind = 2 ∨ x.val.kind = 3 then [x.val.path.loc] else []) ++ (if x.has = true ∧ 0 < x.to.steps.length then [x.to.loc] else []))
  else if x.kind = 3 then [x.to.loc] else if x.kind = 4 then operL x.val.a else []

/-! The document's search: to and fro until nothing turns. -/
def okAt (m : Mir) (T : Nat → Nat → Bool) (i v : Nat) : Prop := ∀ k ∈ nx m i, T k v = true → T i v = true ∨ sc m i = ((v : Int), true)
structure LP (m : Mir) (T : Nat → Nat → Bool) : Prop where
  s : ∀ i v, T i v = true → Liv m i (v : Int)
  u : ∀ (j : Nat) (h : j < m.code.length), ∀ v ∈ usesL m.code[j], T j v.toNat = true
theorem LP.put {m : Mir} {T T' : Nat → Nat → Bool} (h : LP m T) {i k v : Nat} (hi : i < m.code.length) (hk : k ∈ nx m i) (hT : T k v = true) (hs : sc m i ≠ ((v : Int), true)) (e : ∀ j u, T' j u = if j = i ∧ u = v then true else T j u) : LP m T' := by
  have up : ∀ j u, T j u = true → T' j u = true := fun j u h => by rw [e]; split <;> simp_all
  refine ⟨fun j u hu => ?_, fun j hj u hu => up _ _ (h.u j hj u hu)⟩
  rw [e] at hu
  split at hu
  · rename_i h0; obtain ⟨rfl, rfl⟩ := h0
    exact .step hi hk (by rw [← sc_at hi]; exact hs) (h.s k u hT)
  · exact h.s j u hu
theorem LP.fin {m : Mir} {T : Nat → Nat → Bool} (h : LP m T) {v : Nat} (hok : ∀ i, i < m.code.length → okAt m T i v) (i : Nat) : T i v = true ↔ Liv m i (v : Int) := by
  refine ⟨h.s i v, fun hl => ?_⟩
  generalize hv : (v : Int) = z at hl
  induction hl with
  | use hi hu => subst hv; have := h.u _ hi _ hu; rwa [Int.toNat_natCast] at this
  | step hi hk hs _ ih =>
    rcases hok _ hi _ hk (ih hv) with h1 | h1
    · exact h1
    · rw [sc_at hi, hv] at h1; exact absurd h1 hs
end Go.Lg

/-
  The document's search: uses are put in, then to and fro until nothing turns. Plain laws.
-/
set_option linter.unusedSimpArgs false
set_option linter.unusedVariables false
namespace Go.Lg
open Go

/-- While the uses are put in: ahead of instruction i's k-th. -/
structure LQ (m : Mir) (i k : Nat) (T : Nat → Nat → Bool) : Prop where
  t : ∀ j v, T j v = true → ∃ h : j < m.code.length, (v : Int) ∈ usesL m.code[j]
  u : ∀ (j : Nat) (h : j < m.code.length), j < i → ∀ v ∈ usesL m.code[j], T j v.toNat = true
  uk : ∀ (h : i < m.code.length), ∀ v ∈ (usesL m.code[i]).take k, T i v.toNat = true
theorem LQ.start (m : Mir) {T : Nat → Nat → Bool} (hT : ∀ j u, T j u = false) : LQ m 0 0 T :=
  ⟨fun j v h => (by rw [hT] at h; cases h), fun _ _ h => (by omega), fun _ v h => (by simp at h)⟩
theorem LQ.congr {m : Mir} {i k : Nat} {T T' : Nat → Nat → Bool} (h : LQ m i k T) (e : ∀ j u, T' j u = T j u) : LQ m i k T' := by
  have : T' = T := by funext j u; exact e j u
  rw [this]; exact h
theorem LQ.put {m : Mir} {i k : Nat} {T T' : Nat → Nat → Bool} (h : LQ m i k T) (hi : i < m.code.length) (hk : k < (usesL m.code[i]).length) {v : Nat} (hv : (usesL m.code[i])[k] = (v : Int))
    (e : ∀ j u, T' j u = if j = i ∧ u = v then true else T j u) : LQ m i (k + 1) T' := by
  have up : ∀ j u, T j u = true → T' j u = true := fun j u h => by rw [e]; split <;> simp_all
  have dn : ∀ j u, T' j u = true → (j = i ∧ u = v) ∨ T j u = true := fun j u h => by rw [e] at h; split at h <;> simp_all
  refine ⟨fun j u hu => ?_, fun j hj hji w hw => up _ _ (h.u j hj hji w hw), fun _ w hw => ?_⟩
  · rcases dn j u hu with ⟨rfl, rfl⟩ | hu
    · exact ⟨hi, by rw [← hv]; exact List.getElem_mem hk⟩
    · exact h.t j u hu
  · rw [List.take_succ_eq_append_getElem hk, List.mem_append, List.mem_singleton, hv] at hw
    rcases hw with hw | rfl
    · exact up _ _ (h.uk hi w hw)
    · rw [e, Int.toNat_natCast, if_pos ⟨rfl, rfl⟩]
theorem LQ.next {m : Mir} {i k : Nat} {T : Nat → Nat → Bool} (h : LQ m i k T) (hi : i < m.code.length) (hk : (usesL m.code[i]).length ≤ k) : LQ m (i + 1) 0 T :=
  ⟨h.t, fun j hj hji v hv => (by
    by_cases e : j = i
    · subst e; exact h.uk hj v (by rw [List.take_of_length_le hk]; exact hv)
    · exact h.u j hj (by omega) v hv), fun _ v hv => (by simp at hv)⟩
theorem LQ.fin {m : Mir} {i k : Nat} {T : Nat → Nat → Bool} (h : LQ m i k T) (hi : m.code.length ≤ i) : LP m T :=
  ⟨fun i v hv => (by obtain ⟨hj, hu⟩ := h.t i v hv; exact .use hj hu), fun j hj v hv => h.u j hj (by omega) v hv⟩

def ok3 (m : Mir) (T : Nat → Nat → Bool) (j a v : Nat) : Prop :=
  ∀ (hj : j < m.code.length) (ha : a < m.code[j].next.length), v < m.locals.length → T (m.code[j].next[a]).toNat v = true → T j v = true ∨ sc m j = ((v : Int), true)

/-- One pass: what was looked at, and whether something turned. -/
structure LZ (m : Mir) (R0 R : List (List Bool)) (ag : Bool) (P : Nat → Nat → Nat → Prop) : Prop where
  n : R.length = m.code.length
  r : ∀ (j : Nat) (h : j < R.length), R[j].length = m.locals.length
  p : LP m (tget R)
  f : fl R ≤ fl R0
  a : ag = true → fl R < fl R0
  o : ag = false → R = R0 ∧ ∀ j a v, P j a v → ok3 m (tget R0) j a v

theorem LZ.start {m : Mir} {R : List (List Bool)} (hn : R.length = m.code.length) (hr : ∀ (j : Nat) (h : j < R.length), R[j].length = m.locals.length) (hp : LP m (tget R)) {P : Nat → Nat → Nat → Prop} (hP : ∀ j a v, P j a v → m.code.length ≤ j) : LZ m R R false P :=
  ⟨hn, hr, hp, Nat.le_refl _, fun h => (by cases h), fun _ => ⟨rfl, fun j a v h hj => (by have := hP j a v h; omega)⟩⟩
theorem LZ.imp {m : Mir} {R0 R : List (List Bool)} {ag : Bool} {P P' : Nat → Nat → Nat → Prop} (h : LZ m R0 R ag P) (e : ∀ (j a v : Nat), P' j a v → ∀ hj : j < m.code.length, a < m.code[j].next.length → v < m.locals.length → P j a v) : LZ m R0 R ag P' :=
  ⟨h.n, h.r, h.p, h.f, h.a, fun hf => ⟨(h.o hf).1, fun j a v hp hj ha hv => (h.o hf).2 j a v (e j a v hp hj ha hv) hj ha hv⟩⟩
theorem LZ.skip {m : Mir} {R0 R : List (List Bool)} {ag : Bool} {P P' : Nat → Nat → Nat → Prop} (h : LZ m R0 R ag P) {i k u : Nat} (hok : ok3 m (tget R) i k u) (e : ∀ (j a v : Nat), P' j a v → P j a v ∨ (j = i ∧ a = k ∧ v = u)) : LZ m R0 R ag P' :=
  ⟨h.n, h.r, h.p, h.f, h.a, fun hf => ⟨(h.o hf).1, fun j a v hp => (by
    rcases e j a v hp with h1 | ⟨rfl, rfl, rfl⟩
    · exact (h.o hf).2 j a v h1
    · rw [← (h.o hf).1]; exact hok)⟩⟩
theorem nx_at {m : Mir} {i : Nat} (hi : i < m.code.length) : nx m i = m.code[i].next.map Int.toNat := by simp [nx, hi]
theorem LZ.put {m : Mir} {R0 R : List (List Bool)} {ag : Bool} {P P' : Nat → Nat → Nat → Prop} (h : LZ m R0 R ag P) {i k u : Nat} (hi : i < m.code.length) (hk : k < m.code[i].next.length) (hiR : i < R.length) (hu : u < R[i].length)
    (hT : tget R (m.code[i].next[k]).toNat u = true) (hF : R[i][u] = false) (hs : sc m i ≠ ((u : Int), true)) : LZ m R0 (R.set i (R[i].set u true)) true P' := by
  have hfl := fl_set hiR hu hF
  have hf := h.f
  refine ⟨by rw [List.length_set]; exact h.n, fun j hj => ?_, h.p.put hi (k := (m.code[i].next[k]).toNat) (v := u) ?_ hT hs (fun j u => tget_set hiR hu j u), by omega, fun _ => by omega, fun h => (by cases h)⟩
  · simp only [List.getElem_set]
    split
    · rename_i e; subst e; rw [List.length_set]; exact h.r _ hiR
    · exact h.r j (by simpa using hj)
  · rw [nx_at hi]; exact List.mem_map_of_mem (List.getElem_mem hk)
theorem LZ.fin {m : Mir} {R0 R : List (List Bool)} {P : Nat → Nat → Nat → Prop} (h : LZ m R0 R false P) (hP : ∀ j a v, P j a v) (i v : Nat) (hv : v < m.locals.length) : okAt m (tget R) i v := by
  intro k hk hT
  by_cases hi : i < m.code.length
  · rw [nx_at hi] at hk
    obtain ⟨y, hy, rfl⟩ := List.mem_map.1 hk
    obtain ⟨a, ha, rfl⟩ := List.mem_iff_getElem.1 hy
    obtain ⟨e, h3⟩ := h.o rfl
    rw [← e] at h3
    exact h3 i a v (hP i a v) hi ha hv hT
  · simp [nx, hi] at hk
end Go.Lg
