/-
  Texts LiveD, LiveE of this claim, put together.
-/
import Derived.Test.YtobhpkagbmadlaaGG
/-
  Lists of numbers that rise; what points use, by the document; a search to and fro until nothing turns. Plain laws.
-/
set_option linter.unusedSimpArgs false
set_option linter.unusedVariables false
namespace Go.Lg
open Go

theorem sortI_rise (l : List Int) : (sortI l).Pairwise (· ≤ ·) := by
  have := List.pairwise_mergeSort (le := fun x y : Int => decide (x ≤ y)) (fun a b c h1 h2 => by simp at *; omega) (fun a b => by simp; omega) l
  exact this.imp fun h => by simpa using h
/-! The document's search: to and fro until nothing turns. -/
def okAt (m : Mir) (T : Nat → Nat → Bool) (i v : Nat) : Prop := ∀ k ∈ nx m i, T k v = true → T i v = true ∨ sc m i = ((v : Int), true)
structure LP (m : Mir) (T : Nat → Nat → Bool) : Prop where
  s : ∀ i v, T i v = true → Liv m i (v : Int)
  u : ∀ (j : Nat) (h : j < m.code.length), ∀ v ∈ usesL m.code[j], T j v.toNat = true
theorem LP.put {m : Mir} {T T' : Nat → Nat → Bool} (h : LP m T) {i k v : Nat} (hi : i < m.code.length) (hk : k ∈ nx m i) (hT : T k v = true) (hs : sc m i ≠ ((v : Int), true)) (e : ∀ j u, T' j u = if j = i ∧ u = v then true else T j u) : LP m T' := by
  have up : ∀ j u, T j u = true → T' j u = true := fun j u h => by rw [e]; split <;> simp_all
  refine ⟨fun j u hu => ?_, fun j hj u hu => up _ _ (h.u j hj u hu)⟩
  rw [e] at hu
  split at hu
  · rename_i h0; obtain ⟨rfl, rfl⟩ := h0
    exact .step hi hk (by rw [← sc_at hi]; exact hs) (h.s k u hT)
  · exact h.s j u hu
theorem LP.fin {m : Mir} {T : Nat → Nat → Bool} (h : LP m T) {v : Nat} (hok : ∀ i, i < m.code.length → okAt m T i v) (i : Nat) : T i v = true ↔ Liv m i (v : Int) := by
  refine ⟨h.s i v, fun hl => ?_⟩
  generalize hv : (v : Int) = z at hl
  induction hl with
  | use hi hu => subst hv; have := h.u _ hi _ hu; rwa [Int.toNat_natCast] at this
  | step hi hk hs _ ih =>
    rcases hok _ hi _ hk (ih hv) with h1 | h1
    · exact h1
    · rw [sc_at hi, hv] at h1; exact absurd h1 hs
end Go.Lg

/-
  The document's search: uses are put in, then to and fro until nothing turns. Plain laws.
-/
set_option linter.unusedSimpArgs false
set_option linter.unusedVariables false
namespace Go.Lg
open Go

/-- While the uses are put in: ahead of instruction i's k-th. -/
structure LQ (m : Mir) (i k : Nat) (T : Nat → Nat → Bool) : Prop where
  t : ∀ j v, T j v = true → ∃ h : j < m.code.length, (v : Int) ∈ usesL m.code[j]
  u : ∀ (j : Nat) (h : j < m.code.length), j < i → ∀ v ∈ usesL m.code[j], T j v.toNat = true
  uk : ∀ (h : i < m.code.length), ∀ v ∈ (usesL m.code[i]).take k, T i v.toNat = true
theorem LQ.start (m : Mir) {T : Nat → Nat → Bool} (hT : ∀ j u, T j u = false) : LQ m 0 0 T :=
  ⟨fun j v h => (by rw [hT] at h; cases h), fun _ _ h => (by omega), fun _ v h => (by simp at h)⟩
theorem LQ.congr {m : Mir} {i k : Nat} {T T' : Nat → Nat → Bool} (h : LQ m i k T) (e : ∀ j u, T' j u = T j u) : LQ m i k T' := by
  have : T' = T := by funext j u; exact e j u
  rw [this]; exact h
theorem LQ.put {m : Mir} {i k : Nat} {T T' : Nat → Nat → Bool} (h : LQ m i k T) (hi : i < m.code.length) (hk : k < (usesL m.code[i]).length) {v : Nat} (hv : (usesL m.code[i])[k] = (v : Int))
    (e : ∀ j u, T' j u = if j = i ∧ u = v then true else T j u) : LQ m i (k + 1) T' := by
  have up : ∀ j u, T j u = true → T' j u = true := fun j u h => by rw [e]; split <;> simp_all
  have dn : ∀ j u, T' j u = true → (j = i ∧ u = v) ∨ T j u = true := fun j u h => by rw [e] at h; split at h <;> simp_all
  refine ⟨fun j u hu => ?_, fun j hj hji w hw => up _ _ (h.u j hj hji w hw), fun _ w hw => ?_⟩
  · rcases dn j u hu with ⟨rfl, rfl⟩ | hu
    · exact ⟨hi, by rw [← hv]; exact List.getElem_mem hk⟩
    · exact h.t j u hu
  · rw [List.take_succ_eq_append_getElem hk, List.mem_append, List.mem_singleton, hv] at hw
    rcases hw with hw | rfl
    · exact up _ _ (h.uk hi w hw)
    · rw [e, Int.toNat_natCast, if_pos ⟨rfl, rfl⟩]
theorem LQ.next {m : Mir} {i k : Nat} {T : Nat → Nat → Bool} (h : LQ m i k T) (hi : i < m.code.length) (hk : (usesL m.code[i]).length ≤ k) : LQ m (i + 1) 0 T :=
  ⟨h.t, fun j hj hji v hv => (by
    by_cases e : j = i
    · subst e; exact h.uk hj v (by rw [List.take_of_length_le hk]; exact hv)
    · exact h.u j hj (by omega) v hv), fun _ v hv => (by simp at hv)⟩
theorem LQ.fin {m : Mir} {i k : Nat} {T : Nat → Nat → Bool} (h : LQ m i k T) (hi : m.code.length ≤ i) : LP m T :=
  ⟨fun i v hv => (by obtain ⟨hj, hu⟩ := h.t i v hv; exact .use hj hu), fun j hj v hv => h.u j hj (by omega) v hv⟩

def ok3 (m : Mir) (T : Nat → Nat → Bool) (j a v : Nat) : Prop :=
  ∀ (hj : j < m.code.length) (ha : a < m.code[j].next.length), v < m.locals.length → T (m.code[j].next[a]).toNat v = true → T j v = true ∨ sc m j = ((v : Int), true)

/-- One pass: what was looked at, and whether something turned. -/
structure LZ (m : Mir) (R0 R : List (List Bool)) (ag : Bool) (P : Nat → Nat → Nat → Prop) : Prop where
  n : R.length = m.code.length
  r : ∀ (j : Nat) (h : j < R.length), R[j].length = m.locals.length
  p : LP m (tget R)
  f : fl R ≤ fl R0
  a : ag = true → fl R < fl R0
  o : ag = false → R = R0 ∧ ∀ j a v, P j a v → ok3 m (tget R0) j a v

theorem LZ.start {m : Mir} {R : List (List Bool)} (hn : R.length = m.code.length) (hr : ∀ (j : Nat) (h : j < R.length), R[j].length = m.locals.length) (hp : LP m (tget R)) {P : Nat → Nat → Nat → Prop} (hP : ∀ j a v, P j a v → m.code.length ≤ j) : LZ m R R false P :=
  ⟨hn, hr, hp, Nat.le_refl _, fun h => (by cases h), fun _ => ⟨rfl, fun j a v h hj => (by have := hP j a v h; omega)⟩⟩
theorem LZ.imp {m : Mir} {R0 R : List (List Bool)} {ag : Bool} {P P' : Nat → Nat → Nat → Prop} (h : LZ m R0 R ag P) (e : ∀ (j a v : Nat), P' j a v → ∀ hj : j < m.code.length, a < m.code[j].next.length → v < m.locals.length → P j a v) : LZ m R0 R ag P' :=
  ⟨h.n, h.r, h.p, h.f, h.a, fun hf => ⟨(h.o hf).1, fun j a v hp hj ha hv => (h.o hf).2 j a v (e j a v hp hj ha hv) hj ha hv⟩⟩
theorem LZ.skip {m : Mir} {R0 R : List (List Bool)} {ag : Bool} {P P' : Nat → Nat → Nat → Prop} (h : LZ m R0 R ag P) {i k u : Nat} (hok : ok3 m (tget R) i k u) (e : ∀ (j a v : Nat), P' j a v → P j a v ∨ (j = i ∧ a = k ∧ v = u)) : LZ m R0 R ag P' :=
  ⟨h.n, h.r, h.p, h.f, h.a, fun hf => ⟨(h.o hf).1, fun j a v hp => (by
    rcases e j a v hp with h1 | ⟨rfl, rfl, rfl⟩
    · exact (h.o hf).2 j a v h1
    · rw [← (h.o hf).1]; exact hok)⟩⟩
theorem nx_at {m : Mir} {i : Nat} (hi : i < m.code.length) : nx m i = m.code[i].next.map Int.toNat := by simp [nx, hi]
theorem LZ.put {m : Mir} {R0 R : List (List Bool)} {ag : Bool} {P P' : Nat → Nat → Nat → Prop} (h : LZ m R0 R ag P) {i k u : Nat} (hi : i < m.code.length) (hk : k < m.code[i].next.length) (hiR : i < R.length) (hu : u < R[i].length)
    (hT : tget R (m.code[i].next[k]).toNat u = true) (hF : R[i][u] = false) (hs : sc m i ≠ ((u : Int), true)) : LZ m R0 (R.set i (R[i].set u true)) true P' := by
  have hfl := fl_set hiR hu hF
  have hf := h.f
  refine ⟨by rw [List.length_set]; exact h.n, fun j hj => ?_, h.p.put hi (k := (m.code[i].next[k]).toNat) (v := u) ?_ hT hs (fun j u => tget_set hiR hu j u), by omega, fun _ => by omega, fun h => (by cases h)⟩
  · simp only [List.getElem_set]
    split
    · rename_i e; subst e; rw [List.length_set]; exact h.r _ hiR
    · exact h.r j (by simpa using hj)
  · rw [nx_at hi]; exact List.mem_map_of_mem (List.getElem_mem hk)
theorem LZ.fin {m : Mir} {R0 R : List (List Bool)} {P : Nat → Nat → Nat → Prop} (h : LZ m R0 R false P) (hP : ∀ j a v, P j a v) (i v : Nat) (hv : v < m.locals.length) : okAt m (tget R) i v := by
  intro k hk hT
  by_cases hi : i < m.code.length
  · rw [nx_at hi] at hk
    obtain ⟨y, hy, rfl⟩ := List.mem_map.1 hk
    obtain ⟨a, ha, rfl⟩ := List.mem_iff_getElem.1 hy
    obtain ⟨e, h3⟩ := h.o rfl
    rw [← e] at h3
    exact h3 i a v (hP i a v) hi ha hv hT
  · simp [nx, hi] at hk
end Go.Lg
