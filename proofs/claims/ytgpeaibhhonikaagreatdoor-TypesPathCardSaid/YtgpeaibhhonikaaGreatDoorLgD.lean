/-
  How the states of the plain logic stand to worlds that grow, and to objects that turn.
-/
import Derived.Test.YtgpeaibhhonikaaGreatDoorLgC
set_option linter.unusedSimpArgs false
set_option linter.unusedVariables false
namespace Go.Lg
open Go Go.RowKit

def Gh.set (g : Gh) (key : Key) (gen : Nat) (r : Option Nat × Nat) : Gh := ⟨g.imm, fun k n => if k = key ∧ n = gen then some r else g.ref k n⟩

theorem Gh.set_same (g : Gh) (key gen r) : (g.set key gen r).ref key gen = some r := by simp [Gh.set]
theorem Gh.set_ne (g : Gh) {key k : Key} {gen n : Nat} (r) (h : ¬ (k = key ∧ n = gen)) : (g.set key gen r).ref k n = g.ref k n := by simp [Gh.set, h]

/-- What an object's block holds. -/
def BlkOk (g : Gh) (w : World) (esz cap : Nat) (cs : List V) (b : Nat) : Prop :=
  ∃ (us : Array Value) (T : TypeId) (fz : Nat × Nat), w.heap[b]? = some (.cells us T fz) ∧ NoFz us.size fz ∧
    cs.length ≤ us.size ∧ cap * esz ≤ us.size ∧ ∀ (j : Nat) (u : Value) (c : V), us[j]? = some u → cs[j]? = some c → Rep g w u c

theorem BlkOk.mono {g g' : Gh} {w w' : World} {esz cap cs b} (h : BlkOk g w esz cap cs b) (hb : w'.heap[b]? = w.heap[b]?)
    (hr : ∀ v x, Rep g w v x → Rep g' w' v x) : BlkOk g' w' esz cap cs b := by
  obtain ⟨us, T, fz, h1, h2, h3, h4, h5⟩ := h
  exact ⟨us, T, fz, hb.trans h1, h2, h3, h4, fun j u c hu hc => hr _ _ (h5 j u c hu hc)⟩

section
variable {P : Program} {g : Gh} {w w' : World} {E : Env} {σ : St} {a : Act}

theorem ObjRel.row_iff {B : Nat} {F : Nat → Prop} {key : Key} {gen esz : Nat} {cs : List V} : ObjRel B F w g key (.row gen esz cs) ↔
    ∃ blk cap, g.ref key gen = some (blk, cap) ∧ (∀ m, gen < m → g.ref key m = none) ∧
      match blk with | none => cs = [] ∧ cap = 0 | some b => OwnB B F key b ∧ b < w.heap.size ∧ ¬ g.imm b ∧ BlkOk g w esz cap cs b := Iff.rfl

theorem ObjRel.keep {B : Nat} {F : Nat → Prop} {g g' : Gh} {w w' : World} {k : Key} {o : LObj} (h : ObjRel B F w g k o) (hsz : w.heap.size ≤ w'.heap.size) (href : ∀ n r, g.ref k n = some r → g'.ref k n = some r)
    (hnone : ∀ m, g.ref k m = none → g'.ref k m = none) (himm : ∀ b, blkOf g k o = some b → g'.imm b → g.imm b) (hblk : ∀ b, blkOf g k o = some b → w'.heap[b]? = w.heap[b]?) (hrep : ∀ v x, Rep g w v x → Rep g' w' v x) : ObjRel B F w' g' k o := by
  cases o with
  | row gen esz cs =>
    obtain ⟨blk, cap, r1, r2, r3⟩ := h
    refine ⟨blk, cap, href _ _ r1, fun m hm => hnone m (r2 m hm), ?_⟩
    cases blk with
    | none => exact r3
    | some b =>
      have hb : blkOf g k (.row gen esz cs) = some b := by simp [blkOf, r1]
      obtain ⟨q1, q2, q3, q4⟩ := r3
      exact ⟨q1, Nat.lt_of_lt_of_le q2 hsz, fun hm => q3 (himm b hb hm), BlkOk.mono q4 (hblk b hb) hrep⟩
  | map es =>
    obtain ⟨b, r1, r2, q1, q2, q3, q4⟩ := h
    have hb : blkOf g k (.map es) = some b := by simp [blkOf, r1]
    exact ⟨b, href _ _ r1, fun m hm => hnone m (r2 m hm), q1, Nat.lt_of_lt_of_le q2 hsz, fun hm => q3 (himm b hb hm), q4.mono (hblk b hb) hrep⟩
theorem ObjRel.blk {B : Nat} {F : Nat → Prop} {g : Gh} {w : World} {k : Key} {o : LObj} (h : ObjRel B F w g k o) {b : Nat} (hb : blkOf g k o = some b) : b < w.heap.size ∧ ¬ g.imm b ∧ OwnB B F k b := by
  cases o with
  | row gen esz cs =>
    obtain ⟨blk, cap, r1, r2, r3⟩ := h
    simp only [blkOf, r1, Option.bind_some] at hb
    subst hb
    exact ⟨r3.2.1, r3.2.2.1, r3.1⟩
  | map es =>
    obtain ⟨b', r1, r2, q1, q2, q3, q4⟩ := h
    simp only [blkOf, r1, Option.bind_some, Option.some.injEq] at hb
    subst hb
    exact ⟨q2, q3, q1⟩
theorem ObjRel.blk_keep {B : Nat} {F : Nat → Prop} {g g' : Gh} {w : World} {k : Key} {o : LObj} (h : ObjRel B F w g k o) (href : ∀ n r, g.ref k n = some r → g'.ref k n = some r) : blkOf g' k o = blkOf g k o := by
  cases o with
  | row gen esz cs =>
    obtain ⟨blk, cap, r1, _⟩ := h
    simp only [blkOf, r1, href _ _ r1]
  | map es =>
    obtain ⟨b', r1, _⟩ := h
    simp only [blkOf, r1, href _ _ r1]

theorem SimG.grow (hs : SimG E g σ a w) {imm' : Nat → Prop} (hb : BelowD w.heap.size w w') (h1 : ∀ b, g.imm b → imm' b)
    (h2 : ∀ b, imm' b → g.imm b ∨ (w.heap.size ≤ b ∧ b < w'.heap.size)) : SimG E ⟨imm', g.ref⟩ σ a w' := by
  have hrep : ∀ v x, Rep g w v x → Rep ⟨imm', g.ref⟩ w' v x := fun v x h => h.mono h1 (fun b hm => hb.block b (hs.immlt b hm)) (fun _ _ _ h => h)
  have hlt := hb.size
  refine ⟨hs.below.trans (.of (hb.mono hs.sizeB)), Nat.le_trans hs.sizeB hlt, hs.size, hs.defers, fun t => hrep _ _ (hs.tm t), ?_, fun b h => h1 b (hs.imm0 b h), ?_, ?_, hs.apart, hs.fresh, hs.ref0⟩
  · intro b hm
    rcases h2 b hm with h | h
    · have := hs.immlt b h; omega
    · exact h.2
  · intro b hB hm
    rcases h2 b hm with h | h
    · exact hs.immB b hB h
    · have := hs.sizeB; omega
  · intro k o hk
    have ho := hs.obj k o hk
    refine ho.keep hlt (fun _ _ h => h) (fun _ h => h) (fun b hbk hm => ?_) (fun b hbk => hb.block b (ho.blk hbk).1) hrep
    rcases h2 b hm with h | h
    · exact h
    · have := (ho.blk hbk).1; omega

theorem SimG.grow_same (hs : SimG E g σ a w) (hb : BelowD w.heap.size w w') : SimG E g σ a w' :=
  hs.grow hb (fun _ h => h) (fun _ h => .inl h)

theorem SimG.newAny (hs : SimG E g σ a w) (s : Nat) {o0 : LObj} {r0 : Option Nat × Nat} (hb : BelowF E.B E.F w w') (hbl : ∀ b, b < w.heap.size → w'.heap[b]? = w.heap[b]?)
    (hnew : ObjRel E.B E.F w' (g.set (s, σ.cnt s) 0 r0) (s, σ.cnt s) o0) (hfree : ∀ b, blkOf (g.set (s, σ.cnt s) 0 r0) (s, σ.cnt s) o0 = some b → ∀ k o, σ.H k = some o → blkOf g k o ≠ some b) :
    SimG E (g.set (s, σ.cnt s) 0 r0) ⟨σ.tm, hupd σ.H (s, σ.cnt s) o0, cupd σ.cnt s⟩ a w' := by
  have hfr := (hs.fresh s (σ.cnt s) (Nat.le_refl _)).2
  have href : ∀ k n r, g.ref k n = some r → (g.set (s, σ.cnt s) 0 r0).ref k n = some r := by
    intro k n r h
    rw [Gh.set_ne]
    · exact h
    · rintro ⟨rfl, rfl⟩; rw [hfr] at h; cases h
  have hrep : ∀ v x, Rep g w v x → Rep (g.set (s, σ.cnt s) 0 r0) w' v x := fun v x h => h.mono (fun _ h => h) (fun b hm => hbl b (hs.immlt b hm)) href
  have hlt := hb.size
  refine ⟨hs.below.trans hb, Nat.le_trans hs.sizeB hlt, hs.size, hs.defers, fun t => hrep _ _ (hs.tm t), fun b hm => Nat.lt_of_lt_of_le (hs.immlt b hm) hlt, hs.imm0, hs.immB, ?_, ?_, ?_, fun k n r hp h => href k n r (hs.ref0 k n r hp h)⟩
  · intro k o hk
    simp only [hupd] at hk
    split at hk
    · rename_i e; subst e; cases hk
      exact hnew
    · rename_i hne
      have ho := hs.obj k o hk
      refine ho.keep hlt (fun n r h => href k n r h) (fun m h => ?_) (fun b _ h => h) (fun b hbk => hbl b (ho.blk hbk).1) hrep
      rw [Gh.set_ne]
      · exact h
      · rintro ⟨rfl, _⟩; exact hne rfl
  · have same : ∀ k o, σ.H k = some o → blkOf (g.set (s, σ.cnt s) 0 r0) k o = blkOf g k o := fun k o hk => (hs.obj k o hk).blk_keep fun n r h => href k n r h
    intro k k' o o' b hk hk' hb1 hb2
    simp only [hupd] at hk hk'
    split at hk <;> split at hk'
    · rename_i e1 e2; rw [e1, e2]
    · rename_i e1 e2
      subst e1; cases hk
      rw [same k' o' hk'] at hb2
      exact absurd hb2 (hfree b hb1 k' o' hk')
    · rename_i e1 e2
      subst e2; cases hk'
      rw [same k o hk] at hb1
      exact absurd hb1 (hfree b hb2 k o hk)
    · rename_i e1 e2
      rw [same k o hk] at hb1
      rw [same k' o' hk'] at hb2
      exact hs.apart k k' o o' b hk hk' hb1 hb2
  · intro s' n hn
    simp only [cupd] at hn
    by_cases he : (s', n) = (s, σ.cnt s)
    · injection he with e1 e2
      subst e1
      rw [if_pos rfl] at hn; omega
    · have hn' : σ.cnt s' ≤ n := by
        split at hn
        · rename_i e; subst e; omega
        · exact hn
      have := hs.fresh s' n hn'
      refine ⟨by simp only [hupd]; rw [if_neg he]; exact this.1, fun m => ?_⟩
      rw [Gh.set_ne]
      · exact this.2 m
      · rintro ⟨e, _⟩; exact he e

theorem SimG.newObj (hs : SimG E g σ a w) (s : Nat) {esz cap : Nat} {cs : List V} {blk : Option Nat} (hb : BelowD w.heap.size w w')
    (hnew : match blk with
      | none => cs = [] ∧ cap = 0
      | some b => w.heap.size ≤ b ∧ b < w'.heap.size ∧ BlkOk (g.set (s, σ.cnt s) 0 (blk, cap)) w' esz cap cs b) :
    SimG E (g.set (s, σ.cnt s) 0 (blk, cap)) ⟨σ.tm, hupd σ.H (s, σ.cnt s) (.row 0 esz cs), cupd σ.cnt s⟩ a w' := by
  have hfr := (hs.fresh s (σ.cnt s) (Nat.le_refl _)).2
  refine hs.newAny s (.of (hb.mono hs.sizeB)) (fun b h => hb.block b h) ⟨blk, cap, Gh.set_same _ _ _ _, fun m hm => ?_, ?_⟩ (fun b hbk k o hk hb' => ?_)
  · rw [Gh.set_ne]
    · exact hfr m
    · rintro ⟨_, rfl⟩; omega
  · cases blk with
    | none => exact hnew
    | some b => exact ⟨.inl (Nat.le_trans hs.sizeB hnew.1), hnew.2.1, fun hm => by have := hs.immlt b hm; have := hnew.1; omega, hnew.2.2⟩
  · have := ((hs.obj k o hk).blk hb').1
    simp only [blkOf, Gh.set_same, Option.bind_some] at hbk
    subst hbk
    have := hnew.1; omega

theorem SimG.setAny (hs : SimG E g σ a w) {key : Key} {o0 : LObj} (hk : σ.H key = some o0) {gen' : Nat} {r' : Option Nat × Nat} {o1 : LObj} (href : ∀ k n r, g.ref k n = some r → (g.set key gen' r').ref k n = some r) (hb : BelowF E.B E.F w w')
    (hkeep : ∀ k, k < w.heap.size → blkOf g key o0 ≠ some k → w'.heap[k]? = w.heap[k]?) (hnew : (∀ v x, Rep g w v x → Rep (g.set key gen' r') w' v x) → ObjRel E.B E.F w' (g.set key gen' r') key o1)
    (hblk : ∀ b, blkOf (g.set key gen' r') key o1 = some b → blkOf g key o0 = some b ∨ w.heap.size ≤ b) :
    SimG E (g.set key gen' r') ⟨σ.tm, hupd σ.H key o1, σ.cnt⟩ a w' := by
  have ho0 := hs.obj key _ hk
  have himm : ∀ b, g.imm b → w'.heap[b]? = w.heap[b]? := by
    intro b hm
    refine hkeep b (hs.immlt b hm) fun e => ?_
    exact (ho0.blk e).2.1 hm
  have hrep : ∀ v x, Rep g w v x → Rep (g.set key gen' r') w' v x := fun v x h => h.mono (fun _ h => h) himm href
  have hlt := hb.size
  refine ⟨hs.below.trans hb, Nat.le_trans hs.sizeB hlt, hs.size, hs.defers, fun t => hrep _ _ (hs.tm t), fun b hm => Nat.lt_of_lt_of_le (hs.immlt b hm) hlt, hs.imm0, hs.immB, ?_, ?_, ?_, fun k n r hp h => href k n r (hs.ref0 k n r hp h)⟩
  · intro k o hk'
    simp only [hupd] at hk'
    split at hk'
    · rename_i e; subst e; cases hk'
      exact hnew hrep
    · rename_i hne
      have ho := hs.obj k o hk'
      refine ho.keep hlt (fun n r h => href k n r h) (fun m h => ?_) (fun b _ h => h) (fun b hbk => hkeep b (ho.blk hbk).1 fun e => hne (hs.apart k key _ _ b hk' hk hbk e)) hrep
      rw [Gh.set_ne]
      · exact h
      · rintro ⟨rfl, _⟩; exact hne rfl
  · have same : ∀ k o, σ.H k = some o → blkOf (g.set key gen' r') k o = blkOf g k o := fun k o hk => (hs.obj k o hk).blk_keep fun n r h => href k n r h
    have clash : ∀ k o b, σ.H k = some o → k ≠ key → blkOf g k o = some b → blkOf (g.set key gen' r') key o1 = some b → False := by
      intro k o b hk1 hne hb1 e
      rcases hblk b e with e | e
      · exact hne (hs.apart k key _ _ b hk1 hk hb1 e)
      · have := ((hs.obj k o hk1).blk hb1).1; omega
    intro k k' o o' b h1 h2 hb1 hb2
    simp only [hupd] at h1 h2
    split at h1 <;> split at h2
    · rename_i e1 e2; rw [e1, e2]
    · rename_i e1 e2
      subst e1; cases h1
      rw [same k' o' h2] at hb2
      exact (clash k' o' b h2 e2 hb2 hb1).elim
    · rename_i e1 e2
      subst e2; cases h2
      rw [same k o h1] at hb1
      exact (clash k o b h1 e1 hb1 hb2).elim
    · rename_i e1 e2
      rw [same k o h1] at hb1
      rw [same k' o' h2] at hb2
      exact hs.apart k k' o o' b h1 h2 hb1 hb2
  · intro s' n hn
    have hf := hs.fresh s' n hn
    have hne : (s', n) ≠ key := by rintro rfl; rw [hf.1] at hk; cases hk
    refine ⟨by simp only [hupd]; rw [if_neg hne]; exact hf.1, fun m => ?_⟩
    rw [Gh.set_ne]
    · exact hf.2 m
    · rintro ⟨e, _⟩; exact hne e

theorem SimG.setObj (hs : SimG E g σ a w) {key : Key} {gen esz : Nat} {cs : List V} (hk : σ.H key = some (.row gen esz cs)) {gen' esz' cap' : Nat} {cs' : List V} {blk' : Option Nat}
    (hgen : gen ≤ gen') (hgg : gen' = gen → g.ref key gen = some (blk', cap')) (hb : BelowF E.B E.F w w')
    (hkeep : ∀ k, k < w.heap.size → blkOf g key (.row gen esz cs) ≠ some k → w'.heap[k]? = w.heap[k]?)
    (hnew : match blk' with
      | none => cs' = [] ∧ cap' = 0
      | some b => (blkOf g key (.row gen esz cs) = some b ∨ w.heap.size ≤ b) ∧ b < w'.heap.size ∧ BlkOk (g.set key gen' (blk', cap')) w' esz' cap' cs' b) :
    SimG E (g.set key gen' (blk', cap')) ⟨σ.tm, hupd σ.H key (.row gen' esz' cs'), σ.cnt⟩ a w' := by
  obtain ⟨blk, cap, r1, r2, r3⟩ := hs.obj key _ hk
  have hblk : blkOf g key (.row gen esz cs) = blk := by simp [blkOf, r1]
  rw [hblk] at hnew
  have href : ∀ k n r, g.ref k n = some r → (g.set key gen' (blk', cap')).ref k n = some r := by
    intro k n r h
    by_cases e : k = key ∧ n = gen'
    · obtain ⟨rfl, rfl⟩ := e
      rw [Gh.set_same]
      rcases Nat.lt_or_ge gen n with hlt | hge
      · rw [r2 n hlt] at h; cases h
      · obtain rfl : n = gen := by omega
        rw [← hgg rfl]; exact h
    · rw [Gh.set_ne _ _ e]; exact h
  refine hs.setAny hk href hb hkeep (fun hrep => ⟨blk', cap', Gh.set_same _ _ _ _, fun m hm => ?_, ?_⟩) (fun b hbk => ?_)
  · rw [Gh.set_ne]
    · exact r2 m (by omega)
    · rintro ⟨_, rfl⟩; omega
  · cases blk' with
    | none => exact hnew
    | some b =>
      refine ⟨?_, hnew.2.1, fun hm => ?_, hnew.2.2⟩
      · rcases hnew.1 with rfl | h
        · exact r3.1
        · exact .inl (Nat.le_trans hs.sizeB h)
      · rcases hnew.1 with rfl | h
        · exact r3.2.2.1 hm
        · have : b < w.heap.size := hs.immlt b hm
          omega
  · rw [hblk]
    simp only [blkOf, Gh.set_same, Option.bind_some] at hbk
    subst hbk
    exact hnew.1

end
end Go.Lg
