/-
  A region whose operations touch memory: in whatever order the model draws, it ends as the walk in the text's order ends, if what each touches there is apart from what the others turn.
-/
import Derived.Test.YtgpeaibhhonikaaGreatDoorLgN
set_option linter.unusedSimpArgs false
set_option linter.unusedVariables false
namespace Go.Lg
open Go Go.RowKit

/-- All that a call which is walked into turned: the objects ahead of it and behind it. -/
structure Big where
  H0 : Heap
  c0 : Nat → Nat
  H1 : Heap
  c1 : Nat → Nat
/-- What an operation did: its result, the objects it read, the object it made or turned; the slots that it saw. -/
structure Ev where
  v : V
  rd : List (Key × LObj)
  w : Option (Key × LObj)
  nw : Bool
  tm : Nat → V
  big : Option Big := none

def apE (s : Nat) (d : Option Nat) (e : Ev) (σ : St) : St := match e.big with
  | some b => St.put ⟨σ.tm, b.H1, b.c1⟩ d e.v
  | none => St.put ⟨σ.tm, match e.w with | none => σ.H | some p => hupd σ.H p.1 p.2, if e.nw then cupd σ.cnt s else σ.cnt⟩ d e.v
def rdyE (s : Nat) (o : LOp) (e : Ev) (σ : St) : Prop := ((∀ t ∈ o.slots, σ.tm t = e.tm t) ∧ (∀ p ∈ e.rd, σ.H p.1 = some p.2) ∧ (e.nw = true → ∀ p, e.w = some p → p.1 = (s, σ.cnt s))) ∧ ∀ b, e.big = some b → σ.H = b.H0 ∧ σ.cnt = b.c0
def EvOk (P : Program) (s : Nat) (o : LOp) (e : Ev) : Prop := ∀ σ, rdyE s o e σ → ∀ K : St → Prop, K (apE s o.dst e σ) → vstepC P s o K σ
def kw (e : Ev) : List Key := match e.w with | none => [] | some p => [p.1]
/-- It neither reads nor turns an object. -/
def calm (e : Ev) : Prop := e.rd = [] ∧ e.w = none ∧ e.nw = false ∧ e.big = none
/-- It reads alone, what a call leaves as it was. -/
def calmB (e f : Ev) : Prop := ∃ b, e.big = some b ∧ f.w = none ∧ f.nw = false ∧ f.big = none ∧ ∀ p ∈ f.rd, b.H0 p.1 = some p.2 ∧ b.H1 p.1 = some p.2
def cmpE (x : LOp) (e : Ev) (y : LOp) (f : Ev) : Prop := apartO x y = true ∧ ((e.big = none ∧ f.big = none ∧ (∀ k ∈ kw e, k ∉ f.rd.map (·.1) ∧ k ∉ kw f) ∧ (∀ k ∈ kw f, k ∉ e.rd.map (·.1))) ∨ calm e ∨ calm f ∨ calmB e f ∨ calmB f e)
def RunE (rid : Nat) (lo : Nat → LOp) (ev : Nat → Ev) : List Nat → St → St → Prop
  | [], σ, σ' => σ' = σ
  | i :: r, σ, σ' => rdyE (siteOf rid i) (lo i) (ev i) σ ∧ RunE rid lo ev r (apE (siteOf rid i) (lo i).dst (ev i) σ) σ'

theorem apE_tm (s : Nat) (d : Option Nat) (e : Ev) (σ : St) : (apE s d e σ).tm = dput σ.tm d e.v := by
  unfold apE; cases e.big <;> rfl
theorem apE_H (s : Nat) (d : Option Nat) (e : Ev) (σ : St) (hb : e.big = none) : (apE s d e σ).H = match e.w with | none => σ.H | some p => hupd σ.H p.1 p.2 := by
  unfold apE; rw [hb]; rfl
theorem apE_cnt (s : Nat) (d : Option Nat) (e : Ev) (σ : St) (hb : e.big = none) : (apE s d e σ).cnt = if e.nw then cupd σ.cnt s else σ.cnt := by
  unfold apE; rw [hb]; rfl
theorem apE_calm {s : Nat} {d : Option Nat} {e : Ev} (hc : calm e) (σ : St) : apE s d e σ = σ.put d e.v := by
  unfold apE; rw [hc.2.2.2, hc.2.1, hc.2.2.1]; rfl
theorem apE_still {s : Nat} {d : Option Nat} {e : Ev} (h1 : e.w = none) (h2 : e.nw = false) (h3 : e.big = none) (σ : St) : apE s d e σ = σ.put d e.v := by
  unfold apE; rw [h3, h1, h2]; rfl
theorem apE_put {s : Nat} {d d' : Option Nat} {e : Ev} {v : V} (h : ∀ t, d = some t → d' ≠ some t) (σ : St) : apE s d e (σ.put d' v) = (apE s d e σ).put d' v := by
  unfold apE
  cases e.big with
  | some b => simp only [St.put]; rw [dput_comm fun t ht he => h t he ht]
  | none => simp only [St.put]; rw [dput_comm fun t ht he => h t he ht]
theorem dput_ne {f : Nat → V} {d : Option Nat} {v : V} {t : Nat} (h : ∀ x, d = some x → x ≠ t) : dput f d v t = f t := by
  cases d with
  | none => rfl
  | some x => simp only [dput, tupd]; rw [if_neg fun e => h x rfl e.symm]
theorem apE_H_ne {s : Nat} {d : Option Nat} {e : Ev} {σ : St} {k : Key} (hb : e.big = none) (h : k ∉ kw e) : (apE s d e σ).H k = σ.H k := by
  rw [apE_H _ _ _ _ hb]
  cases hw : e.w with
  | none => rfl
  | some p =>
    simp only [kw, hw, List.mem_singleton] at h
    simp only [hupd, if_neg h]
theorem apE_cnt_ne {s s' : Nat} {d : Option Nat} {e : Ev} {σ : St} (hb : e.big = none) (h : s' ≠ s) : (apE s d e σ).cnt s' = σ.cnt s' := by
  rw [apE_cnt _ _ _ _ hb]
  split
  · exact cupd_ne h
  · rfl

theorem swapE {si sj : Nat} {oi oj : LOp} {ei ej : Ev} {σ : St} (hne : si ≠ sj) (hc : cmpE oi ei oj ej) (h1 : rdyE si oi ei σ) (h2 : rdyE sj oj ej (apE si oi.dst ei σ)) :
    rdyE sj oj ej σ ∧ rdyE si oi ei (apE sj oj.dst ej σ) ∧ apE si oi.dst ei (apE sj oj.dst ej σ) = apE sj oj.dst ej (apE si oi.dst ei σ) := by
  obtain ⟨hap, hc⟩ := hc
  have a1 : ∀ t, oi.dst = some t → t ∉ oj.slots := by
    intro t ht; simp [apartO, ht] at hap; exact hap.1.1
  have a2 : ∀ t, oi.dst = some t → oj.dst ≠ some t := by
    intro t ht; simp [apartO, ht] at hap; exact hap.1.2
  have a3 : ∀ t, oj.dst = some t → t ∉ oi.slots := by
    intro t ht; simp [apartO, ht] at hap; exact hap.2
  have a2' : ∀ t, oj.dst = some t → oi.dst ≠ some t := fun t ht he => a2 t he ht
  obtain ⟨⟨h11, h12, h13⟩, h14⟩ := h1
  obtain ⟨⟨h21, h22, h23⟩, h24⟩ := h2
  have sl1 : ∀ t ∈ oj.slots, σ.tm t = ej.tm t := by
    intro t ht
    rw [← h21 t ht, apE_tm, dput_ne]
    rintro x hx rfl; exact a1 x hx ht
  have sl2 : ∀ t ∈ oi.slots, (apE sj oj.dst ej σ).tm t = ei.tm t := by
    intro t ht
    rw [← h11 t ht, apE_tm, dput_ne]
    rintro x hx rfl; exact a3 x hx ht
  rcases hc with ⟨b1, b2, hk1, hk2⟩ | hc | hc | hc | hc
  · refine ⟨⟨⟨sl1, fun p hp => ?_, fun hn p hp => ?_⟩, fun b hb => by rw [b2] at hb; cases hb⟩, ⟨⟨sl2, fun p hp => ?_, fun hn p hp => ?_⟩, fun b hb => by rw [b1] at hb; cases hb⟩, ?_⟩
    · rw [← h22 p hp]
      refine (apE_H_ne b1 fun hm => ?_).symm
      exact (hk1 _ hm).1 (List.mem_map.2 ⟨p, hp, rfl⟩)
    · rw [h23 hn p hp, apE_cnt_ne b1 (Ne.symm hne)]
    · rw [← h12 p hp]
      refine apE_H_ne b2 fun hm => ?_
      exact hk2 _ hm (List.mem_map.2 ⟨p, hp, rfl⟩)
    · rw [h13 hn p hp, apE_cnt_ne b2 hne]
    · have e1 : (apE si oi.dst ei (apE sj oj.dst ej σ)).tm = (apE sj oj.dst ej (apE si oi.dst ei σ)).tm := by
        rw [apE_tm, apE_tm, apE_tm, apE_tm]; exact (dput_comm a2).symm
      have e3 : (apE si oi.dst ei (apE sj oj.dst ej σ)).cnt = (apE sj oj.dst ej (apE si oi.dst ei σ)).cnt := by
        rw [apE_cnt _ _ _ _ b1, apE_cnt _ _ _ _ b2, apE_cnt _ _ _ _ b2, apE_cnt _ _ _ _ b1]
        cases ei.nw <;> cases ej.nw <;> try rfl
        exact cupd_comm (Ne.symm hne)
      have e2 : (apE si oi.dst ei (apE sj oj.dst ej σ)).H = (apE sj oj.dst ej (apE si oi.dst ei σ)).H := by
        rw [apE_H _ _ _ _ b1, apE_H _ _ _ _ b2, apE_H _ _ _ _ b2, apE_H _ _ _ _ b1]
        cases hwi : ei.w with
        | none => rfl
        | some p =>
          cases hwj : ej.w with
          | none => rfl
          | some q =>
            have := (hk1 p.1 (by simp [kw, hwi])).2
            simp only [kw, hwj, List.mem_singleton] at this
            exact hupd_comm (Ne.symm this)
      generalize apE si oi.dst ei (apE sj oj.dst ej σ) = X at e1 e2 e3 ⊢
      generalize apE sj oj.dst ej (apE si oi.dst ei σ) = Y at e1 e2 e3 ⊢
      cases X; cases Y; cases e1; cases e2; cases e3; rfl
  · have hi := apE_calm (s := si) (d := oi.dst) hc
    rw [hi] at h22 h23 h24
    refine ⟨⟨⟨sl1, h22, h23⟩, h24⟩, ⟨⟨sl2, fun p hp => (by rw [hc.1] at hp; cases hp), fun hn => (by rw [hc.2.2.1] at hn; cases hn)⟩, fun b hb => (by rw [hc.2.2.2] at hb; cases hb)⟩, ?_⟩
    rw [hi, hi, apE_put a2']
  · have hj := apE_calm (s := sj) (d := oj.dst) hc
    refine ⟨⟨⟨sl1, fun p hp => (by rw [hc.1] at hp; cases hp), fun hn => (by rw [hc.2.2.1] at hn; cases hn)⟩, fun b hb => (by rw [hc.2.2.2] at hb; cases hb)⟩, ⟨⟨sl2, ?_, ?_⟩, ?_⟩, ?_⟩
    · rw [hj]; exact h12
    · rw [hj]; exact h13
    · rw [hj]; exact h14
    · rw [hj, hj, apE_put a2]
  · obtain ⟨b, hb, w1, w2, w3, w4⟩ := hc
    have hj := apE_still (s := sj) (d := oj.dst) w1 w2 w3
    obtain ⟨g1, g2⟩ := h14 b hb
    refine ⟨⟨⟨sl1, fun p hp => (by rw [g1]; exact (w4 p hp).1), fun hn => (by rw [w2] at hn; cases hn)⟩, fun b' hb' => (by rw [w3] at hb'; cases hb')⟩, ⟨⟨sl2, ?_, ?_⟩, ?_⟩, ?_⟩
    · rw [hj]; exact h12
    · rw [hj]; exact h13
    · rw [hj]; exact h14
    · rw [hj, hj, apE_put a2]
  · obtain ⟨b, hb, w1, w2, w3, w4⟩ := hc
    have hi := apE_still (s := si) (d := oi.dst) w1 w2 w3
    rw [hi] at h22 h23 h24
    have hjb : (apE sj oj.dst ej σ).H = b.H1 := by unfold apE; rw [hb]; rfl
    refine ⟨⟨⟨sl1, h22, h23⟩, h24⟩, ⟨⟨sl2, fun p hp => (by rw [hjb]; exact (w4 p hp).2), fun hn => (by rw [w2] at hn; cases hn)⟩, fun b' hb' => (by rw [w3] at hb'; cases hb')⟩, ?_⟩
    rw [hi, hi, apE_put a2']

theorem bubbleE {rid : Nat} {lo : Nat → LOp} {ev : Nat → Ev} {σe : St} {i : Nat} {post : List Nat} : ∀ {pre : List Nat} {σ : St}, RunE rid lo ev (pre ++ i :: post) σ σe → (∀ j ∈ pre, j ≠ i ∧ cmpE (lo j) (ev j) (lo i) (ev i)) →
    rdyE (siteOf rid i) (lo i) (ev i) σ ∧ RunE rid lo ev (pre ++ post) (apE (siteOf rid i) (lo i).dst (ev i) σ) σe
  | [], σ, h, _ => h
  | j :: pre, σ, h, hp => by
    obtain ⟨h1, h2⟩ := h
    obtain ⟨hne, hi⟩ := hp j (List.mem_cons_self ..)
    obtain ⟨h3, h4⟩ := bubbleE h2 fun k hk => hp k (List.mem_cons_of_mem _ hk)
    obtain ⟨h5, h6, h7⟩ := swapE (by simp only [siteOf]; omega) hi h1 h3
    refine ⟨h5, h6, ?_⟩
    rw [h7]; exact h4

/-- The closed check: what waits for what is told whole. -/
def depsChk (ops : Array Oper) (bs : List Nat) : Bool :=
  (List.range ops.size).all fun i => match ops[i]? with
    | some o => (depsOf o).all (fun k => decide (k < i)) && (List.range i).all fun j => if (bs.getD i 0).testBit j then (depsOf o).any (fun k => k == j || (decide (j < k) && (bs.getD k 0).testBit j)) else true
    | none => false

section
variable {P : Program} {E : Env} {σe : St} {rid : Nat} {lo : Nat → LOp} {ops : Array Oper} {Q : Exit → Act → World → Prop}
theorem any_soundE [EOk P E] {ev : Nat → Ev} {bs : List Nat} (hlo : ∀ i o, ops[i]? = some o → lo i = trO P ops o) (hall : ops.toList.all (opOk E.N ops) = true) (hchk : depsChk ops bs = true)
    (hev : ∀ i, i < ops.size → EvOk P (siteOf rid i) (lo i) (ev i)) (hcmp : ∀ i j, j < i → i < ops.size → (bs.getD i 0).testBit j = false → cmpE (lo j) (ev j) (lo i) (ev i)) (hQ : ∀ a' w', Sim E σe a' w' → Q .normal a' w') :
    ∀ (fuel : Nat) (listed : Array Bool) (rem : List Nat) (σ : St) (a : Act) (w : World), rem.length = fuel → Inv ops bs listed rem → RunE rid lo ev rem σ σe → Sim E σ a w → wpAny P .any ops Q fuel listed a w := by
  have chk : ∀ (i : Nat) (o : Oper), ops[i]? = some o → (∀ k ∈ depsOf o, k < i) ∧ ∀ j, j < i → (bs.getD i 0).testBit j = true → ∃ k ∈ depsOf o, k = j ∨ j < k ∧ (bs.getD k 0).testBit j = true := by
    intro i o ho
    have hlt : i < ops.size := by
      rcases Nat.lt_or_ge i ops.size with h | h
      · exact h
      · rw [Array.getElem?_eq_none h] at ho; cases ho
    have := List.all_eq_true.1 hchk i (List.mem_range.2 hlt)
    simp only [ho, Bool.and_eq_true] at this
    obtain ⟨c1, c2⟩ := this
    refine ⟨fun k hk => by simpa using List.all_eq_true.1 c1 k hk, fun j hj hb => ?_⟩
    have c3 := List.all_eq_true.1 c2 j (List.mem_range.2 hj)
    rw [if_pos hb] at c3
    obtain ⟨k, hk, hk2⟩ := List.any_eq_true.1 c3
    refine ⟨k, hk, ?_⟩
    simpa using hk2
  have empty : ∀ (listed : Array Bool) (rem : List Nat), Inv ops bs listed rem → Region.ready .any ops listed = [] → rem = [] := by
    intro listed rem hinv hr
    cases rem with
    | nil => rfl
    | cons i r =>
      exfalso
      obtain ⟨h1, h2⟩ := (hinv.mem i).1 (List.mem_cons_self ..)
      have hmin : ∀ b ∈ r, i < b := fun b hb => List.rel_of_pairwise_cons hinv.sorted hb
      have : i ∈ Region.ready .any ops listed := ready_iff.2 ⟨h1, h2, ops[i], Array.getElem?_eq_getElem h1, fun k hk => by
        have hki := (chk i _ (Array.getElem?_eq_getElem h1)).1 k hk
        have hnm : k ∉ i :: r := by
          intro hm
          rcases List.mem_cons.1 hm with rfl | hm
          · omega
          · have := hmin k hm; omega
        have hk' : ¬ (listed.getD k true = false) := fun h => hnm ((hinv.mem k).2 ⟨by omega, h⟩)
        have hks : k < listed.size := by rw [hinv.size]; omega
        simp only [Array.getD_eq_getD_getElem?, Array.getElem?_eq_getElem hks, Option.getD_some] at hk' ⊢
        simpa using hk'⟩
      rw [hr] at this; cases this
  intro fuel
  induction fuel with
  | zero =>
    intro listed rem σ a w hlen hinv hrun hs
    have hrem : rem = [] := List.eq_nil_of_length_eq_zero hlen
    subst hrem
    refine ⟨?_, by cases hrun; exact hQ _ _ hs⟩
    rw [List.eq_nil_iff_forall_not_mem]
    intro i hi
    obtain ⟨h1, h2, _⟩ := ready_iff.1 hi
    have := (hinv.mem i).2 ⟨h1, h2⟩
    cases this
  | succ fuel ih =>
    intro listed rem σ a w hlen hinv hrun hs
    refine ⟨fun hr => ?_, fun i hi => ?_⟩
    · have := empty listed rem hinv hr
      subst this
      cases hlen
    · obtain ⟨h1, h2, o, ho, hdeps⟩ := ready_iff.1 hi
      have him := (hinv.mem i).2 ⟨h1, h2⟩
      obtain ⟨pre, post, rfl⟩ := List.append_of_mem him
      have hsorted := hinv.sorted
      rw [List.pairwise_append] at hsorted
      obtain ⟨s1, s2, s3⟩ := hsorted
      obtain ⟨s4, s5⟩ := List.pairwise_cons.1 s2
      have hbit : ∀ j, j < i → listed.getD j true = false → (bs.getD i 0).testBit j = false := by
        intro j hj hl
        by_cases hb : (bs.getD i 0).testBit j = true
        · obtain ⟨k, hk, hk2⟩ := (chk i o ho).2 j hj hb
          have hki := (chk i o ho).1 k hk
          have hkl := hdeps k hk
          have hks : k < listed.size := by rw [hinv.size]; omega
          have hkl' : listed.getD k true = true := by
            simp only [Array.getD_eq_getD_getElem?, Array.getElem?_eq_getElem hks, Option.getD_some] at hkl ⊢
            exact hkl
          rcases hk2 with rfl | hk2
          · rw [hkl'] at hl; cases hl
          · have := hinv.down k (by omega) hkl' j hk2.1 hk2.2
            rw [this] at hl; cases hl
        · simpa using hb
      obtain ⟨hrdy, hrest⟩ := bubbleE hrun (fun j hj => by
        have hji : j < i := s3 j hj i (List.mem_cons_self ..)
        have hjl := ((hinv.mem j).1 (List.mem_append_left _ hj)).2
        exact ⟨by omega, hcmp i j hji h1 (hbit j hji hjl)⟩)
      have hok : opOk E.N ops o = true := List.all_eq_true.1 hall o (by
        rw [List.mem_iff_getElem?]
        exact ⟨i, by rw [Array.getElem?_toList]; exact ho⟩)
      have hst := hev i h1 σ hrdy (fun σ' => σ' = apE (siteOf rid i) (lo i).dst (ev i) σ) rfl
      rw [hlo i o ho] at hst hrest
      refine wpOp_of_vstepC ho hok hs hst fun σ' a' w' hσ hs' => ih _ (pre ++ post) _ a' w' ?_ ?_ hrest (hσ ▸ hs')
      · simp at hlen ⊢; omega
      · have hget : ∀ k, (listed.setIfInBounds i true).getD k true = if k = i then true else listed.getD k true := by
          intro k
          simp only [Array.getD_eq_getD_getElem?]
          by_cases e : k = i
          · subst e
            have : k < listed.size := by rw [hinv.size]; exact h1
            simp [this]
          · rw [if_neg e, Array.getElem?_setIfInBounds_ne (Ne.symm e)]
        refine ⟨by simpa using hinv.size, ?_, fun k => ?_, fun k hk hl j hj hb => ?_⟩
        · rw [List.pairwise_append]
          exact ⟨s1, s5, fun x hx y hy => s3 x hx y (List.mem_cons_of_mem _ hy)⟩
        · rw [hget]
          have hm := hinv.mem k
          simp only [List.mem_append, List.mem_cons] at hm ⊢
          by_cases e : k = i
          · subst e
            rw [if_pos rfl]
            constructor
            · rintro (h | h)
              · have := s3 k h k (List.mem_cons_self ..); omega
              · have := s4 k h; omega
            · rintro ⟨_, h⟩; cases h
          · rw [if_neg e, ← hm]
            constructor
            · rintro (h | h)
              · exact .inl h
              · exact .inr (.inr h)
            · rintro (h | h | h)
              · exact .inl h
              · exact absurd h e
              · exact .inr h
        · rw [hget] at hl ⊢
          by_cases e : k = i
          · subst e
            split
            · rfl
            · by_cases hjl : listed.getD j true = true
              · exact hjl
              · have := hbit j hj (by simpa using hjl)
                rw [this] at hb; cases hb
          · rw [if_neg e] at hl
            split
            · rfl
            · exact hinv.down k hk hl j hj hb
end

/-- What is to be shown of such a region. -/
def loAt (los : List LOp) (i : Nat) : LOp := los.getD i ⟨none, .bad, none⟩
def vregd (P : Program) (rid : Nat) (bs : List Nat) (los : List LOp) (K : St → Prop) (σ : St) : Prop :=
  ∃ ev : Nat → Ev, (∀ i, i < los.length → EvOk P (siteOf rid i) (loAt los i) (ev i)) ∧ (∀ i j, j < i → i < los.length → (bs.getD i 0).testBit j = false → cmpE (loAt los j) (ev j) (loAt los i) (ev i)) ∧
    ∃ σe, RunE rid (loAt los) ev (List.range los.length) σ σe ∧ K σe
theorem vregd_mono {P : Program} {rid : Nat} {bs : List Nat} {los : List LOp} {K K' : St → Prop} {σ : St} (hk : ∀ σ, K σ → K' σ) (h : vregd P rid bs los K σ) : vregd P rid bs los K' σ := by
  obtain ⟨ev, h1, h2, σe, h3, h4⟩ := h
  exact ⟨ev, h1, h2, σe, h3, hk _ h4⟩
end Go.Lg
