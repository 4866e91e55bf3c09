/-
  Texts Cu4 of this claim, put together.
-/
import Derived.Test.YtobhpkagbmadlaaGQa
import Derived.Test.YtobhpkagbmadlaaGI
import Derived.Test.YtobhpkagbmadlaaGP
import Derived.Test.YtobhpkagbmadlaaGFm
import Derived.Test.YtobhpkagbmadlaaGKa
/-
  In: where loans go on.
-/
set_option linter.unusedSimpArgs false
set_option linter.unusedVariables false
namespace Go.Proofs.Ytobhpkagbmadlaa
open Go Go.Lg Go.RowKit
set_option linter.unusedVariables false
set_option linter.unusedSimpArgs false

/-- The pairs that have been seen, as a map's entries; those still to be done, as cells. -/
def seenE (vs : List Pr) : List (V × V) := vs.map fun q => (.agg [.int .i64 (q.1 : Nat), .int .i64 (q.2 : Nat)], .int .i64 1)
def cW (q : Pr) : List V := [.int .i64 (q.1 : Nat), .int .i64 (q.2 : Nat)]

theorem fitc_imv (d : Nat) (R : List (List Bool)) : (R.flatMap (cL cB)).all (imV (d + 1)) = true := by
  induction R with
  | nil => rfl
  | cons x r ih => rw [List.flatMap_cons, List.all_append, ih]; rfl
theorem seen_snap (H : Heap) (d : Nat) (vs : List Pr) : (seenE vs).map (fun e => (snap H (d + 2) e.1, snap H (d + 2) e.2)) = seenE vs := by
  simp only [seenE, List.map_map]
  refine List.map_congr_left fun q _ => ?_
  simp only [Function.comp, snap, List.map_cons, List.map_nil]
theorem seen_snapv (H : Heap) (d : Nat) (vs : List Pr) : (seenE vs).map (fun e => (e.1, snap H (d + 1) e.2)) = seenE vs := by
  simp only [seenE, List.map_map]
  refine List.map_congr_left fun q _ => ?_
  simp only [Function.comp, snap]
theorem seen_sok (H : Heap) (d : Nat) (vs : List Pr) : (seenE vs).all (fun e => sok H (d + 2) e.1 && sok H (d + 2) e.2) = true := by
  simp only [seenE, List.all_map]
  refine List.all_eq_true.2 fun q _ => ?_
  simp [Function.comp, sok]
theorem seen_imv (d : Nat) (vs : List Pr) : (seenE vs).all (fun e => imV (d + 1) e.1) = true := by
  simp only [seenE, List.all_map]
  refine List.all_eq_true.2 fun q _ => ?_
  simp [Function.comp, imV]
theorem seen_key (vs : List Pr) : (seenE vs).all (fun e => keyV (.arr 2 .i64) e.1) = true := by
  simp only [seenE, List.all_map]
  refine List.all_eq_true.2 fun q _ => ?_
  simp [Function.comp, keyV, intsK]
theorem seen_app (vs : List Pr) (k p : Nat) : seenE vs ++ [(.agg [.int .i64 (k : Nat), .int .i64 (p : Nat)], .int .i64 1)] = seenE (vs ++ [(k, p)]) := by simp [seenE]
theorem seen_find (k p : Nat) : ∀ (vs : List Pr), ((k, p) ∈ vs → ∃ j, findK (.agg [.int .i64 (k : Nat), .int .i64 (p : Nat)]) (seenE vs) = some (j, .int .i64 1)) ∧ ((k, p) ∉ vs → findK (.agg [.int .i64 (k : Nat), .int .i64 (p : Nat)]) (seenE vs) = none)
  | [] => ⟨fun h => (by cases h), fun _ => rfl⟩
  | q :: vs => by
    obtain ⟨ih1, ih2⟩ := seen_find k p vs
    have he : eqK (.agg [.int .i64 (k : Nat), .int .i64 (p : Nat)]) (.agg [.int .i64 (q.1 : Nat), .int .i64 (q.2 : Nat)]) = decide ((k, p) = q) := by
      obtain ⟨a, b⟩ := q
      rw [Bool.eq_iff_iff]
      simp only [eqK, eqInts, Bool.and_true, Prod.mk.injEq, Bool.and_eq_true, beq_iff_eq, decide_eq_true_eq]
      omega
    have hc : seenE (q :: vs) = (.agg [.int .i64 (q.1 : Nat), .int .i64 (q.2 : Nat)], .int .i64 1) :: seenE vs := rfl
    by_cases e : (k, p) = q
    · rw [hc]
      simp only [findK, he, decide_eq_true e, if_true]
      exact ⟨fun _ => ⟨0, rfl⟩, fun h => absurd (e ▸ List.mem_cons_self ..) h⟩
    · rw [hc]
      simp only [findK, he, decide_eq_false e, Bool.false_eq_true, if_false]
      constructor
      · intro h
        have h' : (k, p) ∈ vs := by
          rcases List.mem_cons.1 h with h | h
          · exact absurd h e
          · exact h
        obtain ⟨j, hj⟩ := ih1 h'
        exact ⟨j + 1, by rw [hj]; rfl⟩
      · intro h
        rw [ih2 fun h' => h (List.mem_cons_of_mem _ h')]; rfl
theorem cw_len (w : List Pr) : (w.flatMap cW).length = w.length * 2 := flat_len (f := cW) (fun _ => rfl) w
theorem cw_snap (H : Heap) (d : Nat) (w : List Pr) : (w.flatMap cW).map (snap H (d + 1)) = w.flatMap cW := by
  induction w with
  | nil => rfl
  | cons x r ih => rw [List.flatMap_cons, List.map_append, ih]; rfl
theorem cw_sok (H : Heap) (d : Nat) (w : List Pr) : (w.flatMap cW).all (sok H (d + 1)) = true := by
  induction w with
  | nil => rfl
  | cons x r ih => rw [List.flatMap_cons, List.all_append, ih]; rfl
theorem cw_imv (d : Nat) (w : List Pr) : (w.flatMap cW).all (imV d) = true := by
  induction w with
  | nil => rfl
  | cons x r ih => rw [List.flatMap_cons, List.all_append, ih]; cases d <;> rfl
theorem cw_take (w : List Pr) : (w.flatMap cW).take (w.length * 2) = w.flatMap cW := List.take_of_length_le (by rw [cw_len]; exact Nat.le_refl _)
theorem cw_app (w : List Pr) (k p : Nat) : w.flatMap cW ++ [.int .i64 (k : Nat), .int .i64 (p : Nat)] = (w ++ [(k, p)]).flatMap cW := by rw [List.flatMap_append]; rfl
theorem fitc_ld {R : List (List Bool)} {k : Nat} (h : k < R.length) : ldV false 1 (R.flatMap (cL cB)) k = some (.sl R[k].length (R[k].flatMap cB)) := by
  have := ld_flat0 (f := cL cB) (s := 1) (agg := false) (n := 1) (fun _ => rfl) h (by decide) (by decide)
  rw [Nat.mul_one] at this; rw [this]; rfl
theorem grid_len (L N : Nat) : (grid L N).length = L * N := by simp [grid, List.length_flatMap, List.map_const', List.sum_replicate_nat]
theorem onW_snoc (ok : Nat → Bool) (k : Nat) (ps : List Nat) (p : Nat) (s : List Pr × List Pr) : onW ok k (ps ++ [p]) s = pushW ok k (onW ok k ps s) p := by simp [onW, List.foldl_append]
theorem setK_none {es : List (V × V)} {k : V} (v : V) (h : findK k es = none) : setK es k v = es ++ [(k, v)] := by simp only [setK, h]
theorem nx_lt' {m : Mir} (hg : okG m) : ∀ u, ∀ v ∈ nx m u, v < m.code.length := by
  intro u v hv
  unfold nx at hv
  cases hx : m.code[u]? with
  | none => rw [hx] at hv; cases hv
  | some x =>
    rw [hx] at hv
    obtain ⟨y, hy, rfl⟩ := List.mem_map.1 hv
    have := (hg.nx x (List.mem_of_getElem? hx)).2 y hy
    omega
theorem cw_last0 (w : List Pr) (k p : Nat) : ldV false 1 ((w ++ [(k, p)]).flatMap cW) (w.length * 2) = some (.int .i64 (k : Nat)) := by
  simp only [ldV, List.flatMap_append]
  rw [if_neg (by decide), List.getElem?_append_right (by rw [cw_len]; exact Nat.le_refl _), cw_len, Nat.sub_self]; rfl
theorem cw_last1 (w : List Pr) (k p : Nat) : ldV false 1 ((w ++ [(k, p)]).flatMap cW) (w.length * 2 + 1) = some (.int .i64 (p : Nat)) := by
  simp only [ldV, List.flatMap_append]
  rw [if_neg (by decide), List.getElem?_append_right (by rw [cw_len]; omega), cw_len, Nat.add_sub_cancel_left]; rfl
theorem cw_cut (w : List Pr) (k p : Nat) : ((w ++ [(k, p)]).flatMap cW).take (w.length * 2) = w.flatMap cW := by
  rw [List.flatMap_append, List.take_append_of_le_length (by rw [cw_len]; exact Nat.le_refl _), List.take_of_length_le (by rw [cw_len]; exact Nat.le_refl _)]
theorem rows_start (rch : Nat → Bool) (N : Nat) (vs : List Pr) : RowsInv rch N vs vs (List.replicate N []) := by
  refine ⟨by simp, fun p hp => ?_⟩
  have : (List.replicate N ([] : List Int)).getD p [] = [] := by simp [List.getD_eq_getElem?_getD, hp]
  rw [this]
  exact ⟨List.nodup_nil, fun x => ⟨fun h => (by cases h), fun ⟨k, _, h1, h2, _⟩ => absurd h1 h2⟩⟩
theorem _root_.List.getD_replicate_nil (N t : Nat) : (List.replicate N ([] : List Int)).getD t [] = [] := by
  rw [List.getD_eq_getElem?_getD, List.getElem?_replicate]; split <;> rfl
/-- Does a loan's region last there? -/
def okP (pts : List (List Bool)) (Ls : List MLoan) (k p : Nat) : Bool := decide ((Ls.getD k ⟨0, 0, false, ⟨0, []⟩⟩).reg < pts.length) && (decide (p < (pts.getD (Ls.getD k ⟨0, 0, false, ⟨0, []⟩⟩).reg.toNat []).length) && (pts.getD (Ls.getD k ⟨0, 0, false, ⟨0, []⟩⟩).reg.toNat []).getD p false)
def ptP (Ls : List MLoan) (k : Nat) : Nat := (Ls.getD k ⟨0, 0, false, ⟨0, []⟩⟩).pt.toNat
def endsP (m : Mir) (Ls : List MLoan) (k p : Nat) : Bool := match m.code[p]? with
  | some x => endsS (Ls.getD k ⟨0, 0, false, ⟨0, []⟩⟩) x
  | none => false
theorem sok_lo (H : Heap) (d : Nat) (l : List MLoan) : (l.flatMap MLoan.cells).all (sok H (d + 1)) = true := by
  induction l with
  | nil => rfl
  | cons x r ih => rw [List.flatMap_cons, List.all_append, ih, MLoan.sokc]; rfl
theorem sok_fc (H : Heap) (d : Nat) (R : List (List Bool)) : (R.flatMap (cL cB)).all (sok H (d + 1)) = true := by
  induction R with
  | nil => rfl
  | cons x r ih => rw [List.flatMap_cons, List.all_append, ih]; rfl
/-- What is known in the first loop. -/
def InP (m : Mir) (pts : List (List Bool)) (Ls : List MLoan) (k : Nat) (vs : List Pr) : Prop :=
  WInv (nx m) (ptP Ls) (okP pts Ls) (endsP m Ls) Ls.length m.code.length vs vs ∧ (∀ j, j < k → ∀ p ∈ nx m (ptP Ls j), okP pts Ls j p = true → (j, p) ∈ vs) ∧ vs.length + unseen (grid Ls.length m.code.length) vs ≤ (grid Ls.length m.code.length).length

theorem loans_at : ∀ (l : List MInst) (i : Nat) (x : MLoan), x ∈ loansS i l → ∃ (j : Nat) (h : j < l.length), x = loanAt (i + j) l[j] ∧ takes l[j] = true
  | [], i, x, h => by cases h
  | y :: l, i, x, h => by
    simp only [loansS] at h
    have rc : x ∈ loansS (i + 1) l → ∃ (j : Nat) (h : j < (y :: l).length), x = loanAt (i + j) (y :: l)[j] ∧ takes (y :: l)[j] = true := fun h => by
      obtain ⟨j, hj, e, t⟩ := loans_at l (i + 1) x h
      exact ⟨j + 1, by simpa using hj, by simpa [Nat.add_assoc, Nat.add_comm 1 j] using e, by simpa using t⟩
    split at h
    · rename_i ht
      rcases List.mem_cons.1 h with h | h
      · exact ⟨0, by simp, by simpa using h, by simpa using ht⟩
      · exact rc h
    · exact rc h
theorem region_of {m : Mir} (h : mayB m = true) {x : MInst} (hx : x ∈ m.code) (ht : takes x = true) : 0 ≤ x.val.region ∧ x.val.region < m.regions := by
  simp only [mayB, Bool.and_eq_true, List.all_eq_true] at h
  have := h.2 x hx
  simp only [takes, Bool.and_eq_true, Bool.or_eq_true, decide_eq_true_eq] at ht
  simp only [instB, ht.1, if_true, valB, ht.2, inB, Bool.and_eq_true, decide_eq_true_eq] at this
  omega

/-- Does a loan go on there? -/
def GoesL (m : Mir) (pts : List (List Bool)) (k p : Nat) : Prop := Goes (nx m) (ptP (loansOf m)) (okP pts (loansOf m)) (endsP m (loansOf m)) (loansOf m).length k p ∧ 0 ≤ dist0 (nx m) 0 p
/-- Which loans go on there: for each point. -/
noncomputable def inL (m : Mir) (pts : List (List Bool)) : List (List Int) := inR (GoesL m pts) (loansOf m).length m.code.length

set_option maxHeartbeats 1000000 in
theorem in_retF (m : Mir) (hm : m.ok) (hgr : greatB m = false) (hmay : mayB m = true) (pts : List (List Bool)) (hp1 : pts.length ≤ 1000) (hp2 : ∀ r ∈ pts, r.length ≤ 1000) : PRetF Try.prog 29 [.agg m.cells, encL (cL cB) pts] (encL (cL cI) (inL m pts)) := by
  have hg := okG_of hmay
  have hN := hg.le
  have hpos := hg.pos
  refine pretF_intro fdw29 (by simp) ?_
  simp only [lcw29, VC0, VC1, VC2, VC3, VC4, VC5, VC6, VC7, VC8, reduceIte, reduceCtorEq, Nat.reduceEqDiff, Nat.reduceAdd, Nat.reduceMul, Nat.reduceBEq, Nat.reduceLT, Nat.reduceLeDiff, Int.reduceEq, Int.reduceLT, Int.reduceLE, Int.reduceNeg, Int.reduceToNat, Int.reduceAdd, Nat.reduceDiv, Nat.reduceSub, Nat.reduceMod, encL, MC0, MC1, MC2]
  refine callX_of (reach_ret m hm) (.inl rfl) ?_
  obtain ⟨rl, hrl⟩ : ∃ rl : List Bool, rl = (List.range m.code.length).map (fun t => decide (0 ≤ dist0 (nx m) 0 t)) := ⟨_, rfl⟩
  rw [if_pos hmay, ← hrl]
  have hrll : rl.length = m.code.length := by rw [hrl]; simp
  have hz : decide ((m.code.length : Int) = 0) = false := decide_eq_false (by omega)
  simp only [VC0, VC1, VC2, VC3, VC4, VC5, VC6, VC7, VC8, reduceIte, reduceCtorEq, Nat.reduceEqDiff, Nat.reduceAdd, Nat.reduceMul, Nat.reduceBEq, Nat.reduceLT, Nat.reduceLeDiff, Int.reduceEq, Int.reduceLT, Int.reduceLE, Int.reduceNeg, Int.reduceToNat, Int.reduceAdd, Nat.reduceDiv, Nat.reduceSub, Nat.reduceMod, encL, MC0, MC1, MC2, hrll, hz]
  refine callX_of (taken_ret m hm hgr) (.inl rfl) ?_
  rw [if_pos hmay]
  simp only [VC0, VC1, VC2, VC3, VC4, VC5, VC6, VC7, VC8, reduceIte, reduceCtorEq, Nat.reduceEqDiff, Nat.reduceAdd, Nat.reduceMul, Nat.reduceBEq, Nat.reduceLT, Nat.reduceLeDiff, Int.reduceEq, Int.reduceLT, Int.reduceLE, Int.reduceNeg, Int.reduceToNat, Int.reduceAdd, Nat.reduceDiv, Nat.reduceSub, Nat.reduceMod, encL, MC0, MC1, MC2, sc_0]
  obtain ⟨Ls, hLs⟩ : ∃ Ls, Ls = loansOf m := ⟨_, rfl⟩
  rw [← hLs]
  have hLl : Ls.length ≤ m.code.length := by rw [hLs]; exact loansS_len _ _
  have hmemL : ∀ x ∈ Ls, x ∈ loansS 0 m.code := by rw [hLs]; exact fun _ h => h
  refine loop_vcg (ι := (Nat × List Pr) × (Nat → Nat)) (fun y => stO [(9, .clo 47 [6, 2, 3, 7, 8]), (2, .box m.cells), (3, .box [encL (cL cB) pts]), (5, .val (encL cB rl)), (6, .box [encL MLoan.cells Ls]), (7, .boxm [] (seenE y.1.2)), (8, .boxo 2 y.1.2.length (y.1.2.flatMap cW)), (26, .val (encL MLoan.cells Ls)), (27, .val (.int .i64 Ls.length)), (28, .val (.int .i64 (y.1.1 : Nat)))] y.2)
    (fun y => y.1.1 ≤ Ls.length ∧ InP m pts Ls y.1.1 y.1.2) (fun y => Ls.length - y.1.1) ((0, []), _) ⟨Nat.zero_le _, ⟨⟨fun q h => (by cases h), List.nodup_nil, fun q h => (by cases h), fun q h => (by cases h), fun q h => (by cases h)⟩, fun j h => absurd h (Nat.not_lt_zero _), by unfold unseen; simp [List.countP_le_length]⟩⟩ (ent_of _ [] rfl rfl (by
      simp only [VC0, VC1, VC2, VC3, VC4, VC5, VC6, VC7, VC8, reduceIte, reduceCtorEq, Nat.reduceEqDiff, Nat.reduceAdd, Nat.reduceMul, Nat.reduceBEq, Nat.reduceLT, Nat.reduceLeDiff, Int.reduceEq, Int.reduceLT, Int.reduceLE, Int.reduceNeg, Int.reduceToNat, Int.reduceAdd, Nat.reduceDiv, Nat.reduceSub, Nat.reduceMod, encL, MC0, MC1, MC2, hrll, seen_snap, seen_snapv, seen_sok, seen_imv, seen_key, cw_len, cw_snap, cw_sok, cw_imv, cw_take, fitc_imv, lo_imv, List.getElem?_cons_zero, List.take_zero, List.all_cons, List.all_nil, List.any_cons, List.any_nil, List.map_cons, List.map_nil, Bool.false_and, Bool.true_and, Bool.and_true, Bool.false_or, Bool.true_or, Bool.or_true, Bool.or_false, Nat.reduceBEq, Nat.reduceEqDiff, seenE, List.flatMap_nil])) ?_
  rintro ⟨⟨k, vs⟩, c⟩ hk
  obtain ⟨hk, hI⟩ : k ≤ Ls.length ∧ InP m pts Ls k vs := hk
  simp only [VC0, VC1, VC2, VC3, VC4, VC5, VC6, VC7, VC8, reduceIte, reduceCtorEq, Nat.reduceEqDiff, Nat.reduceAdd, Nat.reduceMul, Nat.reduceBEq, Nat.reduceLT, Nat.reduceLeDiff, Int.reduceEq, Int.reduceLT, Int.reduceLE, Int.reduceNeg, Int.reduceToNat, Int.reduceAdd, Nat.reduceDiv, Nat.reduceSub, Nat.reduceMod, encL, MC0, MC1, MC2]
  refine condD_of (fun h => ?_) (fun h => ?_)
  · have hk' : k < Ls.length := by omega
    have k1 : 0 ≤ (k : Int) ∧ (k : Int) < Ls.length := by omega
    simp only [VC0, VC1, VC2, VC3, VC4, VC5, VC6, VC7, VC8, reduceIte, reduceCtorEq, Nat.reduceEqDiff, Nat.reduceAdd, Nat.reduceMul, Nat.reduceBEq, Nat.reduceLT, Nat.reduceLeDiff, Int.reduceEq, Int.reduceLT, Int.reduceLE, Int.reduceNeg, Int.reduceToNat, Int.reduceAdd, Nat.reduceDiv, Nat.reduceSub, Nat.reduceMod, encL, MC0, MC1, MC2, k1, lo_ld0 hk' (n := 5) (agg := true) (by decide) (by decide), MLoan.call, MLoan.onec, MLoan.len, MLoan.c0, sc_50, seen_snap, seen_snapv, seen_sok, seen_imv, seen_key, cw_len, cw_snap, cw_sok, cw_imv, cw_take, fitc_imv, lo_imv, List.getElem?_cons_zero, List.take_zero, List.all_cons, List.all_nil, List.any_cons, List.any_nil, List.map_cons, List.map_nil, Bool.false_and, Bool.true_and, Bool.and_true, Bool.false_or, Bool.true_or, Bool.or_true, Bool.or_false, Nat.reduceBEq, Nat.reduceEqDiff, lo_snap, lo_len, fitc_snap, fitc_len, sok_lo, sok_fc, MLoan.snapc, MLoan.sokc]
    obtain ⟨u, hu, hlu, htk⟩ := loans_at m.code 0 Ls[k] (hmemL _ (List.getElem_mem hk'))
    rw [Nat.zero_add] at hlu
    have hpt : Ls[k].pt = (u : Int) := by rw [hlu]; rfl
    have hrg := region_of hmay (List.getElem_mem hu) htk
    obtain ⟨g, hg'⟩ : ∃ g : Nat, Ls[k].reg = (g : Int) := ⟨Ls[k].reg.toNat, by rw [hlu]; simp only [loanAt]; omega⟩
    have u1 : 0 ≤ (u : Int) ∧ (u : Int) < m.code.length := by omega
    refine callX_inl fdw47 (by simp) ?_
    simp only [lcw47, VC0, VC1, VC2, VC3, VC4, VC5, VC6, VC7, VC8, reduceIte, reduceCtorEq, Nat.reduceEqDiff, Nat.reduceAdd, Nat.reduceMul, Nat.reduceBEq, Nat.reduceLT, Nat.reduceLeDiff, Int.reduceEq, Int.reduceLT, Int.reduceLE, Int.reduceNeg, Int.reduceToNat, Int.reduceAdd, Nat.reduceDiv, Nat.reduceSub, Nat.reduceMod, encL, MC0, MC1, MC2, k1, u1, hu, hpt, hg', lo_ld hk' (j := 1) (n := 1) (agg := false) (by decide) (by decide), MLoan.c1]
    have hokP : ∀ t : Nat, okP pts Ls k t = (decide ((g : Int) < pts.length) && (decide (t < (pts.getD g []).length) && (pts.getD g []).getD t false)) := fun t => by
      simp only [okP, List.getD_eq_getElem?_getD, List.getElem?_eq_getElem hk', Option.getD_some, hg', Int.toNat_natCast]
    have hptP : ptP Ls k = u := by simp only [ptP, List.getD_eq_getElem?_getD, List.getElem?_eq_getElem hk', Option.getD_some, hpt, Int.toNat_natCast]
    have hyl := (hg.nx _ (List.getElem_mem hu)).1
    have hy := (hg.nx _ (List.getElem_mem hu)).2
    have hnxlt := nx_lt' hg
    obtain ⟨hW, hseeds, hcap⟩ := hI
    rw [grid_len] at hcap
    have hLN : Ls.length * m.code.length ≤ 6000 * 6000 := Nat.mul_le_mul (by omega) hN
    have hnx : nx m u = (m.code[u].next).map Int.toNat := by simp [nx, hu]
    generalize m.code[u].next = nxt at hy hnx hyl
    refine loop_vcg (ι := (Nat × List Pr × List Pr) × (Nat → Nat)) (fun y => stO [(4, .ali 100006), (5, .ali 100014), (6, .ali 100016), (100018, .clo 47 [100012, 100004, 100006, 100014, 100016]), (0, .val (.int .i64 (k : Nat))), (9, .val (.int .i64 (g : Nat))), (23, .val (encL cI nxt)), (24, .val (.int .i64 nxt.length)), (25, .val (.int .i64 (y.1.1 : Nat))), (100004, .box m.cells), (100006, .box [encL (cL cB) pts]), (100010, .val (encL cB rl)), (100012, .box [encL MLoan.cells Ls]), (100014, .boxm [] (seenE y.1.2.1)), (100016, .boxo 2 y.1.2.2.length (y.1.2.2.flatMap cW)), (100052, .val (encL MLoan.cells Ls)), (100054, .val (.int .i64 Ls.length)), (100056, .val (.int .i64 (k : Nat)))] y.2)
      (fun y => y.1.1 ≤ nxt.length ∧ (y.1.2.1, y.1.2.2) = onW (okP pts Ls k) k ((nx m u).take y.1.1) (vs, vs)) (fun y => nxt.length - y.1.1) ((0, vs, vs), _) ⟨Nat.zero_le _, rfl⟩ (ent_of _ [] rfl rfl (by
        simp only [VC0, VC1, VC2, VC3, VC4, VC5, VC6, VC7, VC8, reduceIte, reduceCtorEq, Nat.reduceEqDiff, Nat.reduceAdd, Nat.reduceMul, Nat.reduceBEq, Nat.reduceLT, Nat.reduceLeDiff, Int.reduceEq, Int.reduceLT, Int.reduceLE, Int.reduceNeg, Int.reduceToNat, Int.reduceAdd, Nat.reduceDiv, Nat.reduceSub, Nat.reduceMod, encL, MC0, MC1, MC2, seen_snap, seen_snapv, seen_sok, seen_imv, seen_key, cw_len, cw_snap, cw_sok, cw_imv, cw_take, fitc_imv, lo_imv, List.getElem?_cons_zero, List.take_zero, List.all_cons, List.all_nil, List.any_cons, List.any_nil, List.map_cons, List.map_nil, Bool.false_and, Bool.true_and, Bool.and_true, Bool.false_or, Bool.true_or, Bool.or_true, Bool.or_false, Nat.reduceBEq, Nat.reduceEqDiff]
        try decide)) ?_
    rintro ⟨⟨b, vs', w'⟩, c⟩ hb
    obtain ⟨hb, hon⟩ : b ≤ nxt.length ∧ (vs', w') = onW (okP pts Ls k) k ((nx m u).take b) (vs, vs) := hb
    simp only [VC0, VC1, VC2, VC3, VC4, VC5, VC6, VC7, VC8, reduceIte, reduceCtorEq, Nat.reduceEqDiff, Nat.reduceAdd, Nat.reduceMul, Nat.reduceBEq, Nat.reduceLT, Nat.reduceLeDiff, Int.reduceEq, Int.reduceLT, Int.reduceLE, Int.reduceNeg, Int.reduceToNat, Int.reduceAdd, Nat.reduceDiv, Nat.reduceSub, Nat.reduceMod, encL, MC0, MC1, MC2]
    refine condD_of (fun h => ?_) (fun h => ?_)
    · have hb' : b < nxt.length := by omega
      have b1 : 0 ≤ (b : Int) ∧ (b : Int) < nxt.length := by omega
      have i2 : InI64 ((b : Int) + 1) := by unfold InI64; omega
      obtain ⟨t, ht⟩ : ∃ t : Nat, nxt[b] = (t : Int) := ⟨nxt[b].toNat, by have hyb := hy nxt[b] (List.getElem_mem hb'); omega⟩
      have hbl : b < (nx m u).length := by rw [hnx]; simpa using hb'
      have htk : (nx m u).take (b + 1) = (nx m u).take b ++ [t] := by
        rw [List.take_add_one, List.getElem?_eq_getElem hbl]
        simp [hnx, ht]
      have hon' : onW (okP pts Ls k) k ((nx m u).take (b + 1)) (vs, vs) = pushW (okP pts Ls k) k (vs', w') t := by rw [htk, onW_snoc, ← hon]
      have hsame : okP pts Ls k t = false ∨ (k, t) ∈ vs' → (vs', w') = onW (okP pts Ls k) k ((nx m u).take (b + 1)) (vs, vs) := fun hh => by
        rw [hon', pushW, if_neg (by rintro ⟨h1, h2⟩; exact hh.elim (fun hh => by rw [hh] at h1; cases h1) h2)]
      simp only [VC0, VC1, VC2, VC3, VC4, VC5, VC6, VC7, VC8, reduceIte, reduceCtorEq, Nat.reduceEqDiff, Nat.reduceAdd, Nat.reduceMul, Nat.reduceBEq, Nat.reduceLT, Nat.reduceLeDiff, Int.reduceEq, Int.reduceLT, Int.reduceLE, Int.reduceNeg, Int.reduceToNat, Int.reduceAdd, Nat.reduceDiv, Nat.reduceSub, Nat.reduceMod, encL, MC0, MC1, MC2, hb', b1, ht, sc_0, sc_1, sc_20, ld_20, seen_snap, seen_snapv, seen_sok, seen_imv, seen_key, cw_len, cw_snap, cw_sok, cw_imv, cw_take, fitc_imv, lo_imv, List.getElem?_cons_zero, List.take_zero]
      cases c1 : decide ((g : Int) < pts.length) <;> simp only [VC0, VC1, VC2, VC3, VC4, VC5, VC6, VC7, VC8, reduceIte, reduceCtorEq, Nat.reduceEqDiff, Nat.reduceAdd, Nat.reduceMul, Nat.reduceBEq, Nat.reduceLT, Nat.reduceLeDiff, Int.reduceEq, Int.reduceLT, Int.reduceLE, Int.reduceNeg, Int.reduceToNat, Int.reduceAdd, Nat.reduceDiv, Nat.reduceSub, Nat.reduceMod, encL, MC0, MC1, MC2, c1, i2]
      · have hok : okP pts Ls k t = false := by rw [hokP, c1]; rfl
        refine backTo_of ((b + 1, vs', w'), _) ⟨hb', ?_⟩ (by simp only []; omega) (ent_of _ [] rfl rfl (by
          simp only [VC0, VC1, VC2, VC3, VC4, VC5, VC6, VC7, VC8, reduceIte, reduceCtorEq, Nat.reduceEqDiff, Nat.reduceAdd, Nat.reduceMul, Nat.reduceBEq, Nat.reduceLT, Nat.reduceLeDiff, Int.reduceEq, Int.reduceLT, Int.reduceLE, Int.reduceNeg, Int.reduceToNat, Int.reduceAdd, Nat.reduceDiv, Nat.reduceSub, Nat.reduceMod, encL, MC0, MC1, MC2, seen_snap, seen_snapv, seen_sok, seen_imv, seen_key, cw_len, cw_snap, cw_sok, cw_imv, cw_take, fitc_imv, lo_imv, List.getElem?_cons_zero, List.take_zero, List.all_cons, List.all_nil, List.any_cons, List.any_nil, List.map_cons, List.map_nil, Bool.false_and, Bool.true_and, Bool.and_true, Bool.false_or, Bool.true_or, Bool.or_true, Bool.or_false, Nat.reduceBEq, Nat.reduceEqDiff]
          try decide))
        exact hsame (.inl hok)
      have hgl : g < pts.length := by have := of_decide_eq_true c1; omega
      have g1 : 0 ≤ (g : Int) ∧ (g : Int) < pts.length := by omega
      have hpg : pts.getD g [] = pts[g] := by simp [hgl]
      simp only [VC0, VC1, VC2, VC3, VC4, VC5, VC6, VC7, VC8, reduceIte, reduceCtorEq, Nat.reduceEqDiff, Nat.reduceAdd, Nat.reduceMul, Nat.reduceBEq, Nat.reduceLT, Nat.reduceLeDiff, Int.reduceEq, Int.reduceLT, Int.reduceLE, Int.reduceNeg, Int.reduceToNat, Int.reduceAdd, Nat.reduceDiv, Nat.reduceSub, Nat.reduceMod, encL, MC0, MC1, MC2, g1, fitc_ld hgl]
      cases c2 : decide ((t : Int) < pts[g].length) <;> simp only [VC0, VC1, VC2, VC3, VC4, VC5, VC6, VC7, VC8, reduceIte, reduceCtorEq, Nat.reduceEqDiff, Nat.reduceAdd, Nat.reduceMul, Nat.reduceBEq, Nat.reduceLT, Nat.reduceLeDiff, Int.reduceEq, Int.reduceLT, Int.reduceLE, Int.reduceNeg, Int.reduceToNat, Int.reduceAdd, Nat.reduceDiv, Nat.reduceSub, Nat.reduceMod, encL, MC0, MC1, MC2, c2, i2]
      · have hok : okP pts Ls k t = false := by
          have : decide (t < pts[g].length) = false := decide_eq_false (by have := of_decide_eq_false c2; omega)
          rw [hokP, c1, hpg, this]; rfl
        refine backTo_of ((b + 1, vs', w'), _) ⟨hb', ?_⟩ (by simp only []; omega) (ent_of _ [] rfl rfl (by
          simp only [VC0, VC1, VC2, VC3, VC4, VC5, VC6, VC7, VC8, reduceIte, reduceCtorEq, Nat.reduceEqDiff, Nat.reduceAdd, Nat.reduceMul, Nat.reduceBEq, Nat.reduceLT, Nat.reduceLeDiff, Int.reduceEq, Int.reduceLT, Int.reduceLE, Int.reduceNeg, Int.reduceToNat, Int.reduceAdd, Nat.reduceDiv, Nat.reduceSub, Nat.reduceMod, encL, MC0, MC1, MC2, seen_snap, seen_snapv, seen_sok, seen_imv, seen_key, cw_len, cw_snap, cw_sok, cw_imv, cw_take, fitc_imv, lo_imv, List.getElem?_cons_zero, List.take_zero, List.all_cons, List.all_nil, List.any_cons, List.any_nil, List.map_cons, List.map_nil, Bool.false_and, Bool.true_and, Bool.and_true, Bool.false_or, Bool.true_or, Bool.or_true, Bool.or_false, Nat.reduceBEq, Nat.reduceEqDiff]
          try decide))
        exact hsame (.inl hok)
      have htl : t < pts[g].length := by have := of_decide_eq_true c2; omega
      have t1 : 0 ≤ (t : Int) ∧ (t : Int) < pts[g].length := by omega
      have hpt' : pts[g].getD t false = pts[g][t] := by simp [htl]
      have c2' : decide (t < pts[g].length) = true := decide_eq_true htl
      simp only [VC0, VC1, VC2, VC3, VC4, VC5, VC6, VC7, VC8, reduceIte, reduceCtorEq, Nat.reduceEqDiff, Nat.reduceAdd, Nat.reduceMul, Nat.reduceBEq, Nat.reduceLT, Nat.reduceLeDiff, Int.reduceEq, Int.reduceLT, Int.reduceLE, Int.reduceNeg, Int.reduceToNat, Int.reduceAdd, Nat.reduceDiv, Nat.reduceSub, Nat.reduceMod, encL, MC0, MC1, MC2, g1, t1, fitc_ld hgl, htl]
      cases c3 : pts[g][t] <;> simp only [VC0, VC1, VC2, VC3, VC4, VC5, VC6, VC7, VC8, reduceIte, reduceCtorEq, Nat.reduceEqDiff, Nat.reduceAdd, Nat.reduceMul, Nat.reduceBEq, Nat.reduceLT, Nat.reduceLeDiff, Int.reduceEq, Int.reduceLT, Int.reduceLE, Int.reduceNeg, Int.reduceToNat, Int.reduceAdd, Nat.reduceDiv, Nat.reduceSub, Nat.reduceMod, encL, MC0, MC1, MC2, c3, i2]
      · have hok : okP pts Ls k t = false := by rw [hokP, c1, hpg, c2', hpt', c3]; rfl
        refine backTo_of ((b + 1, vs', w'), _) ⟨hb', ?_⟩ (by simp only []; omega) (ent_of _ [] rfl rfl (by
          simp only [VC0, VC1, VC2, VC3, VC4, VC5, VC6, VC7, VC8, reduceIte, reduceCtorEq, Nat.reduceEqDiff, Nat.reduceAdd, Nat.reduceMul, Nat.reduceBEq, Nat.reduceLT, Nat.reduceLeDiff, Int.reduceEq, Int.reduceLT, Int.reduceLE, Int.reduceNeg, Int.reduceToNat, Int.reduceAdd, Nat.reduceDiv, Nat.reduceSub, Nat.reduceMod, encL, MC0, MC1, MC2, seen_snap, seen_snapv, seen_sok, seen_imv, seen_key, cw_len, cw_snap, cw_sok, cw_imv, cw_take, fitc_imv, lo_imv, List.getElem?_cons_zero, List.take_zero, List.all_cons, List.all_nil, List.any_cons, List.any_nil, List.map_cons, List.map_nil, Bool.false_and, Bool.true_and, Bool.and_true, Bool.false_or, Bool.true_or, Bool.or_true, Bool.or_false, Nat.reduceBEq, Nat.reduceEqDiff]
          try decide))
        exact hsame (.inl hok)
      have hok : okP pts Ls k t = true := by rw [hokP, c1, hpg, c2', hpt', c3]; rfl
      by_cases hseen : (k, t) ∈ vs'
      · obtain ⟨j, hf⟩ := (seen_find k t vs').1 hseen
        simp only [VC0, VC1, VC2, VC3, VC4, VC5, VC6, VC7, VC8, reduceIte, reduceCtorEq, Nat.reduceEqDiff, Nat.reduceAdd, Nat.reduceMul, Nat.reduceBEq, Nat.reduceLT, Nat.reduceLeDiff, Int.reduceEq, Int.reduceLT, Int.reduceLE, Int.reduceNeg, Int.reduceToNat, Int.reduceAdd, Nat.reduceDiv, Nat.reduceSub, Nat.reduceMod, encL, MC0, MC1, MC2, sc_0, sc_1, sc_20, ld_20, seen_key, hf, i2]
        refine backTo_of ((b + 1, vs', w'), _) ⟨hb', ?_⟩ (by simp only []; omega) (ent_of _ [] rfl rfl (by
          simp only [VC0, VC1, VC2, VC3, VC4, VC5, VC6, VC7, VC8, reduceIte, reduceCtorEq, Nat.reduceEqDiff, Nat.reduceAdd, Nat.reduceMul, Nat.reduceBEq, Nat.reduceLT, Nat.reduceLeDiff, Int.reduceEq, Int.reduceLT, Int.reduceLE, Int.reduceNeg, Int.reduceToNat, Int.reduceAdd, Nat.reduceDiv, Nat.reduceSub, Nat.reduceMod, encL, MC0, MC1, MC2, seen_snap, seen_snapv, seen_sok, seen_imv, seen_key, cw_len, cw_snap, cw_sok, cw_imv, cw_take, fitc_imv, lo_imv, List.getElem?_cons_zero, List.take_zero, List.all_cons, List.all_nil, List.any_cons, List.any_nil, List.map_cons, List.map_nil, Bool.false_and, Bool.true_and, Bool.and_true, Bool.false_or, Bool.true_or, Bool.or_true, Bool.or_false, Nat.reduceBEq, Nat.reduceEqDiff]
          try decide))
        exact hsame (.inr hseen)
      · have hf := (seen_find k t vs').2 hseen
        have hset := fun v => setK_none v hf
        obtain ⟨es, e1, _, _, _, e5⟩ := onW_spec (ok := okP pts Ls k) (N := m.code.length) hk' ((nx m u).take b) vs vs (fun p hp => hnxlt _ _ (List.mem_of_mem_take hp))
        rw [← hon] at e1
        injection e1 with e1 e2
        have hwl : w'.length ≤ 36000000 := by
          rw [e2, List.length_append]; omega
        simp only [VC0, VC1, VC2, VC3, VC4, VC5, VC6, VC7, VC8, reduceIte, reduceCtorEq, Nat.reduceEqDiff, Nat.reduceAdd, Nat.reduceMul, Nat.reduceBEq, Nat.reduceLT, Nat.reduceLeDiff, Int.reduceEq, Int.reduceLT, Int.reduceLE, Int.reduceNeg, Int.reduceToNat, Int.reduceAdd, Nat.reduceDiv, Nat.reduceSub, Nat.reduceMod, encL, MC0, MC1, MC2, sc_0, sc_1, sc_20, ld_20, seen_key, hf, i2, hset, cw_len]
        refine And.intro ⟨by omega, by omega⟩ (backTo_of ((b + 1, vs' ++ [(k, t)], w' ++ [(k, t)]), _) ⟨hb', ?_⟩ (by simp only []; omega) (ent_of _ [] rfl rfl (by
          simp only [VC0, VC1, VC2, VC3, VC4, VC5, VC6, VC7, VC8, reduceIte, reduceCtorEq, Nat.reduceEqDiff, Nat.reduceAdd, Nat.reduceMul, Nat.reduceBEq, Nat.reduceLT, Nat.reduceLeDiff, Int.reduceEq, Int.reduceLT, Int.reduceLE, Int.reduceNeg, Int.reduceToNat, Int.reduceAdd, Nat.reduceDiv, Nat.reduceSub, Nat.reduceMod, encL, MC0, MC1, MC2, seen_snap, seen_snapv, seen_sok, seen_imv, seen_key, cw_len, cw_snap, cw_sok, cw_imv, cw_take, fitc_imv, lo_imv, List.getElem?_cons_zero, List.take_zero, List.all_cons, List.all_nil, List.any_cons, List.any_nil, List.map_cons, List.map_nil, Bool.false_and, Bool.true_and, Bool.and_true, Bool.false_or, Bool.true_or, Bool.or_true, Bool.or_false, Nat.reduceBEq, Nat.reduceEqDiff, sc_0, hset, List.map_append, List.all_append, seen_app, cw_app]
          try decide)))
        rw [hon', pushW, if_pos ⟨hok, hseen⟩]
    · have hb' : b = nxt.length := by omega
      subst hb'
      have htake : (nx m u).take nxt.length = nx m u := List.take_of_length_le (by rw [hnx]; simp)
      rw [htake] at hon
      obtain ⟨vs2, f1, f2, f3, f4⟩ := hW.seed hnxlt hk'
      rw [hptP, ← hon] at f1
      injection f1 with f1 f1'
      have f1'' : w' = vs' := by rw [f1', f1]
      subst f1''
      subst f1
      obtain ⟨es, e1, _, _, _, e5⟩ := onW_spec (ok := okP pts Ls k) (N := m.code.length) hk' (nx m u) vs vs (hnxlt _)
      rw [← hon] at e1
      injection e1 with e1 e2
      have i2 : InI64 ((k : Int) + 1) := by unfold InI64; omega
      simp only [VC0, VC1, VC2, VC3, VC4, VC5, VC6, VC7, VC8, reduceIte, reduceCtorEq, Nat.reduceEqDiff, Nat.reduceAdd, Nat.reduceMul, Nat.reduceBEq, Nat.reduceLT, Nat.reduceLeDiff, Int.reduceEq, Int.reduceLT, Int.reduceLE, Int.reduceNeg, Int.reduceToNat, Int.reduceAdd, Nat.reduceDiv, Nat.reduceSub, Nat.reduceMod, encL, MC0, MC1, MC2, List.mapM_nil, Option.pure_def, Option.map_some, Option.some.injEq, exists_eq_left', i2]
      refine backTo_of ((k + 1, w'), _) ⟨hk', f2, ?_, ?_⟩ (by simp only []; omega) (ent_of _ [] rfl rfl (by
        simp only [VC0, VC1, VC2, VC3, VC4, VC5, VC6, VC7, VC8, reduceIte, reduceCtorEq, Nat.reduceEqDiff, Nat.reduceAdd, Nat.reduceMul, Nat.reduceBEq, Nat.reduceLT, Nat.reduceLeDiff, Int.reduceEq, Int.reduceLT, Int.reduceLE, Int.reduceNeg, Int.reduceToNat, Int.reduceAdd, Nat.reduceDiv, Nat.reduceSub, Nat.reduceMod, encL, MC0, MC1, MC2, seen_snap, seen_snapv, seen_sok, seen_imv, seen_key, cw_len, cw_snap, cw_sok, cw_imv, cw_take, fitc_imv, lo_imv, List.getElem?_cons_zero, List.take_zero, List.all_cons, List.all_nil, List.any_cons, List.any_nil, List.map_cons, List.map_nil, Bool.false_and, Bool.true_and, Bool.and_true, Bool.false_or, Bool.true_or, Bool.or_true, Bool.or_false, Nat.reduceBEq, Nat.reduceEqDiff]
        try decide))
      · intro j hj p hp hok
        rcases Nat.lt_or_ge j k with h' | h'
        · exact f3 _ (hseeds j h' p hp hok)
        · have hj : j < k + 1 := hj
          obtain rfl : j = k := by omega
          exact f4 p hp hok
      · show w'.length + unseen (grid Ls.length m.code.length) w' ≤ (grid Ls.length m.code.length).length
        rw [grid_len, e1, List.length_append]; omega
  · have hk' : k = Ls.length := by omega
    subst hk'
    obtain ⟨hW, hseeds, hcap⟩ := hI
    rw [grid_len] at hcap
    have hLN : Ls.length * m.code.length ≤ 6000 * 6000 := Nat.mul_le_mul (by omega) hN
    have hnxlt := nx_lt' hg
    simp only [VC0, VC1, VC2, VC3, VC4, VC5, VC6, VC7, VC8, reduceIte, reduceCtorEq, Nat.reduceEqDiff, Nat.reduceAdd, Nat.reduceMul, Nat.reduceBEq, Nat.reduceLT, Nat.reduceLeDiff, Int.reduceEq, Int.reduceLT, Int.reduceLE, Int.reduceNeg, Int.reduceToNat, Int.reduceAdd, Nat.reduceDiv, Nat.reduceSub, Nat.reduceMod, encL, MC0, MC1, MC2]
    refine And.intro (by omega) ?_
    refine loop_vcg (ι := (List Pr × List Pr × List (List Int)) × (Nat → Nat)) (fun y => stO [(9, .clo 47 [6, 2, 3, 7, 8]), (2, .box m.cells), (3, .box [encL (cL cB) pts]), (5, .val (encL cB rl)), (6, .box [encL MLoan.cells Ls]), (7, .boxm [] (seenE y.1.1)), (8, .boxo 2 y.1.2.1.length (y.1.2.1.flatMap cW)), (12, .rows 1 (rsI cI y.1.2.2))] y.2)
      (fun y => WInv (nx m) (ptP Ls) (okP pts Ls) (endsP m Ls) Ls.length m.code.length y.1.1 y.1.2.1 ∧ (∀ j, j < Ls.length → ∀ p ∈ nx m (ptP Ls j), okP pts Ls j p = true → (j, p) ∈ y.1.1) ∧ (y.1.1.length + unseen (grid Ls.length m.code.length) y.1.1 ≤ Ls.length * m.code.length ∧ ∀ t, (y.1.2.2.getD t []).length + y.1.2.1.length ≤ y.1.1.length) ∧ RowsInv (fun t => rl.getD t false) m.code.length y.1.1 y.1.2.1 y.1.2.2)
      (fun y => y.1.2.1.length + 2 * unseen (grid Ls.length m.code.length) y.1.1) ((vs, vs, List.replicate m.code.length []), _) ⟨hW, hseeds, ⟨hcap, fun t => by simp only [List.getD_replicate_nil, List.length_nil]; omega⟩, rows_start _ _ _⟩ (ent_of _ [] rfl rfl (by
        simp only [VC0, VC1, VC2, VC3, VC4, VC5, VC6, VC7, VC8, reduceIte, reduceCtorEq, Nat.reduceEqDiff, Nat.reduceAdd, Nat.reduceMul, Nat.reduceBEq, Nat.reduceLT, Nat.reduceLeDiff, Int.reduceEq, Int.reduceLT, Int.reduceLE, Int.reduceNeg, Int.reduceToNat, Int.reduceAdd, Nat.reduceDiv, Nat.reduceSub, Nat.reduceMod, encL, MC0, MC1, MC2, seen_snap, seen_snapv, seen_sok, seen_imv, seen_key, cw_len, cw_snap, cw_sok, cw_imv, cw_take, fitc_imv, lo_imv, List.getElem?_cons_zero, List.take_zero, List.all_cons, List.all_nil, List.any_cons, List.any_nil, List.map_cons, List.map_nil, Bool.false_and, Bool.true_and, Bool.and_true, Bool.false_or, Bool.true_or, Bool.or_true, Bool.or_false, Nat.reduceBEq, Nat.reduceEqDiff, ne_eq, Prod.mk.injEq, false_and, not_false_eq_true, true_and]
        refine rowsAt_mk rfl (by simp) (by decide) ?_
        simp only [VC0, VC1, VC2, VC3, VC4, VC5, VC6, VC7, VC8, reduceIte, reduceCtorEq, Nat.reduceEqDiff, Nat.reduceAdd, Nat.reduceMul, Nat.reduceBEq, Nat.reduceLT, Nat.reduceLeDiff, Int.reduceEq, Int.reduceLT, Int.reduceLE, Int.reduceNeg, Int.reduceToNat, Int.reduceAdd, Nat.reduceDiv, Nat.reduceSub, Nat.reduceMod, encL, MC0, MC1, MC2, seen_snap, seen_snapv, seen_sok, seen_imv, seen_key, cw_len, cw_snap, cw_sok, cw_imv, cw_take, fitc_imv, lo_imv, List.getElem?_cons_zero, List.take_zero, List.all_cons, List.all_nil, List.any_cons, List.any_nil, List.map_cons, List.map_nil, Bool.false_and, Bool.true_and, Bool.and_true, Bool.false_or, Bool.true_or, Bool.or_true, Bool.or_false, Nat.reduceBEq, Nat.reduceEqDiff, ne_eq, Prod.mk.injEq, false_and, not_false_eq_true, true_and, hrll])) ?_
    rintro ⟨⟨vs, w, R⟩, c⟩ hI
    obtain ⟨hW, hseeds, ⟨hcap, hrow⟩, hRows⟩ := hI
    simp only [] at hW hseeds hcap hrow hRows
    have hRl := hRows.1
    simp only [VC0, VC1, VC2, VC3, VC4, VC5, VC6, VC7, VC8, reduceIte, reduceCtorEq, Nat.reduceEqDiff, Nat.reduceAdd, Nat.reduceMul, Nat.reduceBEq, Nat.reduceLT, Nat.reduceLeDiff, Int.reduceEq, Int.reduceLT, Int.reduceLE, Int.reduceNeg, Int.reduceToNat, Int.reduceAdd, Nat.reduceDiv, Nat.reduceSub, Nat.reduceMod, encL, MC0, MC1, MC2, seen_snap, seen_snapv, seen_sok, seen_imv, seen_key, cw_len, cw_snap, cw_sok, cw_imv, cw_take, fitc_imv, lo_imv, List.getElem?_cons_zero, List.take_zero, List.all_cons, List.all_nil, List.any_cons, List.any_nil, List.map_cons, List.map_nil, Bool.false_and, Bool.true_and, Bool.and_true, Bool.false_or, Bool.true_or, Bool.or_true, Bool.or_false, Nat.reduceBEq, Nat.reduceEqDiff]
    refine condV_of (fun h => ?_) (fun h => ?_)
    · have hw0 : w ≠ [] := by rintro rfl; simp at h
      obtain ⟨w0, q, rfl⟩ : ∃ w0 q, w = w0 ++ [q] := ⟨w.dropLast, w.getLast hw0, (List.dropLast_concat_getLast hw0).symm⟩
      obtain ⟨k, p⟩ := q
      have hq := hW.rng _ (hW.sub (k, p) (by simp))
      have hkL : k < Ls.length := hq.1
      have hpN : p < m.code.length := hq.2
      have hwl : (w0 ++ [(k, p)]).length = w0.length + 1 := by simp
      have hwb : w0.length + 1 ≤ 36000000 := by have := hrow 0; rw [hwl] at this; omega
      have e1 : ((w0.length : Int) + 1 - 1) = w0.length := by omega
      have e2 : InI64 ((w0.length : Int) + 1 - 1) ∧ InI64 (w0.length : Int) := by unfold InI64; omega
      have e3 : 0 ≤ (w0.length : Int) ∧ (w0.length : Int) < (w0.length : Int) + 1 := by omega
      have e4 : (0 : Int) ≤ w0.length ∧ (w0.length : Int) ≤ (w0.length : Int) + 1 := by omega
      simp only [VC0, VC1, VC2, VC3, VC4, VC5, VC6, VC7, VC8, reduceIte, reduceCtorEq, Nat.reduceEqDiff, Nat.reduceAdd, Nat.reduceMul, Nat.reduceBEq, Nat.reduceLT, Nat.reduceLeDiff, Int.reduceEq, Int.reduceLT, Int.reduceLE, Int.reduceNeg, Int.reduceToNat, Int.reduceAdd, Nat.reduceDiv, Nat.reduceSub, Nat.reduceMod, encL, MC0, MC1, MC2, hwl, e1, e2, e3, e4, cw_last0, cw_last1, List.getElem?_cons_zero]
      refine join_vcg (ι := Nat → Nat) (fun c => stO [(9, .clo 47 [6, 2, 3, 7, 8]), (2, .box m.cells), (3, .box [encL (cL cB) pts]), (5, .val (encL cB rl)), (6, .box [encL MLoan.cells Ls]), (7, .boxm [] (seenE vs)), (8, .boxo 2 w0.length (w0.flatMap cW)), (12, .rows 1 (rsI cI R)), (13, .val (.int .i64 (k : Nat))), (14, .val (.int .i64 (p : Nat)))] c) (fun _ => True) ?_ ?_
      · simp only [VC0, VC1, VC2, VC3, VC4, VC5, VC6, VC7, VC8, reduceIte, reduceCtorEq, Nat.reduceEqDiff, Nat.reduceAdd, Nat.reduceMul, Nat.reduceBEq, Nat.reduceLT, Nat.reduceLeDiff, Int.reduceEq, Int.reduceLT, Int.reduceLE, Int.reduceNeg, Int.reduceToNat, Int.reduceAdd, Nat.reduceDiv, Nat.reduceSub, Nat.reduceMod, encL, MC0, MC1, MC2, hwl, e1, e2, e3, e4, cw_last0, cw_last1, List.getElem?_cons_zero, sc_0, cw_len]
        refine joinTo_of _ trivial (Ent.trans (Ent.cut (key := (4398046511112, 0)) (g := 0) (esz := 2) (cs := (w0 ++ [(k, p)]).flatMap cW) (w0.length * 2) (by simp only [VC0, VC1, VC2, VC3, VC4, VC5, VC6, VC7, VC8, reduceIte, reduceCtorEq, Nat.reduceEqDiff, Nat.reduceAdd, Nat.reduceMul, Nat.reduceBEq, Nat.reduceLT, Nat.reduceLeDiff, Int.reduceEq, Int.reduceLT, Int.reduceLE, Int.reduceNeg, Int.reduceToNat, Int.reduceAdd, Nat.reduceDiv, Nat.reduceSub, Nat.reduceMod, encL, MC0, MC1, MC2, hwl])) (ent_of _ [] rfl rfl ?_))
        simp only [VC0, VC1, VC2, VC3, VC4, VC5, VC6, VC7, VC8, reduceIte, reduceCtorEq, Nat.reduceEqDiff, Nat.reduceAdd, Nat.reduceMul, Nat.reduceBEq, Nat.reduceLT, Nat.reduceLeDiff, Int.reduceEq, Int.reduceLT, Int.reduceLE, Int.reduceNeg, Int.reduceToNat, Int.reduceAdd, Nat.reduceDiv, Nat.reduceSub, Nat.reduceMod, encL, MC0, MC1, MC2, seen_snap, seen_snapv, seen_sok, seen_imv, seen_key, cw_len, cw_snap, cw_sok, cw_imv, cw_take, fitc_imv, lo_imv, List.getElem?_cons_zero, List.take_zero, List.all_cons, List.all_nil, List.any_cons, List.any_nil, List.map_cons, List.map_nil, Bool.false_and, Bool.true_and, Bool.and_true, Bool.false_or, Bool.true_or, Bool.or_true, Bool.or_false, Nat.reduceBEq, Nat.reduceEqDiff, ne_eq, Prod.mk.injEq, false_and, not_false_eq_true, true_and, cw_cut, rsI_len, hrll]
        refine rowsAt_same (f := cI) (d := 12) (esz := 1) (R := R) rfl (fun j h => ?_) (li_imv 8) (by decide) (by first | rfl | exact hRl.symm | simp [rsI_len]) (by simp) (fun j _ => by simp) ?_
        · simp only [VC0, VC1, VC2, VC3, VC4, VC5, VC6, VC7, VC8, reduceIte, reduceCtorEq, Nat.reduceEqDiff, Nat.reduceAdd, Nat.reduceMul, Nat.reduceBEq, Nat.reduceLT, Nat.reduceLeDiff, Int.reduceEq, Int.reduceLT, Int.reduceLE, Int.reduceNeg, Int.reduceToNat, Int.reduceAdd, Nat.reduceDiv, Nat.reduceSub, Nat.reduceMod, encL, MC0, MC1, MC2, rsI_get cI h]
        · simp only [VC0, VC1, VC2, VC3, VC4, VC5, VC6, VC7, VC8, reduceIte, reduceCtorEq, Nat.reduceEqDiff, Nat.reduceAdd, Nat.reduceMul, Nat.reduceBEq, Nat.reduceLT, Nat.reduceLeDiff, Int.reduceEq, Int.reduceLT, Int.reduceLE, Int.reduceNeg, Int.reduceToNat, Int.reduceAdd, Nat.reduceDiv, Nat.reduceSub, Nat.reduceMod, encL, MC0, MC1, MC2, seen_snap, seen_snapv, seen_sok, seen_imv, seen_key, cw_len, cw_snap, cw_sok, cw_imv, cw_take, fitc_imv, lo_imv, List.getElem?_cons_zero, List.take_zero, List.all_cons, List.all_nil, List.any_cons, List.any_nil, List.map_cons, List.map_nil, Bool.false_and, Bool.true_and, Bool.and_true, Bool.false_or, Bool.true_or, Bool.or_true, Bool.or_false, Nat.reduceBEq, Nat.reduceEqDiff, ne_eq, Prod.mk.injEq, false_and, not_false_eq_true, true_and, hrll]
      rintro c _
      have hprl : p < rl.length := by omega
      have p1 : 0 ≤ (p : Int) ∧ (p : Int) < m.code.length := by omega
      have hpR : p < R.length := by rw [hRl]; exact hpN
      obtain ⟨R', hR'⟩ : ∃ R', R' = if rl.getD p false = true then R.set p (R.getD p [] ++ [(k : Int)]) else R := ⟨_, rfl⟩
      have hRl' : R'.length = m.code.length := by rw [hR']; split <;> simp [hRl]
      simp only [VC0, VC1, VC2, VC3, VC4, VC5, VC6, VC7, VC8, reduceIte, reduceCtorEq, Nat.reduceEqDiff, Nat.reduceAdd, Nat.reduceMul, Nat.reduceBEq, Nat.reduceLT, Nat.reduceLeDiff, Int.reduceEq, Int.reduceLT, Int.reduceLE, Int.reduceNeg, Int.reduceToNat, Int.reduceAdd, Nat.reduceDiv, Nat.reduceSub, Nat.reduceMod, encL, MC0, MC1, MC2, seen_snap, seen_snapv, seen_sok, seen_imv, seen_key, cw_len, cw_snap, cw_sok, cw_imv, cw_take, fitc_imv, lo_imv, List.getElem?_cons_zero, List.take_zero, List.all_cons, List.all_nil, List.any_cons, List.any_nil, List.map_cons, List.map_nil, Bool.false_and, Bool.true_and, Bool.and_true, Bool.false_or, Bool.true_or, Bool.or_true, Bool.or_false, Nat.reduceBEq, Nat.reduceEqDiff, ne_eq, Prod.mk.injEq, false_and, not_false_eq_true, true_and]
      refine join_vcg (ι := Nat → Nat) (fun c => stO [(9, .clo 47 [6, 2, 3, 7, 8]), (2, .box m.cells), (3, .box [encL (cL cB) pts]), (5, .val (encL cB rl)), (6, .box [encL MLoan.cells Ls]), (7, .boxm [] (seenE vs)), (8, .boxo 2 w0.length (w0.flatMap cW)), (12, .rows 1 (rsI cI R')), (13, .val (.int .i64 (k : Nat))), (14, .val (.int .i64 (p : Nat)))] c) (fun _ => True) ?_ ?_
      · have hpg : rl.getD p false = rl[p] := by simp [hprl]
        have hgR : R.getD p [] = R[p] := by simp [hpR]
        have hrl1 : R[p].length + 1 ≤ 36000001 := by have := hrow p; rw [hgR] at this; omega
        have hb1 : (R[p].length + 1) * 8 ≤ 140737488355328 := by omega
        have hb2 : R[p].length + 1 ≤ 4611686018427387904 := by omega
        have htl2 : p < (rsI cI R).length := by rw [rsI_len]; exact hpR
        have hget := rsI_get cI hpR
        have p1' : 0 ≤ (p : Int) ∧ (p : Int) < R.length := by omega
        have htle : p + 1 ≤ R.length := hpR
        simp only [VC0, VC1, VC2, VC3, VC4, VC5, VC6, VC7, VC8, reduceIte, reduceCtorEq, Nat.reduceEqDiff, Nat.reduceAdd, Nat.reduceMul, Nat.reduceBEq, Nat.reduceLT, Nat.reduceLeDiff, Int.reduceEq, Int.reduceLT, Int.reduceLE, Int.reduceNeg, Int.reduceToNat, Int.reduceAdd, Nat.reduceDiv, Nat.reduceSub, Nat.reduceMod, encL, MC0, MC1, MC2, seen_snap, seen_snapv, seen_sok, seen_imv, seen_key, cw_len, cw_snap, cw_sok, cw_imv, cw_take, fitc_imv, lo_imv, List.getElem?_cons_zero, List.take_zero, List.all_cons, List.all_nil, List.any_cons, List.any_nil, List.map_cons, List.map_nil, Bool.false_and, Bool.true_and, Bool.and_true, Bool.false_or, Bool.true_or, Bool.or_true, Bool.or_false, Nat.reduceBEq, Nat.reduceEqDiff, ne_eq, Prod.mk.injEq, false_and, not_false_eq_true, true_and, hprl, hrll, p1, hpN]
        cases c1 : rl[p] <;> simp only [VC0, VC1, VC2, VC3, VC4, VC5, VC6, VC7, VC8, reduceIte, reduceCtorEq, Nat.reduceEqDiff, Nat.reduceAdd, Nat.reduceMul, Nat.reduceBEq, Nat.reduceLT, Nat.reduceLeDiff, Int.reduceEq, Int.reduceLT, Int.reduceLE, Int.reduceNeg, Int.reduceToNat, Int.reduceAdd, Nat.reduceDiv, Nat.reduceSub, Nat.reduceMod, encL, MC0, MC1, MC2, seen_snap, seen_snapv, seen_sok, seen_imv, seen_key, cw_len, cw_snap, cw_sok, cw_imv, cw_take, fitc_imv, lo_imv, List.getElem?_cons_zero, List.take_zero, List.all_cons, List.all_nil, List.any_cons, List.any_nil, List.map_cons, List.map_nil, Bool.false_and, Bool.true_and, Bool.and_true, Bool.false_or, Bool.true_or, Bool.or_true, Bool.or_false, Nat.reduceBEq, Nat.reduceEqDiff, ne_eq, Prod.mk.injEq, false_and, not_false_eq_true, true_and, c1]
        · have hRe : R' = R := by rw [hR', hpg, c1]; rfl
          rw [hRe]
          refine joinTo_of _ trivial (ent_of _ [] rfl rfl ?_)
          simp only [VC0, VC1, VC2, VC3, VC4, VC5, VC6, VC7, VC8, reduceIte, reduceCtorEq, Nat.reduceEqDiff, Nat.reduceAdd, Nat.reduceMul, Nat.reduceBEq, Nat.reduceLT, Nat.reduceLeDiff, Int.reduceEq, Int.reduceLT, Int.reduceLE, Int.reduceNeg, Int.reduceToNat, Int.reduceAdd, Nat.reduceDiv, Nat.reduceSub, Nat.reduceMod, encL, MC0, MC1, MC2, seen_snap, seen_snapv, seen_sok, seen_imv, seen_key, cw_len, cw_snap, cw_sok, cw_imv, cw_take, fitc_imv, lo_imv, List.getElem?_cons_zero, List.take_zero, List.all_cons, List.all_nil, List.any_cons, List.any_nil, List.map_cons, List.map_nil, Bool.false_and, Bool.true_and, Bool.and_true, Bool.false_or, Bool.true_or, Bool.or_true, Bool.or_false, Nat.reduceBEq, Nat.reduceEqDiff, ne_eq, Prod.mk.injEq, false_and, not_false_eq_true, true_and, rsI_len, hrll]
          refine rowsAt_same (f := cI) (d := 12) (esz := 1) (R := R) rfl (fun j h => ?_) (li_imv 8) (by decide) (by first | rfl | exact hRl.symm | simp [rsI_len]) (by simp) (fun j _ => by simp) ?_
          · simp only [VC0, VC1, VC2, VC3, VC4, VC5, VC6, VC7, VC8, reduceIte, reduceCtorEq, Nat.reduceEqDiff, Nat.reduceAdd, Nat.reduceMul, Nat.reduceBEq, Nat.reduceLT, Nat.reduceLeDiff, Int.reduceEq, Int.reduceLT, Int.reduceLE, Int.reduceNeg, Int.reduceToNat, Int.reduceAdd, Nat.reduceDiv, Nat.reduceSub, Nat.reduceMod, encL, MC0, MC1, MC2, rsI_get cI h]
          · simp only [VC0, VC1, VC2, VC3, VC4, VC5, VC6, VC7, VC8, reduceIte, reduceCtorEq, Nat.reduceEqDiff, Nat.reduceAdd, Nat.reduceMul, Nat.reduceBEq, Nat.reduceLT, Nat.reduceLeDiff, Int.reduceEq, Int.reduceLT, Int.reduceLE, Int.reduceNeg, Int.reduceToNat, Int.reduceAdd, Nat.reduceDiv, Nat.reduceSub, Nat.reduceMod, encL, MC0, MC1, MC2, seen_snap, seen_snapv, seen_sok, seen_imv, seen_key, cw_len, cw_snap, cw_sok, cw_imv, cw_take, fitc_imv, lo_imv, List.getElem?_cons_zero, List.take_zero, List.all_cons, List.all_nil, List.any_cons, List.any_nil, List.map_cons, List.map_nil, Bool.false_and, Bool.true_and, Bool.and_true, Bool.false_or, Bool.true_or, Bool.or_true, Bool.or_false, Nat.reduceBEq, Nat.reduceEqDiff, ne_eq, Prod.mk.injEq, false_and, not_false_eq_true, true_and, hrll]
        · have hRe : R' = R.set p (R[p] ++ [(k : Int)]) := by rw [hR', hpg, c1, hgR]; rfl
          rw [hRe]
          simp only [VC0, VC1, VC2, VC3, VC4, VC5, VC6, VC7, VC8, reduceIte, reduceCtorEq, Nat.reduceEqDiff, Nat.reduceAdd, Nat.reduceMul, Nat.reduceBEq, Nat.reduceLT, Nat.reduceLeDiff, Int.reduceEq, Int.reduceLT, Int.reduceLE, Int.reduceNeg, Int.reduceToNat, Int.reduceAdd, Nat.reduceDiv, Nat.reduceSub, Nat.reduceMod, encL, MC0, MC1, MC2, hpR, p1', rsI_len, rowV_ld htl2, rowV_len, hget, rsI_at, hb1, hb2, htle]
          refine joinTo_of _ trivial (ent_of _ [] rfl rfl ?_)
          simp only [VC0, VC1, VC2, VC3, VC4, VC5, VC6, VC7, VC8, reduceIte, reduceCtorEq, Nat.reduceEqDiff, Nat.reduceAdd, Nat.reduceMul, Nat.reduceBEq, Nat.reduceLT, Nat.reduceLeDiff, Int.reduceEq, Int.reduceLT, Int.reduceLE, Int.reduceNeg, Int.reduceToNat, Int.reduceAdd, Nat.reduceDiv, Nat.reduceSub, Nat.reduceMod, encL, MC0, MC1, MC2, seen_snap, seen_snapv, seen_sok, seen_imv, seen_key, cw_len, cw_snap, cw_sok, cw_imv, cw_take, fitc_imv, lo_imv, List.getElem?_cons_zero, List.take_zero, List.all_cons, List.all_nil, List.any_cons, List.any_nil, List.map_cons, List.map_nil, Bool.false_and, Bool.true_and, Bool.and_true, Bool.false_or, Bool.true_or, Bool.or_true, Bool.or_false, Nat.reduceBEq, Nat.reduceEqDiff, ne_eq, Prod.mk.injEq, false_and, not_false_eq_true, true_and, rsI_len, hrll]
          refine rowsAt_set (f := cI) (d := 12) (esz := 1) (R := R) (r := R[p] ++ [(k : Int)]) hpR (g := 1) ?_ ?_ (fun j h hne => ?_) (li_imv 8) (by decide) (by first | rfl | exact hRl.symm | simp [rsI_len]) (by simp) (fun j _ => by simp) ?_
          · simp only [VC0, VC1, VC2, VC3, VC4, VC5, VC6, VC7, VC8, reduceIte, reduceCtorEq, Nat.reduceEqDiff, Nat.reduceAdd, Nat.reduceMul, Nat.reduceBEq, Nat.reduceLT, Nat.reduceLeDiff, Int.reduceEq, Int.reduceLT, Int.reduceLE, Int.reduceNeg, Int.reduceToNat, Int.reduceAdd, Nat.reduceDiv, Nat.reduceSub, Nat.reduceMod, encL, MC0, MC1, MC2]
            try simp
          · simp only [VC0, VC1, VC2, VC3, VC4, VC5, VC6, VC7, VC8, reduceIte, reduceCtorEq, Nat.reduceEqDiff, Nat.reduceAdd, Nat.reduceMul, Nat.reduceBEq, Nat.reduceLT, Nat.reduceLeDiff, Int.reduceEq, Int.reduceLT, Int.reduceLE, Int.reduceNeg, Int.reduceToNat, Int.reduceAdd, Nat.reduceDiv, Nat.reduceSub, Nat.reduceMod, encL, MC0, MC1, MC2]
            try simp
          · simp only [VC0, VC1, VC2, VC3, VC4, VC5, VC6, VC7, VC8, reduceIte, reduceCtorEq, Nat.reduceEqDiff, Nat.reduceAdd, Nat.reduceMul, Nat.reduceBEq, Nat.reduceLT, Nat.reduceLeDiff, Int.reduceEq, Int.reduceLT, Int.reduceLE, Int.reduceNeg, Int.reduceToNat, Int.reduceAdd, Nat.reduceDiv, Nat.reduceSub, Nat.reduceMod, encL, MC0, MC1, MC2, hne, rsI_get cI h]
            try simp
          · simp only [VC0, VC1, VC2, VC3, VC4, VC5, VC6, VC7, VC8, reduceIte, reduceCtorEq, Nat.reduceEqDiff, Nat.reduceAdd, Nat.reduceMul, Nat.reduceBEq, Nat.reduceLT, Nat.reduceLeDiff, Int.reduceEq, Int.reduceLT, Int.reduceLE, Int.reduceNeg, Int.reduceToNat, Int.reduceAdd, Nat.reduceDiv, Nat.reduceSub, Nat.reduceMod, encL, MC0, MC1, MC2, seen_snap, seen_snapv, seen_sok, seen_imv, seen_key, cw_len, cw_snap, cw_sok, cw_imv, cw_take, fitc_imv, lo_imv, List.getElem?_cons_zero, List.take_zero, List.all_cons, List.all_nil, List.any_cons, List.any_nil, List.map_cons, List.map_nil, Bool.false_and, Bool.true_and, Bool.and_true, Bool.false_or, Bool.true_or, Bool.or_true, Bool.or_false, Nat.reduceBEq, Nat.reduceEqDiff, ne_eq, Prod.mk.injEq, false_and, not_false_eq_true, true_and, hrll]
            try simp
      rintro c _
      obtain ⟨u, hu, hlu, htk⟩ := loans_at m.code 0 Ls[k] (hmemL _ (List.getElem_mem hkL))
      rw [Nat.zero_add] at hlu
      have hrg := region_of hmay (List.getElem_mem hu) htk
      obtain ⟨g, hg'⟩ : ∃ g : Nat, Ls[k].reg = (g : Int) := ⟨Ls[k].reg.toNat, by rw [hlu]; simp only [loanAt]; omega⟩
      have k1 : 0 ≤ (k : Int) ∧ (k : Int) < Ls.length := by omega
      have hxs : m.code[p].to.steps.length ≤ 1000 := by have := (path_of hgr _ (List.getElem_mem hpN)).2; omega
      have hends : endsP m Ls k p = endsS Ls[k] m.code[p] := by simp only [endsP, List.getElem?_eq_getElem hpN, List.getD_eq_getElem?_getD, List.getElem?_eq_getElem hkL, Option.getD_some]
      obtain ⟨es, f1, f2, f3, f4⟩ := hW.pop hnxlt
      have hRows' := hRows.pop hW f3
      rw [← hR'] at hRows'
      have hrow' : ∀ t, (R'.getD t []).length + (w0.length + es.length) ≤ (vs ++ es).length := by
        intro t
        have h0 := hrow t
        rw [hwl] at h0
        rw [List.length_append, hR']
        split
        · by_cases e : t = p
          · rw [e] at h0 ⊢
            have : (R.set p (R.getD p [] ++ [(k : Int)])).getD p [] = R.getD p [] ++ [(k : Int)] := by
              rw [List.getD_eq_getElem?_getD, List.getElem?_set_self hpR]; rfl
            rw [this, List.length_append, List.length_singleton]; omega
          · have : (R.set p (R.getD p [] ++ [(k : Int)])).getD t [] = R.getD t [] := by
              simp only [List.getD_eq_getElem?_getD]
              rw [List.getElem?_set_ne (Ne.symm e)]
            rw [this]; omega
        · omega
      simp only [VC0, VC1, VC2, VC3, VC4, VC5, VC6, VC7, VC8, reduceIte, reduceCtorEq, Nat.reduceEqDiff, Nat.reduceAdd, Nat.reduceMul, Nat.reduceBEq, Nat.reduceLT, Nat.reduceLeDiff, Int.reduceEq, Int.reduceLT, Int.reduceLE, Int.reduceNeg, Int.reduceToNat, Int.reduceAdd, Nat.reduceDiv, Nat.reduceSub, Nat.reduceMod, encL, MC0, MC1, MC2, k1, p1, hkL, hpN, lo_ld0 hkL (n := 5) (agg := true) (by decide) (by decide), MLoan.call, MLoan.onec, MLoan.len, MLoan.c0, MInst.ld0 hpN (n := 22) (agg := true) (by decide) (by decide), MInst.call, MInst.onec, MInst.len, sc_50, seen_snap, seen_snapv, seen_sok, seen_imv, seen_key, cw_len, cw_snap, cw_sok, cw_imv, cw_take, fitc_imv, lo_imv, List.getElem?_cons_zero, List.take_zero, List.all_cons, List.all_nil, List.any_cons, List.any_nil, List.map_cons, List.map_nil, Bool.false_and, Bool.true_and, Bool.and_true, Bool.false_or, Bool.true_or, Bool.or_true, Bool.or_false, Nat.reduceBEq, Nat.reduceEqDiff, lo_snap, lo_len, fitc_snap, fitc_len, sok_lo, sok_fc, MLoan.snapc, MLoan.sokc, MInst.snapc, MInst.sokc]
      refine callV_of (ends_ret Ls[k] m.code[p] hxs) (.inl rfl) ?_
      cases d1 : endsS Ls[k] m.code[p] <;> simp only [VC0, VC1, VC2, VC3, VC4, VC5, VC6, VC7, VC8, reduceIte, reduceCtorEq, Nat.reduceEqDiff, Nat.reduceAdd, Nat.reduceMul, Nat.reduceBEq, Nat.reduceLT, Nat.reduceLeDiff, Int.reduceEq, Int.reduceLT, Int.reduceLE, Int.reduceNeg, Int.reduceToNat, Int.reduceAdd, Nat.reduceDiv, Nat.reduceSub, Nat.reduceMod, encL, MC0, MC1, MC2, d1]
      · rw [hends, d1, if_neg (by decide)] at f1
        simp only [VC0, VC1, VC2, VC3, VC4, VC5, VC6, VC7, VC8, reduceIte, reduceCtorEq, Nat.reduceEqDiff, Nat.reduceAdd, Nat.reduceMul, Nat.reduceBEq, Nat.reduceLT, Nat.reduceLeDiff, Int.reduceEq, Int.reduceLT, Int.reduceLE, Int.reduceNeg, Int.reduceToNat, Int.reduceAdd, Nat.reduceDiv, Nat.reduceSub, Nat.reduceMod, encL, MC0, MC1, MC2, seen_snap, seen_snapv, seen_sok, seen_imv, seen_key, cw_len, cw_snap, cw_sok, cw_imv, cw_take, fitc_imv, lo_imv, List.getElem?_cons_zero, List.take_zero, List.all_cons, List.all_nil, List.any_cons, List.any_nil, List.map_cons, List.map_nil, Bool.false_and, Bool.true_and, Bool.and_true, Bool.false_or, Bool.true_or, Bool.or_true, Bool.or_false, Nat.reduceBEq, Nat.reduceEqDiff]
        have hw0v := hrow 0
        rw [hwl] at hw0v
        refine callX_inl fdw47 (by simp) ?_
        simp only [lcw47, VC0, VC1, VC2, VC3, VC4, VC5, VC6, VC7, VC8, reduceIte, reduceCtorEq, Nat.reduceEqDiff, Nat.reduceAdd, Nat.reduceMul, Nat.reduceBEq, Nat.reduceLT, Nat.reduceLeDiff, Int.reduceEq, Int.reduceLT, Int.reduceLE, Int.reduceNeg, Int.reduceToNat, Int.reduceAdd, Nat.reduceDiv, Nat.reduceSub, Nat.reduceMod, encL, MC0, MC1, MC2, k1, p1, hpN, hg', lo_ld hkL (j := 1) (n := 1) (agg := false) (by decide) (by decide), MLoan.c1]
        have hokP : ∀ t : Nat, okP pts Ls k t = (decide ((g : Int) < pts.length) && (decide (t < (pts.getD g []).length) && (pts.getD g []).getD t false)) := fun t => by
          simp only [okP, List.getD_eq_getElem?_getD, List.getElem?_eq_getElem hkL, Option.getD_some, hg', Int.toNat_natCast]
        have hyl := (hg.nx _ (List.getElem_mem hpN)).1
        have hy := (hg.nx _ (List.getElem_mem hpN)).2
        have hnx : nx m p = (m.code[p].next).map Int.toNat := by simp [nx, hpN]
        generalize m.code[p].next = nxt at hy hnx hyl
        refine loop_vcg (ι := (Nat × List Pr × List Pr) × (Nat → Nat)) (fun y => stO [(4, .ali 100006), (5, .ali 100014), (6, .ali 100016), (100018, .clo 47 [100012, 100004, 100006, 100014, 100016]), (0, .val (.int .i64 (k : Nat))), (9, .val (.int .i64 (g : Nat))), (23, .val (encL cI nxt)), (24, .val (.int .i64 nxt.length)), (25, .val (.int .i64 (y.1.1 : Nat))), (100004, .box m.cells), (100006, .box [encL (cL cB) pts]), (100010, .val (encL cB rl)), (100012, .box [encL MLoan.cells Ls]), (100014, .boxm [] (seenE y.1.2.1)), (100016, .boxo 2 y.1.2.2.length (y.1.2.2.flatMap cW)), (100024, .rows 1 (rsI cI R'))] y.2)
          (fun y => y.1.1 ≤ nxt.length ∧ (y.1.2.1, y.1.2.2) = onW (okP pts Ls k) k ((nx m p).take y.1.1) (vs, w0)) (fun y => nxt.length - y.1.1) ((0, vs, w0), _) ⟨Nat.zero_le _, rfl⟩ (ent_of _ [] rfl rfl (by
            simp only [VC0, VC1, VC2, VC3, VC4, VC5, VC6, VC7, VC8, reduceIte, reduceCtorEq, Nat.reduceEqDiff, Nat.reduceAdd, Nat.reduceMul, Nat.reduceBEq, Nat.reduceLT, Nat.reduceLeDiff, Int.reduceEq, Int.reduceLT, Int.reduceLE, Int.reduceNeg, Int.reduceToNat, Int.reduceAdd, Nat.reduceDiv, Nat.reduceSub, Nat.reduceMod, encL, MC0, MC1, MC2, seen_snap, seen_snapv, seen_sok, seen_imv, seen_key, cw_len, cw_snap, cw_sok, cw_imv, cw_take, fitc_imv, lo_imv, List.getElem?_cons_zero, List.take_zero, List.all_cons, List.all_nil, List.any_cons, List.any_nil, List.map_cons, List.map_nil, Bool.false_and, Bool.true_and, Bool.and_true, Bool.false_or, Bool.true_or, Bool.or_true, Bool.or_false, Nat.reduceBEq, Nat.reduceEqDiff]
            refine ⟨by decide, ?_⟩
            simp only [VC0, VC1, VC2, VC3, VC4, VC5, VC6, VC7, VC8, reduceIte, reduceCtorEq, Nat.reduceEqDiff, Nat.reduceAdd, Nat.reduceMul, Nat.reduceBEq, Nat.reduceLT, Nat.reduceLeDiff, Int.reduceEq, Int.reduceLT, Int.reduceLE, Int.reduceNeg, Int.reduceToNat, Int.reduceAdd, Nat.reduceDiv, Nat.reduceSub, Nat.reduceMod, encL, MC0, MC1, MC2, seen_snap, seen_snapv, seen_sok, seen_imv, seen_key, cw_len, cw_snap, cw_sok, cw_imv, cw_take, fitc_imv, lo_imv, List.getElem?_cons_zero, List.take_zero, List.all_cons, List.all_nil, List.any_cons, List.any_nil, List.map_cons, List.map_nil, Bool.false_and, Bool.true_and, Bool.and_true, Bool.false_or, Bool.true_or, Bool.or_true, Bool.or_false, Nat.reduceBEq, Nat.reduceEqDiff, ne_eq, Prod.mk.injEq, false_and, not_false_eq_true, true_and, rsI_len, hrll]
            refine rowsAt_same (f := cI) (d := 12) (esz := 1) (R := R') ?_ (fun j h => ?_) (li_imv 8) (by decide) (by first | rfl | exact hRl'.symm | simp [rsI_len]) (by simp) (fun j _ => by simp) ?_
            · first | (simp only [VC0, VC1, VC2, VC3, VC4, VC5, VC6, VC7, VC8, reduceIte, reduceCtorEq, Nat.reduceEqDiff, Nat.reduceAdd, Nat.reduceMul, Nat.reduceBEq, Nat.reduceLT, Nat.reduceLeDiff, Int.reduceEq, Int.reduceLT, Int.reduceLE, Int.reduceNeg, Int.reduceToNat, Int.reduceAdd, Nat.reduceDiv, Nat.reduceSub, Nat.reduceMod, encL, MC0, MC1, MC2]; done) | rfl
            · simp only [VC0, VC1, VC2, VC3, VC4, VC5, VC6, VC7, VC8, reduceIte, reduceCtorEq, Nat.reduceEqDiff, Nat.reduceAdd, Nat.reduceMul, Nat.reduceBEq, Nat.reduceLT, Nat.reduceLeDiff, Int.reduceEq, Int.reduceLT, Int.reduceLE, Int.reduceNeg, Int.reduceToNat, Int.reduceAdd, Nat.reduceDiv, Nat.reduceSub, Nat.reduceMod, encL, MC0, MC1, MC2, rsI_get cI h]
            · simp only [VC0, VC1, VC2, VC3, VC4, VC5, VC6, VC7, VC8, reduceIte, reduceCtorEq, Nat.reduceEqDiff, Nat.reduceAdd, Nat.reduceMul, Nat.reduceBEq, Nat.reduceLT, Nat.reduceLeDiff, Int.reduceEq, Int.reduceLT, Int.reduceLE, Int.reduceNeg, Int.reduceToNat, Int.reduceAdd, Nat.reduceDiv, Nat.reduceSub, Nat.reduceMod, encL, MC0, MC1, MC2, seen_snap, seen_snapv, seen_sok, seen_imv, seen_key, cw_len, cw_snap, cw_sok, cw_imv, cw_take, fitc_imv, lo_imv, List.getElem?_cons_zero, List.take_zero, List.all_cons, List.all_nil, List.any_cons, List.any_nil, List.map_cons, List.map_nil, Bool.false_and, Bool.true_and, Bool.and_true, Bool.false_or, Bool.true_or, Bool.or_true, Bool.or_false, Nat.reduceBEq, Nat.reduceEqDiff, ne_eq, Prod.mk.injEq, false_and, not_false_eq_true, true_and, hrll]
              try decide)) ?_
        rintro ⟨⟨b, vs', w'⟩, c⟩ hb
        obtain ⟨hb, hon⟩ : b ≤ nxt.length ∧ (vs', w') = onW (okP pts Ls k) k ((nx m p).take b) (vs, w0) := hb
        simp only [VC0, VC1, VC2, VC3, VC4, VC5, VC6, VC7, VC8, reduceIte, reduceCtorEq, Nat.reduceEqDiff, Nat.reduceAdd, Nat.reduceMul, Nat.reduceBEq, Nat.reduceLT, Nat.reduceLeDiff, Int.reduceEq, Int.reduceLT, Int.reduceLE, Int.reduceNeg, Int.reduceToNat, Int.reduceAdd, Nat.reduceDiv, Nat.reduceSub, Nat.reduceMod, encL, MC0, MC1, MC2]
        refine condD_of (fun h => ?_) (fun h => ?_)
        · have hb' : b < nxt.length := by omega
          have b1 : 0 ≤ (b : Int) ∧ (b : Int) < nxt.length := by omega
          have i2 : InI64 ((b : Int) + 1) := by unfold InI64; omega
          obtain ⟨t, ht⟩ : ∃ t : Nat, nxt[b] = (t : Int) := ⟨nxt[b].toNat, by have hyb := hy nxt[b] (List.getElem_mem hb'); omega⟩
          have hbl : b < (nx m p).length := by rw [hnx]; simpa using hb'
          have htk : (nx m p).take (b + 1) = (nx m p).take b ++ [t] := by
            rw [List.take_add_one, List.getElem?_eq_getElem hbl]
            simp [hnx, ht]
          have hon' : onW (okP pts Ls k) k ((nx m p).take (b + 1)) (vs, w0) = pushW (okP pts Ls k) k (vs', w') t := by rw [htk, onW_snoc, ← hon]
          have hsame : okP pts Ls k t = false ∨ (k, t) ∈ vs' → (vs', w') = onW (okP pts Ls k) k ((nx m p).take (b + 1)) (vs, w0) := fun hh => by
            rw [hon', pushW, if_neg (by rintro ⟨h1, h2⟩; exact hh.elim (fun hh => by rw [hh] at h1; cases h1) h2)]
          simp only [VC0, VC1, VC2, VC3, VC4, VC5, VC6, VC7, VC8, reduceIte, reduceCtorEq, Nat.reduceEqDiff, Nat.reduceAdd, Nat.reduceMul, Nat.reduceBEq, Nat.reduceLT, Nat.reduceLeDiff, Int.reduceEq, Int.reduceLT, Int.reduceLE, Int.reduceNeg, Int.reduceToNat, Int.reduceAdd, Nat.reduceDiv, Nat.reduceSub, Nat.reduceMod, encL, MC0, MC1, MC2, hb', b1, ht, sc_0, sc_1, sc_20, ld_20, seen_snap, seen_snapv, seen_sok, seen_imv, seen_key, cw_len, cw_snap, cw_sok, cw_imv, cw_take, fitc_imv, lo_imv, List.getElem?_cons_zero, List.take_zero]
          cases c1 : decide ((g : Int) < pts.length) <;> simp only [VC0, VC1, VC2, VC3, VC4, VC5, VC6, VC7, VC8, reduceIte, reduceCtorEq, Nat.reduceEqDiff, Nat.reduceAdd, Nat.reduceMul, Nat.reduceBEq, Nat.reduceLT, Nat.reduceLeDiff, Int.reduceEq, Int.reduceLT, Int.reduceLE, Int.reduceNeg, Int.reduceToNat, Int.reduceAdd, Nat.reduceDiv, Nat.reduceSub, Nat.reduceMod, encL, MC0, MC1, MC2, c1, i2]
          · have hok : okP pts Ls k t = false := by rw [hokP, c1]; rfl
            refine backTo_of ((b + 1, vs', w'), _) ⟨hb', ?_⟩ (by simp only []; omega) (ent_of _ [] rfl rfl (by
              simp only [VC0, VC1, VC2, VC3, VC4, VC5, VC6, VC7, VC8, reduceIte, reduceCtorEq, Nat.reduceEqDiff, Nat.reduceAdd, Nat.reduceMul, Nat.reduceBEq, Nat.reduceLT, Nat.reduceLeDiff, Int.reduceEq, Int.reduceLT, Int.reduceLE, Int.reduceNeg, Int.reduceToNat, Int.reduceAdd, Nat.reduceDiv, Nat.reduceSub, Nat.reduceMod, encL, MC0, MC1, MC2, seen_snap, seen_snapv, seen_sok, seen_imv, seen_key, cw_len, cw_snap, cw_sok, cw_imv, cw_take, fitc_imv, lo_imv, List.getElem?_cons_zero, List.take_zero, List.all_cons, List.all_nil, List.any_cons, List.any_nil, List.map_cons, List.map_nil, Bool.false_and, Bool.true_and, Bool.and_true, Bool.false_or, Bool.true_or, Bool.or_true, Bool.or_false, Nat.reduceBEq, Nat.reduceEqDiff]
              refine ⟨by decide, ?_⟩
              simp only [VC0, VC1, VC2, VC3, VC4, VC5, VC6, VC7, VC8, reduceIte, reduceCtorEq, Nat.reduceEqDiff, Nat.reduceAdd, Nat.reduceMul, Nat.reduceBEq, Nat.reduceLT, Nat.reduceLeDiff, Int.reduceEq, Int.reduceLT, Int.reduceLE, Int.reduceNeg, Int.reduceToNat, Int.reduceAdd, Nat.reduceDiv, Nat.reduceSub, Nat.reduceMod, encL, MC0, MC1, MC2, seen_snap, seen_snapv, seen_sok, seen_imv, seen_key, cw_len, cw_snap, cw_sok, cw_imv, cw_take, fitc_imv, lo_imv, List.getElem?_cons_zero, List.take_zero, List.all_cons, List.all_nil, List.any_cons, List.any_nil, List.map_cons, List.map_nil, Bool.false_and, Bool.true_and, Bool.and_true, Bool.false_or, Bool.true_or, Bool.or_true, Bool.or_false, Nat.reduceBEq, Nat.reduceEqDiff, ne_eq, Prod.mk.injEq, false_and, not_false_eq_true, true_and, rsI_len, hrll]
              refine rowsAt_same (f := cI) (d := 100024) (esz := 1) (R := R') ?_ (fun j h => ?_) (li_imv 8) (by decide) (by first | rfl | exact hRl'.symm | simp [rsI_len]) (by simp) (fun j _ => by simp) ?_
              · first | (simp only [VC0, VC1, VC2, VC3, VC4, VC5, VC6, VC7, VC8, reduceIte, reduceCtorEq, Nat.reduceEqDiff, Nat.reduceAdd, Nat.reduceMul, Nat.reduceBEq, Nat.reduceLT, Nat.reduceLeDiff, Int.reduceEq, Int.reduceLT, Int.reduceLE, Int.reduceNeg, Int.reduceToNat, Int.reduceAdd, Nat.reduceDiv, Nat.reduceSub, Nat.reduceMod, encL, MC0, MC1, MC2]; done) | rfl
              · simp only [VC0, VC1, VC2, VC3, VC4, VC5, VC6, VC7, VC8, reduceIte, reduceCtorEq, Nat.reduceEqDiff, Nat.reduceAdd, Nat.reduceMul, Nat.reduceBEq, Nat.reduceLT, Nat.reduceLeDiff, Int.reduceEq, Int.reduceLT, Int.reduceLE, Int.reduceNeg, Int.reduceToNat, Int.reduceAdd, Nat.reduceDiv, Nat.reduceSub, Nat.reduceMod, encL, MC0, MC1, MC2, rsI_get cI h]
              · simp only [VC0, VC1, VC2, VC3, VC4, VC5, VC6, VC7, VC8, reduceIte, reduceCtorEq, Nat.reduceEqDiff, Nat.reduceAdd, Nat.reduceMul, Nat.reduceBEq, Nat.reduceLT, Nat.reduceLeDiff, Int.reduceEq, Int.reduceLT, Int.reduceLE, Int.reduceNeg, Int.reduceToNat, Int.reduceAdd, Nat.reduceDiv, Nat.reduceSub, Nat.reduceMod, encL, MC0, MC1, MC2, seen_snap, seen_snapv, seen_sok, seen_imv, seen_key, cw_len, cw_snap, cw_sok, cw_imv, cw_take, fitc_imv, lo_imv, List.getElem?_cons_zero, List.take_zero, List.all_cons, List.all_nil, List.any_cons, List.any_nil, List.map_cons, List.map_nil, Bool.false_and, Bool.true_and, Bool.and_true, Bool.false_or, Bool.true_or, Bool.or_true, Bool.or_false, Nat.reduceBEq, Nat.reduceEqDiff, ne_eq, Prod.mk.injEq, false_and, not_false_eq_true, true_and, hrll]
                try decide))
            exact hsame (.inl hok)
          have hgl : g < pts.length := by have := of_decide_eq_true c1; omega
          have g1 : 0 ≤ (g : Int) ∧ (g : Int) < pts.length := by omega
          have hpg : pts.getD g [] = pts[g] := by simp [hgl]
          simp only [VC0, VC1, VC2, VC3, VC4, VC5, VC6, VC7, VC8, reduceIte, reduceCtorEq, Nat.reduceEqDiff, Nat.reduceAdd, Nat.reduceMul, Nat.reduceBEq, Nat.reduceLT, Nat.reduceLeDiff, Int.reduceEq, Int.reduceLT, Int.reduceLE, Int.reduceNeg, Int.reduceToNat, Int.reduceAdd, Nat.reduceDiv, Nat.reduceSub, Nat.reduceMod, encL, MC0, MC1, MC2, g1, fitc_ld hgl]
          cases c2 : decide ((t : Int) < pts[g].length) <;> simp only [VC0, VC1, VC2, VC3, VC4, VC5, VC6, VC7, VC8, reduceIte, reduceCtorEq, Nat.reduceEqDiff, Nat.reduceAdd, Nat.reduceMul, Nat.reduceBEq, Nat.reduceLT, Nat.reduceLeDiff, Int.reduceEq, Int.reduceLT, Int.reduceLE, Int.reduceNeg, Int.reduceToNat, Int.reduceAdd, Nat.reduceDiv, Nat.reduceSub, Nat.reduceMod, encL, MC0, MC1, MC2, c2, i2]
          · have hok : okP pts Ls k t = false := by
              have : decide (t < pts[g].length) = false := decide_eq_false (by have := of_decide_eq_false c2; omega)
              rw [hokP, c1, hpg, this]; rfl
            refine backTo_of ((b + 1, vs', w'), _) ⟨hb', ?_⟩ (by simp only []; omega) (ent_of _ [] rfl rfl (by
              simp only [VC0, VC1, VC2, VC3, VC4, VC5, VC6, VC7, VC8, reduceIte, reduceCtorEq, Nat.reduceEqDiff, Nat.reduceAdd, Nat.reduceMul, Nat.reduceBEq, Nat.reduceLT, Nat.reduceLeDiff, Int.reduceEq, Int.reduceLT, Int.reduceLE, Int.reduceNeg, Int.reduceToNat, Int.reduceAdd, Nat.reduceDiv, Nat.reduceSub, Nat.reduceMod, encL, MC0, MC1, MC2, seen_snap, seen_snapv, seen_sok, seen_imv, seen_key, cw_len, cw_snap, cw_sok, cw_imv, cw_take, fitc_imv, lo_imv, List.getElem?_cons_zero, List.take_zero, List.all_cons, List.all_nil, List.any_cons, List.any_nil, List.map_cons, List.map_nil, Bool.false_and, Bool.true_and, Bool.and_true, Bool.false_or, Bool.true_or, Bool.or_true, Bool.or_false, Nat.reduceBEq, Nat.reduceEqDiff]
              refine ⟨by decide, ?_⟩
              simp only [VC0, VC1, VC2, VC3, VC4, VC5, VC6, VC7, VC8, reduceIte, reduceCtorEq, Nat.reduceEqDiff, Nat.reduceAdd, Nat.reduceMul, Nat.reduceBEq, Nat.reduceLT, Nat.reduceLeDiff, Int.reduceEq, Int.reduceLT, Int.reduceLE, Int.reduceNeg, Int.reduceToNat, Int.reduceAdd, Nat.reduceDiv, Nat.reduceSub, Nat.reduceMod, encL, MC0, MC1, MC2, seen_snap, seen_snapv, seen_sok, seen_imv, seen_key, cw_len, cw_snap, cw_sok, cw_imv, cw_take, fitc_imv, lo_imv, List.getElem?_cons_zero, List.take_zero, List.all_cons, List.all_nil, List.any_cons, List.any_nil, List.map_cons, List.map_nil, Bool.false_and, Bool.true_and, Bool.and_true, Bool.false_or, Bool.true_or, Bool.or_true, Bool.or_false, Nat.reduceBEq, Nat.reduceEqDiff, ne_eq, Prod.mk.injEq, false_and, not_false_eq_true, true_and, rsI_len, hrll]
              refine rowsAt_same (f := cI) (d := 100024) (esz := 1) (R := R') ?_ (fun j h => ?_) (li_imv 8) (by decide) (by first | rfl | exact hRl'.symm | simp [rsI_len]) (by simp) (fun j _ => by simp) ?_
              · first | (simp only [VC0, VC1, VC2, VC3, VC4, VC5, VC6, VC7, VC8, reduceIte, reduceCtorEq, Nat.reduceEqDiff, Nat.reduceAdd, Nat.reduceMul, Nat.reduceBEq, Nat.reduceLT, Nat.reduceLeDiff, Int.reduceEq, Int.reduceLT, Int.reduceLE, Int.reduceNeg, Int.reduceToNat, Int.reduceAdd, Nat.reduceDiv, Nat.reduceSub, Nat.reduceMod, encL, MC0, MC1, MC2]; done) | rfl
              · simp only [VC0, VC1, VC2, VC3, VC4, VC5, VC6, VC7, VC8, reduceIte, reduceCtorEq, Nat.reduceEqDiff, Nat.reduceAdd, Nat.reduceMul, Nat.reduceBEq, Nat.reduceLT, Nat.reduceLeDiff, Int.reduceEq, Int.reduceLT, Int.reduceLE, Int.reduceNeg, Int.reduceToNat, Int.reduceAdd, Nat.reduceDiv, Nat.reduceSub, Nat.reduceMod, encL, MC0, MC1, MC2, rsI_get cI h]
              · simp only [VC0, VC1, VC2, VC3, VC4, VC5, VC6, VC7, VC8, reduceIte, reduceCtorEq, Nat.reduceEqDiff, Nat.reduceAdd, Nat.reduceMul, Nat.reduceBEq, Nat.reduceLT, Nat.reduceLeDiff, Int.reduceEq, Int.reduceLT, Int.reduceLE, Int.reduceNeg, Int.reduceToNat, Int.reduceAdd, Nat.reduceDiv, Nat.reduceSub, Nat.reduceMod, encL, MC0, MC1, MC2, seen_snap, seen_snapv, seen_sok, seen_imv, seen_key, cw_len, cw_snap, cw_sok, cw_imv, cw_take, fitc_imv, lo_imv, List.getElem?_cons_zero, List.take_zero, List.all_cons, List.all_nil, List.any_cons, List.any_nil, List.map_cons, List.map_nil, Bool.false_and, Bool.true_and, Bool.and_true, Bool.false_or, Bool.true_or, Bool.or_true, Bool.or_false, Nat.reduceBEq, Nat.reduceEqDiff, ne_eq, Prod.mk.injEq, false_and, not_false_eq_true, true_and, hrll]
                try decide))
            exact hsame (.inl hok)
          have htl : t < pts[g].length := by have := of_decide_eq_true c2; omega
          have t1 : 0 ≤ (t : Int) ∧ (t : Int) < pts[g].length := by omega
          have hpt' : pts[g].getD t false = pts[g][t] := by simp [htl]
          have c2' : decide (t < pts[g].length) = true := decide_eq_true htl
          simp only [VC0, VC1, VC2, VC3, VC4, VC5, VC6, VC7, VC8, reduceIte, reduceCtorEq, Nat.reduceEqDiff, Nat.reduceAdd, Nat.reduceMul, Nat.reduceBEq, Nat.reduceLT, Nat.reduceLeDiff, Int.reduceEq, Int.reduceLT, Int.reduceLE, Int.reduceNeg, Int.reduceToNat, Int.reduceAdd, Nat.reduceDiv, Nat.reduceSub, Nat.reduceMod, encL, MC0, MC1, MC2, g1, t1, fitc_ld hgl, htl]
          cases c3 : pts[g][t] <;> simp only [VC0, VC1, VC2, VC3, VC4, VC5, VC6, VC7, VC8, reduceIte, reduceCtorEq, Nat.reduceEqDiff, Nat.reduceAdd, Nat.reduceMul, Nat.reduceBEq, Nat.reduceLT, Nat.reduceLeDiff, Int.reduceEq, Int.reduceLT, Int.reduceLE, Int.reduceNeg, Int.reduceToNat, Int.reduceAdd, Nat.reduceDiv, Nat.reduceSub, Nat.reduceMod, encL, MC0, MC1, MC2, c3, i2]
          · have hok : okP pts Ls k t = false := by rw [hokP, c1, hpg, c2', hpt', c3]; rfl
            refine backTo_of ((b + 1, vs', w'), _) ⟨hb', ?_⟩ (by simp only []; omega) (ent_of _ [] rfl rfl (by
              simp only [VC0, VC1, VC2, VC3, VC4, VC5, VC6, VC7, VC8, reduceIte, reduceCtorEq, Nat.reduceEqDiff, Nat.reduceAdd, Nat.reduceMul, Nat.reduceBEq, Nat.reduceLT, Nat.reduceLeDiff, Int.reduceEq, Int.reduceLT, Int.reduceLE, Int.reduceNeg, Int.reduceToNat, Int.reduceAdd, Nat.reduceDiv, Nat.reduceSub, Nat.reduceMod, encL, MC0, MC1, MC2, seen_snap, seen_snapv, seen_sok, seen_imv, seen_key, cw_len, cw_snap, cw_sok, cw_imv, cw_take, fitc_imv, lo_imv, List.getElem?_cons_zero, List.take_zero, List.all_cons, List.all_nil, List.any_cons, List.any_nil, List.map_cons, List.map_nil, Bool.false_and, Bool.true_and, Bool.and_true, Bool.false_or, Bool.true_or, Bool.or_true, Bool.or_false, Nat.reduceBEq, Nat.reduceEqDiff]
              refine ⟨by decide, ?_⟩
              simp only [VC0, VC1, VC2, VC3, VC4, VC5, VC6, VC7, VC8, reduceIte, reduceCtorEq, Nat.reduceEqDiff, Nat.reduceAdd, Nat.reduceMul, Nat.reduceBEq, Nat.reduceLT, Nat.reduceLeDiff, Int.reduceEq, Int.reduceLT, Int.reduceLE, Int.reduceNeg, Int.reduceToNat, Int.reduceAdd, Nat.reduceDiv, Nat.reduceSub, Nat.reduceMod, encL, MC0, MC1, MC2, seen_snap, seen_snapv, seen_sok, seen_imv, seen_key, cw_len, cw_snap, cw_sok, cw_imv, cw_take, fitc_imv, lo_imv, List.getElem?_cons_zero, List.take_zero, List.all_cons, List.all_nil, List.any_cons, List.any_nil, List.map_cons, List.map_nil, Bool.false_and, Bool.true_and, Bool.and_true, Bool.false_or, Bool.true_or, Bool.or_true, Bool.or_false, Nat.reduceBEq, Nat.reduceEqDiff, ne_eq, Prod.mk.injEq, false_and, not_false_eq_true, true_and, rsI_len, hrll]
              refine rowsAt_same (f := cI) (d := 100024) (esz := 1) (R := R') ?_ (fun j h => ?_) (li_imv 8) (by decide) (by first | rfl | exact hRl'.symm | simp [rsI_len]) (by simp) (fun j _ => by simp) ?_
              · first | (simp only [VC0, VC1, VC2, VC3, VC4, VC5, VC6, VC7, VC8, reduceIte, reduceCtorEq, Nat.reduceEqDiff, Nat.reduceAdd, Nat.reduceMul, Nat.reduceBEq, Nat.reduceLT, Nat.reduceLeDiff, Int.reduceEq, Int.reduceLT, Int.reduceLE, Int.reduceNeg, Int.reduceToNat, Int.reduceAdd, Nat.reduceDiv, Nat.reduceSub, Nat.reduceMod, encL, MC0, MC1, MC2]; done) | rfl
              · simp only [VC0, VC1, VC2, VC3, VC4, VC5, VC6, VC7, VC8, reduceIte, reduceCtorEq, Nat.reduceEqDiff, Nat.reduceAdd, Nat.reduceMul, Nat.reduceBEq, Nat.reduceLT, Nat.reduceLeDiff, Int.reduceEq, Int.reduceLT, Int.reduceLE, Int.reduceNeg, Int.reduceToNat, Int.reduceAdd, Nat.reduceDiv, Nat.reduceSub, Nat.reduceMod, encL, MC0, MC1, MC2, rsI_get cI h]
              · simp only [VC0, VC1, VC2, VC3, VC4, VC5, VC6, VC7, VC8, reduceIte, reduceCtorEq, Nat.reduceEqDiff, Nat.reduceAdd, Nat.reduceMul, Nat.reduceBEq, Nat.reduceLT, Nat.reduceLeDiff, Int.reduceEq, Int.reduceLT, Int.reduceLE, Int.reduceNeg, Int.reduceToNat, Int.reduceAdd, Nat.reduceDiv, Nat.reduceSub, Nat.reduceMod, encL, MC0, MC1, MC2, seen_snap, seen_snapv, seen_sok, seen_imv, seen_key, cw_len, cw_snap, cw_sok, cw_imv, cw_take, fitc_imv, lo_imv, List.getElem?_cons_zero, List.take_zero, List.all_cons, List.all_nil, List.any_cons, List.any_nil, List.map_cons, List.map_nil, Bool.false_and, Bool.true_and, Bool.and_true, Bool.false_or, Bool.true_or, Bool.or_true, Bool.or_false, Nat.reduceBEq, Nat.reduceEqDiff, ne_eq, Prod.mk.injEq, false_and, not_false_eq_true, true_and, hrll]
                try decide))
            exact hsame (.inl hok)
          have hok : okP pts Ls k t = true := by rw [hokP, c1, hpg, c2', hpt', c3]; rfl
          by_cases hseen : (k, t) ∈ vs'
          · obtain ⟨j, hf⟩ := (seen_find k t vs').1 hseen
            simp only [VC0, VC1, VC2, VC3, VC4, VC5, VC6, VC7, VC8, reduceIte, reduceCtorEq, Nat.reduceEqDiff, Nat.reduceAdd, Nat.reduceMul, Nat.reduceBEq, Nat.reduceLT, Nat.reduceLeDiff, Int.reduceEq, Int.reduceLT, Int.reduceLE, Int.reduceNeg, Int.reduceToNat, Int.reduceAdd, Nat.reduceDiv, Nat.reduceSub, Nat.reduceMod, encL, MC0, MC1, MC2, sc_0, sc_1, sc_20, ld_20, seen_key, hf, i2]
            refine backTo_of ((b + 1, vs', w'), _) ⟨hb', ?_⟩ (by simp only []; omega) (ent_of _ [] rfl rfl (by
              simp only [VC0, VC1, VC2, VC3, VC4, VC5, VC6, VC7, VC8, reduceIte, reduceCtorEq, Nat.reduceEqDiff, Nat.reduceAdd, Nat.reduceMul, Nat.reduceBEq, Nat.reduceLT, Nat.reduceLeDiff, Int.reduceEq, Int.reduceLT, Int.reduceLE, Int.reduceNeg, Int.reduceToNat, Int.reduceAdd, Nat.reduceDiv, Nat.reduceSub, Nat.reduceMod, encL, MC0, MC1, MC2, seen_snap, seen_snapv, seen_sok, seen_imv, seen_key, cw_len, cw_snap, cw_sok, cw_imv, cw_take, fitc_imv, lo_imv, List.getElem?_cons_zero, List.take_zero, List.all_cons, List.all_nil, List.any_cons, List.any_nil, List.map_cons, List.map_nil, Bool.false_and, Bool.true_and, Bool.and_true, Bool.false_or, Bool.true_or, Bool.or_true, Bool.or_false, Nat.reduceBEq, Nat.reduceEqDiff]
              refine ⟨by decide, ?_⟩
              simp only [VC0, VC1, VC2, VC3, VC4, VC5, VC6, VC7, VC8, reduceIte, reduceCtorEq, Nat.reduceEqDiff, Nat.reduceAdd, Nat.reduceMul, Nat.reduceBEq, Nat.reduceLT, Nat.reduceLeDiff, Int.reduceEq, Int.reduceLT, Int.reduceLE, Int.reduceNeg, Int.reduceToNat, Int.reduceAdd, Nat.reduceDiv, Nat.reduceSub, Nat.reduceMod, encL, MC0, MC1, MC2, seen_snap, seen_snapv, seen_sok, seen_imv, seen_key, cw_len, cw_snap, cw_sok, cw_imv, cw_take, fitc_imv, lo_imv, List.getElem?_cons_zero, List.take_zero, List.all_cons, List.all_nil, List.any_cons, List.any_nil, List.map_cons, List.map_nil, Bool.false_and, Bool.true_and, Bool.and_true, Bool.false_or, Bool.true_or, Bool.or_true, Bool.or_false, Nat.reduceBEq, Nat.reduceEqDiff, ne_eq, Prod.mk.injEq, false_and, not_false_eq_true, true_and, rsI_len, hrll]
              refine rowsAt_same (f := cI) (d := 100024) (esz := 1) (R := R') ?_ (fun j h => ?_) (li_imv 8) (by decide) (by first | rfl | exact hRl'.symm | simp [rsI_len]) (by simp) (fun j _ => by simp) ?_
              · first | (simp only [VC0, VC1, VC2, VC3, VC4, VC5, VC6, VC7, VC8, reduceIte, reduceCtorEq, Nat.reduceEqDiff, Nat.reduceAdd, Nat.reduceMul, Nat.reduceBEq, Nat.reduceLT, Nat.reduceLeDiff, Int.reduceEq, Int.reduceLT, Int.reduceLE, Int.reduceNeg, Int.reduceToNat, Int.reduceAdd, Nat.reduceDiv, Nat.reduceSub, Nat.reduceMod, encL, MC0, MC1, MC2]; done) | rfl
              · simp only [VC0, VC1, VC2, VC3, VC4, VC5, VC6, VC7, VC8, reduceIte, reduceCtorEq, Nat.reduceEqDiff, Nat.reduceAdd, Nat.reduceMul, Nat.reduceBEq, Nat.reduceLT, Nat.reduceLeDiff, Int.reduceEq, Int.reduceLT, Int.reduceLE, Int.reduceNeg, Int.reduceToNat, Int.reduceAdd, Nat.reduceDiv, Nat.reduceSub, Nat.reduceMod, encL, MC0, MC1, MC2, rsI_get cI h]
              · simp only [VC0, VC1, VC2, VC3, VC4, VC5, VC6, VC7, VC8, reduceIte, reduceCtorEq, Nat.reduceEqDiff, Nat.reduceAdd, Nat.reduceMul, Nat.reduceBEq, Nat.reduceLT, Nat.reduceLeDiff, Int.reduceEq, Int.reduceLT, Int.reduceLE, Int.reduceNeg, Int.reduceToNat, Int.reduceAdd, Nat.reduceDiv, Nat.reduceSub, Nat.reduceMod, encL, MC0, MC1, MC2, seen_snap, seen_snapv, seen_sok, seen_imv, seen_key, cw_len, cw_snap, cw_sok, cw_imv, cw_take, fitc_imv, lo_imv, List.getElem?_cons_zero, List.take_zero, List.all_cons, List.all_nil, List.any_cons, List.any_nil, List.map_cons, List.map_nil, Bool.false_and, Bool.true_and, Bool.and_true, Bool.false_or, Bool.true_or, Bool.or_true, Bool.or_false, Nat.reduceBEq, Nat.reduceEqDiff, ne_eq, Prod.mk.injEq, false_and, not_false_eq_true, true_and, hrll]
                try decide))
            exact hsame (.inr hseen)
          · have hf := (seen_find k t vs').2 hseen
            have hset := fun v => setK_none v hf
            obtain ⟨es, e1, _, _, _, e5⟩ := onW_spec (ok := okP pts Ls k) (N := m.code.length) hkL ((nx m p).take b) vs w0 (fun p hp => hnxlt _ _ (List.mem_of_mem_take hp))
            rw [← hon] at e1
            injection e1 with e1 e2
            have hwl : w'.length ≤ 36000000 := by
              rw [e2, List.length_append]; omega
            simp only [VC0, VC1, VC2, VC3, VC4, VC5, VC6, VC7, VC8, reduceIte, reduceCtorEq, Nat.reduceEqDiff, Nat.reduceAdd, Nat.reduceMul, Nat.reduceBEq, Nat.reduceLT, Nat.reduceLeDiff, Int.reduceEq, Int.reduceLT, Int.reduceLE, Int.reduceNeg, Int.reduceToNat, Int.reduceAdd, Nat.reduceDiv, Nat.reduceSub, Nat.reduceMod, encL, MC0, MC1, MC2, sc_0, sc_1, sc_20, ld_20, seen_key, hf, i2, hset, cw_len]
            refine And.intro ⟨by omega, by omega⟩ (backTo_of ((b + 1, vs' ++ [(k, t)], w' ++ [(k, t)]), _) ⟨hb', ?_⟩ (by simp only []; omega) (ent_of _ [] rfl rfl (by
              simp only [VC0, VC1, VC2, VC3, VC4, VC5, VC6, VC7, VC8, reduceIte, reduceCtorEq, Nat.reduceEqDiff, Nat.reduceAdd, Nat.reduceMul, Nat.reduceBEq, Nat.reduceLT, Nat.reduceLeDiff, Int.reduceEq, Int.reduceLT, Int.reduceLE, Int.reduceNeg, Int.reduceToNat, Int.reduceAdd, Nat.reduceDiv, Nat.reduceSub, Nat.reduceMod, encL, MC0, MC1, MC2, seen_snap, seen_snapv, seen_sok, seen_imv, seen_key, cw_len, cw_snap, cw_sok, cw_imv, cw_take, fitc_imv, lo_imv, List.getElem?_cons_zero, List.take_zero, List.all_cons, List.all_nil, List.any_cons, List.any_nil, List.map_cons, List.map_nil, Bool.false_and, Bool.true_and, Bool.and_true, Bool.false_or, Bool.true_or, Bool.or_true, Bool.or_false, Nat.reduceBEq, Nat.reduceEqDiff, sc_0, hset, List.map_append, List.all_append, seen_app, cw_app]
              refine ⟨by decide, ?_⟩
              simp only [VC0, VC1, VC2, VC3, VC4, VC5, VC6, VC7, VC8, reduceIte, reduceCtorEq, Nat.reduceEqDiff, Nat.reduceAdd, Nat.reduceMul, Nat.reduceBEq, Nat.reduceLT, Nat.reduceLeDiff, Int.reduceEq, Int.reduceLT, Int.reduceLE, Int.reduceNeg, Int.reduceToNat, Int.reduceAdd, Nat.reduceDiv, Nat.reduceSub, Nat.reduceMod, encL, MC0, MC1, MC2, seen_snap, seen_snapv, seen_sok, seen_imv, seen_key, cw_len, cw_snap, cw_sok, cw_imv, cw_take, fitc_imv, lo_imv, List.getElem?_cons_zero, List.take_zero, List.all_cons, List.all_nil, List.any_cons, List.any_nil, List.map_cons, List.map_nil, Bool.false_and, Bool.true_and, Bool.and_true, Bool.false_or, Bool.true_or, Bool.or_true, Bool.or_false, Nat.reduceBEq, Nat.reduceEqDiff, ne_eq, Prod.mk.injEq, false_and, not_false_eq_true, true_and, rsI_len, hrll]
              refine rowsAt_same (f := cI) (d := 100024) (esz := 1) (R := R') ?_ (fun j h => ?_) (li_imv 8) (by decide) (by first | rfl | exact hRl'.symm | simp [rsI_len]) (by simp) (fun j _ => by simp) ?_
              · first | (simp only [VC0, VC1, VC2, VC3, VC4, VC5, VC6, VC7, VC8, reduceIte, reduceCtorEq, Nat.reduceEqDiff, Nat.reduceAdd, Nat.reduceMul, Nat.reduceBEq, Nat.reduceLT, Nat.reduceLeDiff, Int.reduceEq, Int.reduceLT, Int.reduceLE, Int.reduceNeg, Int.reduceToNat, Int.reduceAdd, Nat.reduceDiv, Nat.reduceSub, Nat.reduceMod, encL, MC0, MC1, MC2]; done) | rfl
              · simp only [VC0, VC1, VC2, VC3, VC4, VC5, VC6, VC7, VC8, reduceIte, reduceCtorEq, Nat.reduceEqDiff, Nat.reduceAdd, Nat.reduceMul, Nat.reduceBEq, Nat.reduceLT, Nat.reduceLeDiff, Int.reduceEq, Int.reduceLT, Int.reduceLE, Int.reduceNeg, Int.reduceToNat, Int.reduceAdd, Nat.reduceDiv, Nat.reduceSub, Nat.reduceMod, encL, MC0, MC1, MC2, rsI_get cI h]
              · simp only [VC0, VC1, VC2, VC3, VC4, VC5, VC6, VC7, VC8, reduceIte, reduceCtorEq, Nat.reduceEqDiff, Nat.reduceAdd, Nat.reduceMul, Nat.reduceBEq, Nat.reduceLT, Nat.reduceLeDiff, Int.reduceEq, Int.reduceLT, Int.reduceLE, Int.reduceNeg, Int.reduceToNat, Int.reduceAdd, Nat.reduceDiv, Nat.reduceSub, Nat.reduceMod, encL, MC0, MC1, MC2, seen_snap, seen_snapv, seen_sok, seen_imv, seen_key, cw_len, cw_snap, cw_sok, cw_imv, cw_take, fitc_imv, lo_imv, List.getElem?_cons_zero, List.take_zero, List.all_cons, List.all_nil, List.any_cons, List.any_nil, List.map_cons, List.map_nil, Bool.false_and, Bool.true_and, Bool.and_true, Bool.false_or, Bool.true_or, Bool.or_true, Bool.or_false, Nat.reduceBEq, Nat.reduceEqDiff, ne_eq, Prod.mk.injEq, false_and, not_false_eq_true, true_and, hrll]
                try decide)))
            rw [hon', pushW, if_pos ⟨hok, hseen⟩]
        · have hb' : b = nxt.length := by omega
          subst hb'
          have htake : (nx m p).take nxt.length = nx m p := List.take_of_length_le (by rw [hnx]; simp)
          rw [htake, f1] at hon
          injection hon with g1 g2
          subst g1
          subst g2
          have hcap' : (vs ++ es).length + unseen (grid Ls.length m.code.length) (vs ++ es) ≤ Ls.length * m.code.length := by rw [List.length_append]; omega
          simp only [VC0, VC1, VC2, VC3, VC4, VC5, VC6, VC7, VC8, reduceIte, reduceCtorEq, Nat.reduceEqDiff, Nat.reduceAdd, Nat.reduceMul, Nat.reduceBEq, Nat.reduceLT, Nat.reduceLeDiff, Int.reduceEq, Int.reduceLT, Int.reduceLE, Int.reduceNeg, Int.reduceToNat, Int.reduceAdd, Nat.reduceDiv, Nat.reduceSub, Nat.reduceMod, encL, MC0, MC1, MC2, List.mapM_nil, Option.pure_def, Option.map_some, Option.some.injEq, exists_eq_left']
          refine backTo_of ((vs ++ es, w0 ++ es, R'), _) ⟨f2, fun j hj q hq hok => List.mem_append_left _ (hseeds j hj q hq hok), ⟨hcap', fun t => by rw [List.length_append]; exact hrow' t⟩, hRows'⟩ (by simp only [List.length_append]; omega) (ent_of _ [] rfl rfl (by
            simp only [VC0, VC1, VC2, VC3, VC4, VC5, VC6, VC7, VC8, reduceIte, reduceCtorEq, Nat.reduceEqDiff, Nat.reduceAdd, Nat.reduceMul, Nat.reduceBEq, Nat.reduceLT, Nat.reduceLeDiff, Int.reduceEq, Int.reduceLT, Int.reduceLE, Int.reduceNeg, Int.reduceToNat, Int.reduceAdd, Nat.reduceDiv, Nat.reduceSub, Nat.reduceMod, encL, MC0, MC1, MC2, seen_snap, seen_snapv, seen_sok, seen_imv, seen_key, cw_len, cw_snap, cw_sok, cw_imv, cw_take, fitc_imv, lo_imv, List.getElem?_cons_zero, List.take_zero, List.all_cons, List.all_nil, List.any_cons, List.any_nil, List.map_cons, List.map_nil, Bool.false_and, Bool.true_and, Bool.and_true, Bool.false_or, Bool.true_or, Bool.or_true, Bool.or_false, Nat.reduceBEq, Nat.reduceEqDiff]
            refine ⟨by decide, ?_⟩
            simp only [VC0, VC1, VC2, VC3, VC4, VC5, VC6, VC7, VC8, reduceIte, reduceCtorEq, Nat.reduceEqDiff, Nat.reduceAdd, Nat.reduceMul, Nat.reduceBEq, Nat.reduceLT, Nat.reduceLeDiff, Int.reduceEq, Int.reduceLT, Int.reduceLE, Int.reduceNeg, Int.reduceToNat, Int.reduceAdd, Nat.reduceDiv, Nat.reduceSub, Nat.reduceMod, encL, MC0, MC1, MC2, seen_snap, seen_snapv, seen_sok, seen_imv, seen_key, cw_len, cw_snap, cw_sok, cw_imv, cw_take, fitc_imv, lo_imv, List.getElem?_cons_zero, List.take_zero, List.all_cons, List.all_nil, List.any_cons, List.any_nil, List.map_cons, List.map_nil, Bool.false_and, Bool.true_and, Bool.and_true, Bool.false_or, Bool.true_or, Bool.or_true, Bool.or_false, Nat.reduceBEq, Nat.reduceEqDiff, ne_eq, Prod.mk.injEq, false_and, not_false_eq_true, true_and, rsI_len, hrll]
            refine rowsAt_same (f := cI) (d := 100024) (esz := 1) (R := R') ?_ (fun j h => ?_) (li_imv 8) (by decide) (by first | rfl | exact hRl'.symm | simp [rsI_len]) (by simp) (fun j _ => by simp) ?_
            · first | (simp only [VC0, VC1, VC2, VC3, VC4, VC5, VC6, VC7, VC8, reduceIte, reduceCtorEq, Nat.reduceEqDiff, Nat.reduceAdd, Nat.reduceMul, Nat.reduceBEq, Nat.reduceLT, Nat.reduceLeDiff, Int.reduceEq, Int.reduceLT, Int.reduceLE, Int.reduceNeg, Int.reduceToNat, Int.reduceAdd, Nat.reduceDiv, Nat.reduceSub, Nat.reduceMod, encL, MC0, MC1, MC2]; done) | rfl
            · simp only [VC0, VC1, VC2, VC3, VC4, VC5, VC6, VC7, VC8, reduceIte, reduceCtorEq, Nat.reduceEqDiff, Nat.reduceAdd, Nat.reduceMul, Nat.reduceBEq, Nat.reduceLT, Nat.reduceLeDiff, Int.reduceEq, Int.reduceLT, Int.reduceLE, Int.reduceNeg, Int.reduceToNat, Int.reduceAdd, Nat.reduceDiv, Nat.reduceSub, Nat.reduceMod, encL, MC0, MC1, MC2, rsI_get cI h]
            · simp only [VC0, VC1, VC2, VC3, VC4, VC5, VC6, VC7, VC8, reduceIte, reduceCtorEq, Nat.reduceEqDiff, Nat.reduceAdd, Nat.reduceMul, Nat.reduceBEq, Nat.reduceLT, Nat.reduceLeDiff, Int.reduceEq, Int.reduceLT, Int.reduceLE, Int.reduceNeg, Int.reduceToNat, Int.reduceAdd, Nat.reduceDiv, Nat.reduceSub, Nat.reduceMod, encL, MC0, MC1, MC2, seen_snap, seen_snapv, seen_sok, seen_imv, seen_key, cw_len, cw_snap, cw_sok, cw_imv, cw_take, fitc_imv, lo_imv, List.getElem?_cons_zero, List.take_zero, List.all_cons, List.all_nil, List.any_cons, List.any_nil, List.map_cons, List.map_nil, Bool.false_and, Bool.true_and, Bool.and_true, Bool.false_or, Bool.true_or, Bool.or_true, Bool.or_false, Nat.reduceBEq, Nat.reduceEqDiff, ne_eq, Prod.mk.injEq, false_and, not_false_eq_true, true_and, hrll]
              try decide))
      · rw [hends, d1, if_pos rfl] at f1
        injection f1 with f1 f1'
        have hes0 : es = [] := by simpa using f1
        subst hes0
        refine backTo_of ((vs, w0, R'), _) ⟨by simpa using f2, hseeds, ⟨hcap, fun t => by simpa using hrow' t⟩, by simpa using hRows'⟩ (by simp only []; omega) (ent_of _ [] rfl rfl ?_)
        simp only [VC0, VC1, VC2, VC3, VC4, VC5, VC6, VC7, VC8, reduceIte, reduceCtorEq, Nat.reduceEqDiff, Nat.reduceAdd, Nat.reduceMul, Nat.reduceBEq, Nat.reduceLT, Nat.reduceLeDiff, Int.reduceEq, Int.reduceLT, Int.reduceLE, Int.reduceNeg, Int.reduceToNat, Int.reduceAdd, Nat.reduceDiv, Nat.reduceSub, Nat.reduceMod, encL, MC0, MC1, MC2, seen_snap, seen_snapv, seen_sok, seen_imv, seen_key, cw_len, cw_snap, cw_sok, cw_imv, cw_take, fitc_imv, lo_imv, List.getElem?_cons_zero, List.take_zero, List.all_cons, List.all_nil, List.any_cons, List.any_nil, List.map_cons, List.map_nil, Bool.false_and, Bool.true_and, Bool.and_true, Bool.false_or, Bool.true_or, Bool.or_true, Bool.or_false, Nat.reduceBEq, Nat.reduceEqDiff, ne_eq, Prod.mk.injEq, false_and, not_false_eq_true, true_and, rsI_len, hrll]
        refine rowsAt_same (f := cI) (d := 12) (esz := 1) (R := R') rfl (fun j h => ?_) (li_imv 8) (by decide) (by first | rfl | exact hRl'.symm | simp [rsI_len]) (by simp) (fun j _ => by simp) ?_
        · simp only [VC0, VC1, VC2, VC3, VC4, VC5, VC6, VC7, VC8, reduceIte, reduceCtorEq, Nat.reduceEqDiff, Nat.reduceAdd, Nat.reduceMul, Nat.reduceBEq, Nat.reduceLT, Nat.reduceLeDiff, Int.reduceEq, Int.reduceLT, Int.reduceLE, Int.reduceNeg, Int.reduceToNat, Int.reduceAdd, Nat.reduceDiv, Nat.reduceSub, Nat.reduceMod, encL, MC0, MC1, MC2, rsI_get cI h]
        · simp only [VC0, VC1, VC2, VC3, VC4, VC5, VC6, VC7, VC8, reduceIte, reduceCtorEq, Nat.reduceEqDiff, Nat.reduceAdd, Nat.reduceMul, Nat.reduceBEq, Nat.reduceLT, Nat.reduceLeDiff, Int.reduceEq, Int.reduceLT, Int.reduceLE, Int.reduceNeg, Int.reduceToNat, Int.reduceAdd, Nat.reduceDiv, Nat.reduceSub, Nat.reduceMod, encL, MC0, MC1, MC2, seen_snap, seen_snapv, seen_sok, seen_imv, seen_key, cw_len, cw_snap, cw_sok, cw_imv, cw_take, fitc_imv, lo_imv, List.getElem?_cons_zero, List.take_zero, List.all_cons, List.all_nil, List.any_cons, List.any_nil, List.map_cons, List.map_nil, Bool.false_and, Bool.true_and, Bool.and_true, Bool.false_or, Bool.true_or, Bool.or_true, Bool.or_false, Nat.reduceBEq, Nat.reduceEqDiff, ne_eq, Prod.mk.injEq, false_and, not_false_eq_true, true_and, hrll]
    · have hw0 : w = [] := by
        cases w with
        | nil => rfl
        | cons a l => simp at h
      subst hw0
      have hall := fun k p => hW.all hseeds k p
      simp only [VC0, VC1, VC2, VC3, VC4, VC5, VC6, VC7, VC8, reduceIte, reduceCtorEq, Nat.reduceEqDiff, Nat.reduceAdd, Nat.reduceMul, Nat.reduceBEq, Nat.reduceLT, Nat.reduceLeDiff, Int.reduceEq, Int.reduceLT, Int.reduceLE, Int.reduceNeg, Int.reduceToNat, Int.reduceAdd, Nat.reduceDiv, Nat.reduceSub, Nat.reduceMod, encL, MC0, MC1, MC2, seen_snap, seen_snapv, seen_sok, seen_imv, seen_key, cw_len, cw_snap, cw_sok, cw_imv, cw_take, fitc_imv, lo_imv, List.getElem?_cons_zero, List.take_zero, List.all_cons, List.all_nil, List.any_cons, List.any_nil, List.map_cons, List.map_nil, Bool.false_and, Bool.true_and, Bool.and_true, Bool.false_or, Bool.true_or, Bool.or_true, Bool.or_false, Nat.reduceBEq, Nat.reduceEqDiff]
      have hRN : R.length ≤ 6000 := by omega
      obtain ⟨hp, hhp⟩ : ∃ hp : List (List Int) → Heap, hp = fun R2 => hpO [(9, .clo 47 [6, 2, 3, 7, 8]), (2, .box m.cells), (3, .box [encL (cL cB) pts]), (5, .val (encL cB rl)), (6, .box [encL MLoan.cells Ls]), (7, .boxm [] (seenE vs)), (8, .boxo 2 0 (([] : List Pr).flatMap cW)), (12, .rows 1 (rsI cI R2))] := ⟨_, rfl⟩
      obtain ⟨cn, hcn⟩ : ∃ cn : Nat → Nat, cn = cnO [(9, .clo 47 [6, 2, 3, 7, 8]), (2, .box m.cells), (3, .box [encL (cL cB) pts]), (5, .val (encL cB rl)), (6, .box [encL MLoan.cells Ls]), (7, .boxm [] (seenE vs)), (8, .boxo 2 0 (([] : List Pr).flatMap cW)), (12, .rows 1 (rsI cI R))] c := ⟨_, rfl⟩
      refine loop_vcg (ι := Nat × List (List Int)) (fun y => ⟨tmk [(3, .mp (2199023255555, 0) 0 0), (7, .mp (2199023255559, 0) 0 0), (12, .msl (2199023255564, 0) 0 0 (rsI cI R).length), (94, .msl (2199023255564, 0) 0 0 (rsI cI R).length), (95, .int .i64 ((rsI cI R).length : Nat)), (96, .int .i64 (y.1 : Nat))], hp y.2, cn⟩)
        (fun y => y.1 ≤ R.length ∧ y.2 = (R.take y.1).map sortI ++ R.drop y.1) (fun y => R.length - y.1) (0, R) ⟨Nat.zero_le _, rfl⟩ (by rw [hhp, hcn]; exact Ent.refl _) ?_
      rintro ⟨i, R2⟩ hi
      obtain ⟨hi, hR2⟩ : i ≤ R.length ∧ R2 = (R.take i).map sortI ++ R.drop i := hi
      have hR2l : R2.length = R.length := by rw [hR2]; simp; omega
      simp only [VC0, VC1, VC2, VC3, VC4, VC5, VC6, VC7, VC8, reduceIte, reduceCtorEq, Nat.reduceEqDiff, Nat.reduceAdd, Nat.reduceMul, Nat.reduceBEq, Nat.reduceLT, Nat.reduceLeDiff, Int.reduceEq, Int.reduceLT, Int.reduceLE, Int.reduceNeg, Int.reduceToNat, Int.reduceAdd, Nat.reduceDiv, Nat.reduceSub, Nat.reduceMod, encL, MC0, MC1, MC2]
      refine condD_of (fun h => ?_) (fun h => ?_)
      · have hiR : i < R2.length := by rw [rsI_len] at h; omega
        have i1 : 0 ≤ (i : Int) ∧ (i : Int) < R.length := by omega
        have i2 : InI64 ((i : Int) + 1) := by unfold InI64; omega
        have hil : i < (rsI cI R2).length := by rw [rsI_len]; exact hiR
        have hget := rsI_get cI hiR
        simp only [VC0, VC1, VC2, VC3, VC4, VC5, VC6, VC7, VC8, reduceIte, reduceCtorEq, Nat.reduceEqDiff, Nat.reduceAdd, Nat.reduceMul, Nat.reduceBEq, Nat.reduceLT, Nat.reduceLeDiff, Int.reduceEq, Int.reduceLT, Int.reduceLE, Int.reduceNeg, Int.reduceToNat, Int.reduceAdd, Nat.reduceDiv, Nat.reduceSub, Nat.reduceMod, encL, MC0, MC1, MC2, hhp, seen_snap, seen_snapv, seen_sok, seen_imv, seen_key, cw_len, cw_snap, cw_sok, cw_imv, cw_take, fitc_imv, lo_imv, List.getElem?_cons_zero, List.take_zero, List.all_cons, List.all_nil, List.any_cons, List.any_nil, List.map_cons, List.map_nil, Bool.false_and, Bool.true_and, Bool.and_true, Bool.false_or, Bool.true_or, Bool.or_true, Bool.or_false, Nat.reduceBEq, Nat.reduceEqDiff, rsI_len, i1, i2, hiR, rowV_ld hil, rowV_len, hget, rsI_at, hR2l]
        have hiR' : i < R.length := by omega
        have hg1 : R2.getD i [] = R.getD i [] := by
          rw [hR2]
          simp only [List.getD_eq_getElem?_getD]
          rw [List.getElem?_append_right (by simp only [List.length_map, List.length_take]; omega), List.length_map, List.length_take, Nat.min_eq_left (by omega), Nat.sub_self, List.getElem?_drop, Nat.add_zero]
        have hg2 : R2.getD i [] = R2[i] := by simp [hiR]
        have hlen : R2[i].length < 4611686018427387904 := by
          have := hrow i
          rw [← hg1, hg2] at this
          omega
        refine callX_mut (sort_mut' R2[i] rfl hlen) (by simp only [VC0, VC1, VC2, VC3, VC4, VC5, VC6, VC7, VC8, reduceIte, reduceCtorEq, Nat.reduceEqDiff, Nat.reduceAdd, Nat.reduceMul, Nat.reduceBEq, Nat.reduceLT, Nat.reduceLeDiff, Int.reduceEq, Int.reduceLT, Int.reduceLE, Int.reduceNeg, Int.reduceToNat, Int.reduceAdd, Nat.reduceDiv, Nat.reduceSub, Nat.reduceMod, encL, MC0, MC1, MC2, hget, hil]; try rfl) (li_snap _ _ _) rfl ?_
        have hput : hupd (hp R2) (4398046511116, i) (.row 0 1 ((sortI R2[i]).flatMap cI)) = hp (R2.set i (sortI R2[i])) := by
          funext k
          have := rows_put (f := cI) (d := 12) (esz := 1) (r := sortI R2[i]) hiR (sortI_len _) k
          rw [hhp]
          by_cases hk : k = (4398046511116, i)
          · subst hk
            simp only [hupd, if_true] at this ⊢
            simp only [hpO] at this ⊢
            simpa using this
          · simp only [hupd, hk, if_false] at this ⊢
            simp only [hpO] at this ⊢
            simp only [this]
        have hset : R2.set i (sortI R2[i]) = (R.take (i + 1)).map sortI ++ R.drop (i + 1) := by
          have hRi : R2[i] = R[i] := by rw [← hg2, hg1]; simp [hiR']
          rw [hRi, hR2, List.drop_eq_getElem_cons hiR', List.set_append_right _ _ (by simp only [List.length_map, List.length_take]; omega), List.length_map, List.length_take, Nat.min_eq_left (by omega), Nat.sub_self, List.set_cons_zero, List.take_add_one, List.getElem?_eq_getElem hiR', List.map_append, List.append_assoc]
          rfl
        simp only [VC0, VC1, VC2, VC3, VC4, VC5, VC6, VC7, VC8, reduceIte, reduceCtorEq, Nat.reduceEqDiff, Nat.reduceAdd, Nat.reduceMul, Nat.reduceBEq, Nat.reduceLT, Nat.reduceLeDiff, Int.reduceEq, Int.reduceLT, Int.reduceLE, Int.reduceNeg, Int.reduceToNat, Int.reduceAdd, Nat.reduceDiv, Nat.reduceSub, Nat.reduceMod, encL, MC0, MC1, MC2, i2]
        refine backTo_of (i + 1, R2.set i (sortI R2[i])) ⟨hiR', hset⟩ (by simp only []; omega) ?_
        rw [hhp] at hput
        refine (congrArg (fun H => Ent ⟨_, H, _⟩ _) hput).mpr (Ent.of_le ⟨fun t => ?_, fun _ _ h => h, fun _ => Nat.le_refl _⟩)
        by_cases h1 : t = 96
        · subst h1; exact .inl rfl
        · by_cases h2 : t = 102
          · subst h2; exact .inr rfl
          · left; simp only [tupd, tmk, h1, h2, if_false]
      · have hi' : i = R.length := by rw [rsI_len] at h; omega
        subst hi'
        have hR2' : R2 = R.map sortI := by rw [hR2]; simp
        simp only [VC0, VC1, VC2, VC3, VC4, VC5, VC6, VC7, VC8, reduceIte, reduceCtorEq, Nat.reduceEqDiff, Nat.reduceAdd, Nat.reduceMul, Nat.reduceBEq, Nat.reduceLT, Nat.reduceLeDiff, Int.reduceEq, Int.reduceLT, Int.reduceLE, Int.reduceNeg, Int.reduceToNat, Int.reduceAdd, Nat.reduceDiv, Nat.reduceSub, Nat.reduceMod, encL, MC0, MC1, MC2, hhp, seen_snap, seen_snapv, seen_sok, seen_imv, seen_key, cw_len, cw_snap, cw_sok, cw_imv, cw_take, fitc_imv, lo_imv, List.getElem?_cons_zero, List.take_zero, List.all_cons, List.all_nil, List.any_cons, List.any_nil, List.map_cons, List.map_nil, Bool.false_and, Bool.true_and, Bool.and_true, Bool.false_or, Bool.true_or, Bool.or_true, Bool.or_false, Nat.reduceBEq, Nat.reduceEqDiff, rsI_len]
        have hin : R.map sortI = inL m pts := by
          have h0 := rows_inR (Rc := fun p => 0 ≤ dist0 (nx m) 0 p) hRows hall (fun p hp => by
            rw [hrl]
            simp [hp])
          rw [h0, hLs]; rfl
        have hl := inR_len (GoesL m pts) (loansOf m).length m.code.length
        have hsn := rowV_snap (H := hpO [(9, .clo 47 [6, 2, 3, 7, 8]), (2, .box m.cells), (3, .box [encL (cL cB) pts]), (5, .val (encL cB rl)), (6, .box [encL MLoan.cells Ls]), (7, .boxm [] (seenE vs)), (8, .boxo 2 0 (([] : List Pr).flatMap cW)), (12, .rows 1 (rsI cI R2))]) (f := cI) (d := 12) (j := 6) (R := R2) (fun j h => by simp only [VC0, VC1, VC2, VC3, VC4, VC5, VC6, VC7, VC8, reduceIte, reduceCtorEq, Nat.reduceEqDiff, Nat.reduceAdd, Nat.reduceMul, Nat.reduceBEq, Nat.reduceLT, Nat.reduceLeDiff, Int.reduceEq, Int.reduceLT, Int.reduceLE, Int.reduceNeg, Int.reduceToNat, Int.reduceAdd, Nat.reduceDiv, Nat.reduceSub, Nat.reduceMod, encL, MC0, MC1, MC2, rsI_get cI h]) (fun _ => rfl) (fun r => li_snap _ _ _)
        have hl' : R.length = (inL m pts).length := by rw [inL, hl]; exact hRl
        have hfr := rowV_frs (H := hpO [(9, .clo 47 [6, 2, 3, 7, 8]), (2, .box m.cells), (3, .box [encL (cL cB) pts]), (5, .val (encL cB rl)), (6, .box [encL MLoan.cells Ls]), (7, .boxm [] (seenE vs)), (8, .boxo 2 0 (([] : List Pr).flatMap cW)), (12, .rows 1 (rsI cI R2))]) (f := cI) (d := 12) (j := 6) (R := R2) (fun j h => by simp only [VC0, VC1, VC2, VC3, VC4, VC5, VC6, VC7, VC8, reduceIte, reduceCtorEq, Nat.reduceEqDiff, Nat.reduceAdd, Nat.reduceMul, Nat.reduceBEq, Nat.reduceLT, Nat.reduceLeDiff, Int.reduceEq, Int.reduceLT, Int.reduceLE, Int.reduceNeg, Int.reduceToNat, Int.reduceAdd, Nat.reduceDiv, Nat.reduceSub, Nat.reduceMod, encL, MC0, MC1, MC2, rsI_get cI h]) (fun _ => rfl) (fun r => li_frs _ _ _)
        refine And.intro ?_ ?_
        · rw [rowV_len, rsI_len, hR2l, if_pos (Nat.le_refl _), List.take_of_length_le (by rw [rowV_len, rsI_len, hR2l]; exact Nat.le_refl _)]
          refine (congrArg (fun l => V.sl R.length l) hsn).trans ?_
          rw [hR2', hin, hl']
        · rw [rowV_len, rsI_len, hR2l, decide_eq_true (Nat.le_refl _), Bool.true_and]
          exact hfr
theorem in_ret (m : Mir) (hm : m.ok) (hgr : greatB m = false) (hmay : mayB m = true) (pts : List (List Bool)) (hp1 : pts.length ≤ 1000) (hp2 : ∀ r ∈ pts, r.length ≤ 1000) : PRet Try.prog 29 [.agg m.cells, encL (cL cB) pts] (encL (cL cI) (inL m pts)) := (in_retF m hm hgr hmay pts hp1 hp2).ret
end Go.Proofs.Ytobhpkagbmadlaa
