/-
  Texts Ct7, Ct8, Ct9, Cta of this claim, put together.
-/
import Derived.Test.YtobhpkagbmadlaaGH
import Derived.Test.YtobhpkagbmadlaaGG
import Derived.Test.YtobhpkagbmadlaaGF
set_option linter.unusedSimpArgs false
set_option linter.unusedVariables false
namespace Go.Proofs.Ytobhpkagbmadlaa
open Go Go.Lg Go.RowKit
set_option maxRecDepth 20000

/-- Points whose nexts are points. -/
structure okG (m : Mir) : Prop where
  pos : 1 ≤ m.code.length
  le : m.code.length ≤ 6000
  nx : ∀ x ∈ m.code, x.next.length ≤ 2 ∧ ∀ y ∈ x.next, 0 ≤ y ∧ y < m.code.length
  en : ∀ x ∈ m.code, x.kind = 6 → x.next = []

theorem okG_of {m : Mir} (h : mayB m = true) : okG m := by
  simp only [mayB, Bool.and_eq_true, List.all_eq_true] at h
  obtain ⟨⟨⟨h1, _⟩, _⟩, h4⟩ := h
  simp only [mayHead, inB, Bool.and_eq_true, decide_eq_true_eq] at h1
  refine ⟨by omega, by omega, fun x hx => ?_, fun x hx h6 => ?_⟩
  case refine_2 =>
    have := h4 x hx
    simp only [instB_eq, Bool.and_eq_true, decide_eq_true_eq] at this
    have hw : instWant x = 0 := by unfold instWant; rw [if_neg (by omega), if_pos h6]
    exact List.eq_nil_of_length_eq_zero (by omega)
  have := h4 x hx
  simp only [instB_eq, Bool.and_eq_true, decide_eq_true_eq, List.all_eq_true, inB] at this
  refine ⟨?_, fun y hy => this.2.2 y hy⟩
  have hw : instWant x ≤ 2 := by unfold instWant; split <;> (try split) <;> omega
  omega

def ints (l : List Nat) : List Int := l.map fun (u : Nat) => (u : Int)
theorem ints_len (l : List Nat) : (ints l).length = l.length := by simp [ints]
theorem ints_get {l : List Nat} {k : Nat} (h : k < (ints l).length) : (ints l)[k] = (l[k]'(by simpa [ints] using h) : Nat) := by simp [ints]
theorem ints_app (l : List Nat) (x : Nat) : ints l ++ [(x : Int)] = ints (l ++ [x]) := by simp [ints]

def uns (l : List Int) : Nat := l.countP fun x => decide (x < 0)
theorem uns_set {l : List Int} {k : Nat} {v : Int} (h : k < l.length) (h1 : l[k] < 0) (h2 : 0 ≤ v) : uns (l.set k v) + 1 = uns l := by
  induction l generalizing k with
  | nil => cases h
  | cons x r ih =>
    cases k with
    | zero =>
      have h1' : x < 0 := h1
      simp only [uns, List.set_cons_zero, List.countP_cons, h1', decide_true, if_true]
      rw [if_neg (by simp; omega)]
    | succ k =>
      have := ih (k := k) (by simpa using h) h1
      simp only [uns, List.set_cons_succ, List.countP_cons] at this ⊢
      omega
theorem uns_le (l : List Int) : uns l ≤ l.length := List.countP_le_length

theorem from_own (m : Mir) (hg : okG m) (s : Nat) (hs : s < m.code.length) : PRetM Try.prog 46 [.agg m.cells, encL cI [(s : Int)]] 1 m.code.length (((List.range m.code.length).map (dist1 (nx m) s)).flatMap cI) := by
  have hN := hg.le
  refine pretM_intro fd46 (by simp) (by rw [li_len]; simp) ?_
  simp only [lc46, VC0, VC1, VC2, VC3, VC4, VC5, VC6, VC7, VC8, reduceIte, reduceCtorEq, Nat.reduceEqDiff, Nat.reduceAdd, Nat.reduceMul, Nat.reduceBEq, Nat.reduceLT, Nat.reduceLeDiff, Int.reduceEq, Int.reduceLT, Int.reduceLE, Int.reduceNeg, Int.reduceToNat, Int.reduceAdd, Nat.reduceDiv, Nat.reduceSub, Nat.reduceMod, encL, MC0, MC1, MC2]
  refine And.intro (by omega) ?_
  refine loop_vcg (ι := Nat × List Int × (Nat → Nat)) (fun (i, out, c) => stO [(1, .val (encL cI [(s : Int)])), (2, .box m.cells), (5, .own 1 m.code.length (out.flatMap cI)), (18, .val (.int .i64 m.code.length)), (19, .val (.int .i64 i))] c)
    (fun (i, out, _) => i ≤ m.code.length ∧ out.length = m.code.length ∧ ∀ t, t < i → out[t]? = some (-1)) (fun (i, _, _) => m.code.length - i) (0, List.replicate m.code.length 0, _) ⟨by omega, by simp, fun t h => by omega⟩ (ent_of _ [] rfl rfl (by simp only [VC0, VC1, VC2, VC3, VC4, VC5, VC6, VC7, VC8, reduceIte, reduceCtorEq, Nat.reduceEqDiff, Nat.reduceAdd, Nat.reduceMul, Nat.reduceBEq, Nat.reduceLT, Nat.reduceLeDiff, Int.reduceEq, Int.reduceLT, Int.reduceLE, Int.reduceNeg, Int.reduceToNat, Int.reduceAdd, Nat.reduceDiv, Nat.reduceSub, Nat.reduceMod, encL, MC0, MC1, MC2])) ?_
  rintro ⟨i, out, c⟩ ⟨hi, hlen, hout⟩
  simp only [VC0, VC1, VC2, VC3, VC4, VC5, VC6, VC7, VC8, reduceIte, reduceCtorEq, Nat.reduceEqDiff, Nat.reduceAdd, Nat.reduceMul, Nat.reduceBEq, Nat.reduceLT, Nat.reduceLeDiff, Int.reduceEq, Int.reduceLT, Int.reduceLE, Int.reduceNeg, Int.reduceToNat, Int.reduceAdd, Nat.reduceDiv, Nat.reduceSub, Nat.reduceMod, encL, MC0, MC1, MC2]
  refine condD_of (fun h => ?_) (fun h => ?_)
  · have hi' : i < out.length := by omega
    have hin : 0 ≤ (i : Int) ∧ (i : Int) < m.code.length := by omega
    have hle : i + 1 ≤ m.code.length := by omega
    simp only [VC0, VC1, VC2, VC3, VC4, VC5, VC6, VC7, VC8, reduceIte, reduceCtorEq, Nat.reduceEqDiff, Nat.reduceAdd, Nat.reduceMul, Nat.reduceBEq, Nat.reduceLT, Nat.reduceLeDiff, Int.reduceEq, Int.reduceLT, Int.reduceLE, Int.reduceNeg, Int.reduceToNat, Int.reduceAdd, Nat.reduceDiv, Nat.reduceSub, Nat.reduceMod, encL, MC0, MC1, MC2, hin, hlen, hle, li_set hi']
    refine And.intro (by unfold InI64; omega) (backTo_of (i + 1, out.set i (-1), _) ⟨by omega, by simp [hlen], fun t ht => ?_⟩ (by simp only []; omega) (ent_of _ [] rfl rfl (by simp only [VC0, VC1, VC2, VC3, VC4, VC5, VC6, VC7, VC8, reduceIte, reduceCtorEq, Nat.reduceEqDiff, Nat.reduceAdd, Nat.reduceMul, Nat.reduceBEq, Nat.reduceLT, Nat.reduceLeDiff, Int.reduceEq, Int.reduceLT, Int.reduceLE, Int.reduceNeg, Int.reduceToNat, Int.reduceAdd, Nat.reduceDiv, Nat.reduceSub, Nat.reduceMod, encL, MC0, MC1, MC2])))
    rw [List.getElem?_set]
    split
    · rename_i e; subst e; simp
    · exact hout t (by simp only [] at ht; omega)
  · have hi' : i = m.code.length := by omega
    subst hi'
    clear h hi
    simp only [VC0, VC1, VC2, VC3, VC4, VC5, VC6, VC7, VC8, reduceIte, reduceCtorEq, Nat.reduceEqDiff, Nat.reduceAdd, Nat.reduceMul, Nat.reduceBEq, Nat.reduceLT, Nat.reduceLeDiff, Int.reduceEq, Int.reduceLT, Int.reduceLE, Int.reduceNeg, Int.reduceToNat, Int.reduceAdd, Nat.reduceDiv, Nat.reduceSub, Nat.reduceMod, encL, MC0, MC1, MC2]
    refine loop_vcg (ι := Nat × List Nat × List Int × (Nat → Nat)) (fun (n, W, out, c) => stO [(1, .frz (encL cI (ints W))), (2, .box m.cells), (5, .own 1 m.code.length (out.flatMap cI)), (7, .val (.int .i64 n))] c)
      (fun (n, W, out, _) => 1 ≤ n ∧ out.length = m.code.length ∧ (∀ u, u ∈ W ↔ u < m.code.length ∧ (if n = 1 then u = s else dist1 (nx m) s u = ((n - 1 : Nat) : Int))) ∧
        (∀ t, t < m.code.length → out[t]? = some (if 1 ≤ dist1 (nx m) s t ∧ dist1 (nx m) s t < n then dist1 (nx m) s t else -1)) ∧ W.length ≤ m.code.length ∧ n + uns out ≤ m.code.length + 1 + (if W = [] then 1 else 0))
      (fun (n, W, out, _) => 2 * uns out + (if W = [] then 0 else 1)) (1, [s], out, _) ?_ (ent_of _ [] rfl rfl (by simp only [VC0, VC1, VC2, VC3, VC4, VC5, VC6, VC7, VC8, reduceIte, reduceCtorEq, Nat.reduceEqDiff, Nat.reduceAdd, Nat.reduceMul, Nat.reduceBEq, Nat.reduceLT, Nat.reduceLeDiff, Int.reduceEq, Int.reduceLT, Int.reduceLE, Int.reduceNeg, Int.reduceToNat, Int.reduceAdd, Nat.reduceDiv, Nat.reduceSub, Nat.reduceMod, encL, MC0, MC1, MC2]; exact ⟨rfl, rfl⟩)) ?_
    · refine ⟨Nat.le_refl _, hlen, fun u => ?_, fun t ht => ?_, ?_, ?_⟩
      · rw [if_pos rfl, List.mem_singleton]
        exact ⟨fun e => by subst e; exact ⟨hs, rfl⟩, fun e => e.2⟩
      · rw [hout t ht, if_neg (by omega)]
      · simp only [List.length_singleton]; omega
      · have := uns_le out
        simp only [reduceCtorEq, if_false]
        omega
    · rintro ⟨n, W, out, c⟩ ⟨hn, hlen, hW, hout, hWl, hnb⟩
      have hWi := ints_len W
      simp only [VC0, VC1, VC2, VC3, VC4, VC5, VC6, VC7, VC8, reduceIte, reduceCtorEq, Nat.reduceEqDiff, Nat.reduceAdd, Nat.reduceMul, Nat.reduceBEq, Nat.reduceLT, Nat.reduceLeDiff, Int.reduceEq, Int.reduceLT, Int.reduceLE, Int.reduceNeg, Int.reduceToNat, Int.reduceAdd, Nat.reduceDiv, Nat.reduceSub, Nat.reduceMod, encL, MC0, MC1, MC2, hWi]
      refine condD_of (fun h => ?_) (fun h => ?_)
      · have hWne : W ≠ [] := by
          rintro rfl
          simp at h
        rw [if_neg hWne] at hnb
        have hnN : n ≤ 6001 := by omega
        simp only [VC0, VC1, VC2, VC3, VC4, VC5, VC6, VC7, VC8, reduceIte, reduceCtorEq, Nat.reduceEqDiff, Nat.reduceAdd, Nat.reduceMul, Nat.reduceBEq, Nat.reduceLT, Nat.reduceLeDiff, Int.reduceEq, Int.reduceLT, Int.reduceLE, Int.reduceNeg, Int.reduceToNat, Int.reduceAdd, Nat.reduceDiv, Nat.reduceSub, Nat.reduceMod, encL, MC0, MC1, MC2, hWi]
        -- the values in the round
        let F : List Nat → Nat → Int := fun X t => if t ∈ X then (n : Int) else if 1 ≤ dist1 (nx m) s t ∧ dist1 (nx m) s t < n then dist1 (nx m) s t else -1
        refine loop_vcg (ι := Nat × List Nat × List Int × (Nat → Nat)) (fun (a, X, o, c) => stO [(2, .box m.cells), (5, .own 1 m.code.length (o.flatMap cI)), (7, .val (.int .i64 n)), (8, .own 1 X.length ((ints X).flatMap cI)), (31, .val (encL cI (ints W))), (32, .val (.int .i64 W.length)), (33, .val (.int .i64 a))] c)
          (fun (a, X, o, _) => a ≤ W.length ∧ o.length = m.code.length ∧ uns o + X.length = uns out ∧ (∀ t, t < m.code.length → o[t]? = some (F X t)) ∧
            (∀ t, t ∈ X ↔ t < m.code.length ∧ ¬ (1 ≤ dist1 (nx m) s t ∧ dist1 (nx m) s t < n) ∧ ∃ u ∈ W.take a, t ∈ nx m u))
          (fun (a, _, _, _) => W.length - a) (0, [], out, _) ⟨Nat.zero_le _, hlen, by simp, fun t ht => by rw [hout t ht]; simp [F], fun t => by simp⟩ (ent_of _ [] rfl rfl (by simp only [VC0, VC1, VC2, VC3, VC4, VC5, VC6, VC7, VC8, reduceIte, reduceCtorEq, Nat.reduceEqDiff, Nat.reduceAdd, Nat.reduceMul, Nat.reduceBEq, Nat.reduceLT, Nat.reduceLeDiff, Int.reduceEq, Int.reduceLT, Int.reduceLE, Int.reduceNeg, Int.reduceToNat, Int.reduceAdd, Nat.reduceDiv, Nat.reduceSub, Nat.reduceMod, encL, MC0, MC1, MC2, ints]; rfl)) ?_
        rintro ⟨a, X, o, c⟩ ⟨ha, hol, huns, hov, hX⟩
        simp only [VC0, VC1, VC2, VC3, VC4, VC5, VC6, VC7, VC8, reduceIte, reduceCtorEq, Nat.reduceEqDiff, Nat.reduceAdd, Nat.reduceMul, Nat.reduceBEq, Nat.reduceLT, Nat.reduceLeDiff, Int.reduceEq, Int.reduceLT, Int.reduceLE, Int.reduceNeg, Int.reduceToNat, Int.reduceAdd, Nat.reduceDiv, Nat.reduceSub, Nat.reduceMod, encL, MC0, MC1, MC2]
        refine condD_of (fun h => ?_) (fun h => ?_)
        · have ha' : a < W.length := by omega
          have hai : a < (ints W).length := by rw [hWi]; exact ha'
          have hin : 0 ≤ (a : Int) ∧ (a : Int) < W.length := by omega
          have hu := ((hW W[a]).1 (List.getElem_mem ha')).1
          have huin : 0 ≤ (W[a] : Int) ∧ (W[a] : Int) < m.code.length := by omega
          simp only [VC0, VC1, VC2, VC3, VC4, VC5, VC6, VC7, VC8, reduceIte, reduceCtorEq, Nat.reduceEqDiff, Nat.reduceAdd, Nat.reduceMul, Nat.reduceBEq, Nat.reduceLT, Nat.reduceLeDiff, Int.reduceEq, Int.reduceLT, Int.reduceLE, Int.reduceNeg, Int.reduceToNat, Int.reduceAdd, Nat.reduceDiv, Nat.reduceSub, Nat.reduceMod, encL, MC0, MC1, MC2, hWi, hin, ha', ints_get, huin, hu]
          -- the nexts of the point
          have hy := hg.nx _ (List.getElem_mem hu)
          have hnx : nx m W[a] = (m.code[W[a]].next).map Int.toNat := by simp [nx, hu]
          generalize hys : m.code[W[a]].next = ys at hy hnx
          refine loop_vcg (ι := Nat × List Nat × List Int × (Nat → Nat)) (fun (b, X, o, c) => stO [(2, .box m.cells), (5, .own 1 m.code.length (o.flatMap cI)), (7, .val (.int .i64 n)), (8, .own 1 X.length ((ints X).flatMap cI)), (31, .val (encL cI (ints W))), (32, .val (.int .i64 W.length)), (33, .val (.int .i64 a)),
              (42, .val (encL cI ys)), (43, .val (.int .i64 ys.length)), (44, .val (.int .i64 b))] c)
            (fun (b, X, o, _) => b ≤ ys.length ∧ o.length = m.code.length ∧ uns o + X.length = uns out ∧ (∀ t, t < m.code.length → o[t]? = some (F X t)) ∧
              (∀ t, t ∈ X ↔ t < m.code.length ∧ ¬ (1 ≤ dist1 (nx m) s t ∧ dist1 (nx m) s t < n) ∧ ((∃ u ∈ W.take a, t ∈ nx m u) ∨ t ∈ (nx m W[a]).take b)))
            (fun (b, _, _, _) => ys.length - b) (0, X, o, _) ⟨Nat.zero_le _, hol, huns, hov, fun t => by rw [hX t]; simp⟩ (ent_of _ [] rfl rfl (by simp only [VC0, VC1, VC2, VC3, VC4, VC5, VC6, VC7, VC8, reduceIte, reduceCtorEq, Nat.reduceEqDiff, Nat.reduceAdd, Nat.reduceMul, Nat.reduceBEq, Nat.reduceLT, Nat.reduceLeDiff, Int.reduceEq, Int.reduceLT, Int.reduceLE, Int.reduceNeg, Int.reduceToNat, Int.reduceAdd, Nat.reduceDiv, Nat.reduceSub, Nat.reduceMod, encL, MC0, MC1, MC2, hWi])) ?_
          rintro ⟨b, X, o, c⟩ ⟨hb, hol, huns, hov, hX⟩
          simp only [VC0, VC1, VC2, VC3, VC4, VC5, VC6, VC7, VC8, reduceIte, reduceCtorEq, Nat.reduceEqDiff, Nat.reduceAdd, Nat.reduceMul, Nat.reduceBEq, Nat.reduceLT, Nat.reduceLeDiff, Int.reduceEq, Int.reduceLT, Int.reduceLE, Int.reduceNeg, Int.reduceToNat, Int.reduceAdd, Nat.reduceDiv, Nat.reduceSub, Nat.reduceMod, encL, MC0, MC1, MC2]
          refine condD_of (fun h => ?_) (fun h => ?_)
          · have hb' : b < ys.length := by omega
            have hbin : 0 ≤ (b : Int) ∧ (b : Int) < ys.length := by omega
            obtain ⟨t, ht⟩ : ∃ t : Nat, ys[b] = (t : Int) := ⟨ys[b].toNat, by have := hy.2 _ (List.getElem_mem hb'); omega⟩
            have htN : t < m.code.length := by have := hy.2 _ (List.getElem_mem hb'); omega
            have htin : 0 ≤ (t : Int) ∧ (t : Int) < m.code.length := by omega
            have hto : t < o.length := by omega
            have hot : o[t] = F X t := by
              have := hov t htN
              rw [List.getElem?_eq_getElem hto] at this
              exact Option.some.inj this
            have htk : (nx m W[a]).take (b + 1) = (nx m W[a]).take b ++ [t] := by
              have hl : b < (nx m W[a]).length := by rw [hnx]; simpa using hb'
              rw [List.take_succ_eq_append_getElem hl]
              congr 2
              simp only [hnx, List.getElem_map, ht]; rfl
            simp only [VC0, VC1, VC2, VC3, VC4, VC5, VC6, VC7, VC8, reduceIte, reduceCtorEq, Nat.reduceEqDiff, Nat.reduceAdd, Nat.reduceMul, Nat.reduceBEq, Nat.reduceLT, Nat.reduceLeDiff, Int.reduceEq, Int.reduceLT, Int.reduceLE, Int.reduceNeg, Int.reduceToNat, Int.reduceAdd, Nat.reduceDiv, Nat.reduceSub, Nat.reduceMod, encL, MC0, MC1, MC2, hb', hbin, ht, htin, hto, hot]
            refine condD_of (fun h => ?_) (fun h => ?_)
            · have htX : t ∉ X := by
                intro hm'
                simp only [F, if_pos hm'] at h
                omega
              have htd : ¬ (1 ≤ dist1 (nx m) s t ∧ dist1 (nx m) s t < n) := by
                intro hm'
                simp only [F, if_neg htX, if_pos hm'] at h
                omega
              have hXl : X.length + 1 ≤ m.code.length + 1 := by have := uns_le out; omega
              have htle : t + 1 ≤ m.code.length := by omega
              have hol' := hol
              have hXi := ints_len X
              simp only [VC0, VC1, VC2, VC3, VC4, VC5, VC6, VC7, VC8, reduceIte, reduceCtorEq, Nat.reduceEqDiff, Nat.reduceAdd, Nat.reduceMul, Nat.reduceBEq, Nat.reduceLT, Nat.reduceLeDiff, Int.reduceEq, Int.reduceLT, Int.reduceLE, Int.reduceNeg, Int.reduceToNat, Int.reduceAdd, Nat.reduceDiv, Nat.reduceSub, Nat.reduceMod, encL, MC0, MC1, MC2, htin, hol', htle, li_set hto, hXi, ints_app]
              refine And.intro (And.intro (by omega) (by omega)) (And.intro (by unfold InI64; omega) (backTo_of (b + 1, X ++ [t], o.set t n, _) ⟨by omega, by simp [hol], ?_, fun t' ht' => ?_, fun t' => ?_⟩ (by simp only []; omega)
                (ent_of _ [] rfl rfl (by simp only [VC0, VC1, VC2, VC3, VC4, VC5, VC6, VC7, VC8, reduceIte, reduceCtorEq, Nat.reduceEqDiff, Nat.reduceAdd, Nat.reduceMul, Nat.reduceBEq, Nat.reduceLT, Nat.reduceLeDiff, Int.reduceEq, Int.reduceLT, Int.reduceLE, Int.reduceNeg, Int.reduceToNat, Int.reduceAdd, Nat.reduceDiv, Nat.reduceSub, Nat.reduceMod, encL, MC0, MC1, MC2, hWi]))))
              · have := uns_set hto (by rw [hot]; exact h) (show (0 : Int) ≤ n by omega)
                simp only [List.length_append, List.length_singleton]
                omega
              · rw [List.getElem?_set]
                split
                · rename_i e; subst e
                  simp [hto, F]
                · rename_i e
                  rw [hov t' ht']
                  have : t' ∈ X ++ [t] ↔ t' ∈ X := by simp [Ne.symm e]
                  simp only [F, this]
              · simp only [htk]
                rw [List.mem_append, List.mem_append, hX t', List.mem_singleton]
                constructor
                · rintro (⟨h1, h2, h3⟩ | rfl)
                  · exact ⟨h1, h2, h3.imp_right .inl⟩
                  · exact ⟨htN, htd, .inr (.inr rfl)⟩
                · rintro ⟨h1, h2, h3 | h3 | h3⟩
                  · exact .inl ⟨h1, h2, .inl h3⟩
                  · exact .inl ⟨h1, h2, .inr h3⟩
                  · exact .inr h3
            · simp only [VC0, VC1, VC2, VC3, VC4, VC5, VC6, VC7, VC8, reduceIte, reduceCtorEq, Nat.reduceEqDiff, Nat.reduceAdd, Nat.reduceMul, Nat.reduceBEq, Nat.reduceLT, Nat.reduceLeDiff, Int.reduceEq, Int.reduceLT, Int.reduceLE, Int.reduceNeg, Int.reduceToNat, Int.reduceAdd, Nat.reduceDiv, Nat.reduceSub, Nat.reduceMod, encL, MC0, MC1, MC2]
              refine And.intro (by unfold InI64; omega) (backTo_of (b + 1, X, o, _) ⟨by omega, hol, huns, hov, fun t' => ?_⟩ (by simp only []; omega) (ent_of _ [] rfl rfl (by simp only [VC0, VC1, VC2, VC3, VC4, VC5, VC6, VC7, VC8, reduceIte, reduceCtorEq, Nat.reduceEqDiff, Nat.reduceAdd, Nat.reduceMul, Nat.reduceBEq, Nat.reduceLT, Nat.reduceLeDiff, Int.reduceEq, Int.reduceLT, Int.reduceLE, Int.reduceNeg, Int.reduceToNat, Int.reduceAdd, Nat.reduceDiv, Nat.reduceSub, Nat.reduceMod, encL, MC0, MC1, MC2, hWi])))
              simp only [htk]
              rw [List.mem_append, hX t', List.mem_singleton]
              constructor
              · rintro ⟨h1, h2, h3⟩
                exact ⟨h1, h2, h3.imp_right .inl⟩
              · rintro ⟨h1, h2, h3 | h3 | h3⟩
                · exact ⟨h1, h2, .inl h3⟩
                · exact ⟨h1, h2, .inr h3⟩
                · subst h3
                  by_cases hm' : t' ∈ X
                  · exact (hX t').1 hm'
                  · simp only [F, if_neg hm', if_neg h2] at h
                    omega
          · have hb' : b = ys.length := by omega
            subst hb'
            simp only [VC0, VC1, VC2, VC3, VC4, VC5, VC6, VC7, VC8, reduceIte, reduceCtorEq, Nat.reduceEqDiff, Nat.reduceAdd, Nat.reduceMul, Nat.reduceBEq, Nat.reduceLT, Nat.reduceLeDiff, Int.reduceEq, Int.reduceLT, Int.reduceLE, Int.reduceNeg, Int.reduceToNat, Int.reduceAdd, Nat.reduceDiv, Nat.reduceSub, Nat.reduceMod, encL, MC0, MC1, MC2]
            refine And.intro (by unfold InI64; omega) (backTo_of (a + 1, X, o, _) ⟨by omega, hol, huns, hov, fun t' => ?_⟩ (by simp only []; omega) (ent_of _ [] rfl rfl (by simp only [VC0, VC1, VC2, VC3, VC4, VC5, VC6, VC7, VC8, reduceIte, reduceCtorEq, Nat.reduceEqDiff, Nat.reduceAdd, Nat.reduceMul, Nat.reduceBEq, Nat.reduceLT, Nat.reduceLeDiff, Int.reduceEq, Int.reduceLT, Int.reduceLE, Int.reduceNeg, Int.reduceToNat, Int.reduceAdd, Nat.reduceDiv, Nat.reduceSub, Nat.reduceMod, encL, MC0, MC1, MC2, hWi])))
            have hfull : (nx m W[a]).take ys.length = nx m W[a] := List.take_of_length_le (by rw [hnx]; simp)
            rw [hX t', hfull]
            simp only [List.take_succ_eq_append_getElem ha', List.mem_append, List.mem_singleton]
            constructor
            · rintro ⟨h1, h2, ⟨u, h3, h4⟩ | h3⟩
              · exact ⟨h1, h2, u, .inl h3, h4⟩
              · exact ⟨h1, h2, _, .inr rfl, h3⟩
            · rintro ⟨h1, h2, u, h3 | rfl, h4⟩
              · exact ⟨h1, h2, .inl ⟨u, h3, h4⟩⟩
              · exact ⟨h1, h2, .inr h4⟩
        · have ha' : a = W.length := by omega
          subst ha'
          have hXi := ints_len X
          simp only [VC0, VC1, VC2, VC3, VC4, VC5, VC6, VC7, VC8, reduceIte, reduceCtorEq, Nat.reduceEqDiff, Nat.reduceAdd, Nat.reduceMul, Nat.reduceBEq, Nat.reduceLT, Nat.reduceLeDiff, Int.reduceEq, Int.reduceLT, Int.reduceLE, Int.reduceNeg, Int.reduceToNat, Int.reduceAdd, Nat.reduceDiv, Nat.reduceSub, Nat.reduceMod, encL, MC0, MC1, MC2, hXi]
          have htk : W.take W.length = W := List.take_length
          rw [htk] at hX
          have hXd : ∀ t, t ∈ X ↔ t < m.code.length ∧ dist1 (nx m) s t = n := by
            intro t
            rw [hX t, dist1_step hn]
            constructor
            · rintro ⟨h1, h2, u, h3, h4⟩
              exact ⟨h1, ⟨u, ((hW u).1 h3).2, h4⟩, h2⟩
            · rintro ⟨h1, ⟨u, h3, h4⟩, h2⟩
              refine ⟨h1, h2, u, (hW u).2 ⟨?_, h3⟩, h4⟩
              rcases Nat.lt_or_ge u m.code.length with h | h
              · exact h
              · simp [nx, List.getElem?_eq_none h] at h4
          have hXl : X.length ≤ m.code.length := by have := uns_le out; omega
          refine And.intro (by unfold InI64; omega) (backTo_of (n + 1, X, o, _) ⟨by omega, hol, fun u => ?_, fun t ht => ?_, hXl, ?_⟩ ?_
            (ent_of _ [(2199023255560, 0)] rfl rfl (by simp only [VC0, VC1, VC2, VC3, VC4, VC5, VC6, VC7, VC8, reduceIte, reduceCtorEq, Nat.reduceEqDiff, Nat.reduceAdd, Nat.reduceMul, Nat.reduceBEq, Nat.reduceLT, Nat.reduceLeDiff, Int.reduceEq, Int.reduceLT, Int.reduceLE, Int.reduceNeg, Int.reduceToNat, Int.reduceAdd, Nat.reduceDiv, Nat.reduceSub, Nat.reduceMod, encL, MC0, MC1, MC2, hXi, List.drop_zero, li_take (Nat.le_of_eq hXi)])))
          · rw [hXd u, if_neg (by omega), Nat.add_sub_cancel]
          · rw [hov t ht]
            have := dist1_pos (g := nx m) (s := s) (t := t)
            by_cases h1 : t ∈ X
            · have h2 := ((hXd t).1 h1).2
              simp only [F, if_pos h1]
              rw [if_pos (by omega), h2]
            · have h2 : ¬ dist1 (nx m) s t = n := fun e => h1 ((hXd t).2 ⟨ht, e⟩)
              simp only [F, if_neg h1]
              by_cases h3 : 1 ≤ dist1 (nx m) s t ∧ dist1 (nx m) s t < n
              · rw [if_pos h3, if_pos (by omega)]
              · rw [if_neg h3, if_neg (by omega)]
          · dsimp only
            by_cases h1 : X = []
            · subst h1
              simp only [if_true, List.length_nil] at huns ⊢
              omega
            · rw [if_neg h1]
              have : 0 < X.length := List.length_pos_iff.2 h1
              omega
          · dsimp only
            simp only [if_neg hWne]
            by_cases h1 : X = []
            · subst h1
              simp only [if_true, List.length_nil] at huns ⊢
              omega
            · rw [if_neg h1]
              have : 0 < X.length := List.length_pos_iff.2 h1
              omega
      · have hWe : W = [] := List.eq_nil_of_length_eq_zero (by omega)
        subst hWe
        simp only [VC0, VC1, VC2, VC3, VC4, VC5, VC6, VC7, VC8, reduceIte, reduceCtorEq, Nat.reduceEqDiff, Nat.reduceAdd, Nat.reduceMul, Nat.reduceBEq, Nat.reduceLT, Nat.reduceLeDiff, Int.reduceEq, Int.reduceLT, Int.reduceLE, Int.reduceNeg, Int.reduceToNat, Int.reduceAdd, Nat.reduceDiv, Nat.reduceSub, Nat.reduceMod, encL, MC0, MC1, MC2]
        have hn1 : ¬ n = 1 := by
          rintro rfl
          have := (hW s).2 ⟨hs, by rw [if_pos rfl]⟩
          cases this
        have hno : ∀ t, dist1 (nx m) s t ≠ ((n - 1 : Nat) : Int) := by
          intro t e
          rcases Nat.lt_or_ge t m.code.length with h | h
          · have := (hW t).2 ⟨h, by rw [if_neg hn1]; exact e⟩
            cases this
          · have h2 := (dist1_step (g := nx m) (s := s) (t := t) (n := n - 1) (by omega)).1 e
            obtain ⟨⟨u, _, h4⟩, _⟩ := h2
            have hy : ∀ y ∈ nx m u, y < m.code.length := by
              intro y hy
              simp only [nx] at hy
              split at hy
              · rename_i x hx
                obtain ⟨z, hz, rfl⟩ := List.mem_map.1 hy
                have := (hg.nx x (List.mem_of_getElem? hx)).2 z hz
                omega
              · cases hy
            have := hy t h4
            omega
        have hgap := dist1_gap (g := nx m) (s := s) (n := n - 1) (by omega) hno
        have : out = (List.range m.code.length).map (dist1 (nx m) s) := by
          apply List.ext_getElem?
          intro t
          rcases Nat.lt_or_ge t m.code.length with h | h
          · rw [hout t h, List.getElem?_map, List.getElem?_range h, Option.map_some]
            have h1 := dist1_pos (g := nx m) (s := s) (t := t)
            by_cases h3 : 1 ≤ dist1 (nx m) s t ∧ dist1 (nx m) s t < n
            · rw [if_pos h3]
            · rw [if_neg h3]
              rcases h1 with h1 | h1
              · exfalso
                have := hgap ((dist1 (nx m) s t).toNat - (n - 1)) t
                omega
              · rw [h1]
          · rw [List.getElem?_eq_none (by omega), List.getElem?_eq_none (by simpa using h)]
        rw [this]
        simp only [VC0, VC1, VC2, VC3, VC4, VC5, VC6, VC7, VC8, reduceIte, reduceCtorEq, Nat.reduceEqDiff, Nat.reduceAdd, Nat.reduceMul, Nat.reduceBEq, Nat.reduceLT, Nat.reduceLeDiff, Int.reduceEq, Int.reduceLT, Int.reduceLE, Int.reduceNeg, Int.reduceToNat, Int.reduceAdd, Nat.reduceDiv, Nat.reduceSub, Nat.reduceMod, encL, MC0, MC1, MC2, ownR]

theorem steps_ret (m : Mir) (hm : m.ok) : PRet Try.prog 17 [.agg m.cells] (encL cI (if mayB m = true then (List.range m.code.length).map (dist0 (nx m) 0) else [])) := by
  refine pret_intro_l fd17 (by simp) ?_
  simp only [lc17, VC0, VC1, VC2, VC3, VC4, VC5, VC6, VC7, VC8, reduceIte, reduceCtorEq, Nat.reduceEqDiff, Nat.reduceAdd, Nat.reduceMul, Nat.reduceBEq, Nat.reduceLT, Nat.reduceLeDiff, Int.reduceEq, Int.reduceLT, Int.reduceLE, Int.reduceNeg, Int.reduceToNat, Int.reduceAdd, Nat.reduceDiv, Nat.reduceSub, Nat.reduceMod, encL, MC0, MC1, MC2]
  refine callX_of (may_ret m hm) (.inr rfl) ?_
  simp only [VC0, VC1, VC2, VC3, VC4, VC5, VC6, VC7, VC8, reduceIte, reduceCtorEq, Nat.reduceEqDiff, Nat.reduceAdd, Nat.reduceMul, Nat.reduceBEq, Nat.reduceLT, Nat.reduceLeDiff, Int.reduceEq, Int.reduceLT, Int.reduceLE, Int.reduceNeg, Int.reduceToNat, Int.reduceAdd, Nat.reduceDiv, Nat.reduceSub, Nat.reduceMod, encL, MC0, MC1, MC2]
  refine condVn_of (fun h => ?_) (fun h => ?_)
  · simp only [VC0, VC1, VC2, VC3, VC4, VC5, VC6, VC7, VC8, reduceIte, reduceCtorEq, Nat.reduceEqDiff, Nat.reduceAdd, Nat.reduceMul, Nat.reduceBEq, Nat.reduceLT, Nat.reduceLeDiff, Int.reduceEq, Int.reduceLT, Int.reduceLE, Int.reduceNeg, Int.reduceToNat, Int.reduceAdd, Nat.reduceDiv, Nat.reduceSub, Nat.reduceMod, encL, MC0, MC1, MC2, h]; simp
  · have hg := okG_of h
    have hp := hg.pos
    have hp' : (0 : Int) < m.code.length := by omega
    simp only [VC0, VC1, VC2, VC3, VC4, VC5, VC6, VC7, VC8, reduceIte, reduceCtorEq, Nat.reduceEqDiff, Nat.reduceAdd, Nat.reduceMul, Nat.reduceBEq, Nat.reduceLT, Nat.reduceLeDiff, Int.reduceEq, Int.reduceLT, Int.reduceLE, Int.reduceNeg, Int.reduceToNat, Int.reduceAdd, Nat.reduceDiv, Nat.reduceSub, Nat.reduceMod, encL, MC0, MC1, MC2, h]
    refine callX_own (from_own m hg 0 hp) (.inl rfl) ?_
    have h1 : 0 < ((List.range m.code.length).map (dist1 (nx m) 0)).length := by simp; omega
    have hp0 : 0 < m.code.length := hp
    have hle : 0 + 1 ≤ m.code.length := hp
    simp only [VC0, VC1, VC2, VC3, VC4, VC5, VC6, VC7, VC8, reduceIte, reduceCtorEq, Nat.reduceEqDiff, Nat.reduceAdd, Nat.reduceMul, Nat.reduceBEq, Nat.reduceLT, Nat.reduceLeDiff, Int.reduceEq, Int.reduceLT, Int.reduceLE, Int.reduceNeg, Int.reduceToNat, Int.reduceAdd, Nat.reduceDiv, Nat.reduceSub, Nat.reduceMod, encL, MC0, MC1, MC2, hp', hle, li_set h1]
    have : ((List.range m.code.length).map (dist1 (nx m) 0)).set 0 0 = (List.range m.code.length).map (dist0 (nx m) 0) := by
      apply List.ext_getElem?
      intro t
      rw [List.getElem?_set]
      split
      · rename_i e; subst e
        rw [List.getElem?_map, List.getElem?_range hp0]
        simp [hp0, dist0_self]
      · rename_i e
        rcases Nat.lt_or_ge t m.code.length with h | h
        · simp [h, dist0_of_dist1 (g := nx m) (s := 0) (t := t) (by omega)]
        · simp [h]
    rw [this]

theorem map_take_succ {α β : Type} (f : α → β) (l : List α) (k : Nat) (h : k < l.length) : (l.take k).map f ++ [f l[k]] = (l.take (k + 1)).map f := by
  rw [List.take_succ_eq_append_getElem h, List.map_append]; rfl

theorem reach_ret (m : Mir) (hm : m.ok) : PRet Try.prog 16 [.agg m.cells] (encL cB (if mayB m = true then (List.range m.code.length).map (fun t => decide (0 ≤ dist0 (nx m) 0 t)) else [])) := by
  have hst := steps_ret m hm
  have hl : ∀ l : List Int, l = (if mayB m = true then (List.range m.code.length).map (dist0 (nx m) 0) else []) → l.length ≤ 6000 ∧ l.map (fun v => decide (0 ≤ v)) = (if mayB m = true then (List.range m.code.length).map (fun t => decide (0 ≤ dist0 (nx m) 0 t)) else []) := by
    rintro l rfl
    split
    · rename_i h
      have := (okG_of h).le
      simp; omega
    · simp
  generalize hS : (if mayB m = true then (List.range m.code.length).map (dist0 (nx m) 0) else []) = S at hst hl
  obtain ⟨hSl, hSm⟩ := hl S rfl
  rw [← hSm]
  refine pret_intro_l fd16 (by simp) ?_
  simp only [lc16, VC0, VC1, VC2, VC3, VC4, VC5, VC6, VC7, VC8, reduceIte, reduceCtorEq, Nat.reduceEqDiff, Nat.reduceAdd, Nat.reduceMul, Nat.reduceBEq, Nat.reduceLT, Nat.reduceLeDiff, Int.reduceEq, Int.reduceLT, Int.reduceLE, Int.reduceNeg, Int.reduceToNat, Int.reduceAdd, Nat.reduceDiv, Nat.reduceSub, Nat.reduceMod, encL, MC0, MC1, MC2]
  refine callX_of hst (.inl rfl) ?_
  simp only [VC0, VC1, VC2, VC3, VC4, VC5, VC6, VC7, VC8, reduceIte, reduceCtorEq, Nat.reduceEqDiff, Nat.reduceAdd, Nat.reduceMul, Nat.reduceBEq, Nat.reduceLT, Nat.reduceLeDiff, Int.reduceEq, Int.reduceLT, Int.reduceLE, Int.reduceNeg, Int.reduceToNat, Int.reduceAdd, Nat.reduceDiv, Nat.reduceSub, Nat.reduceMod, encL, MC0, MC1, MC2]
  refine loop_vcg (ι := Nat × (Nat → Nat)) (fun (k, c) => stO [(3, .own 1 k (((S.take k).map fun v => decide (0 ≤ v)).flatMap cB)), (7, .val (encL cI S)), (8, .val (.int .i64 S.length)), (9, .val (.int .i64 k))] c)
    (fun (k, _) => k ≤ S.length) (fun (k, _) => S.length - k) (0, _) (Nat.zero_le _) (ent_of _ [] rfl rfl (by simp only [VC0, VC1, VC2, VC3, VC4, VC5, VC6, VC7, VC8, reduceIte, reduceCtorEq, Nat.reduceEqDiff, Nat.reduceAdd, Nat.reduceMul, Nat.reduceBEq, Nat.reduceLT, Nat.reduceLeDiff, Int.reduceEq, Int.reduceLT, Int.reduceLE, Int.reduceNeg, Int.reduceToNat, Int.reduceAdd, Nat.reduceDiv, Nat.reduceSub, Nat.reduceMod, encL, MC0, MC1, MC2]; simp)) ?_
  rintro ⟨k, c⟩ hk
  simp only [VC0, VC1, VC2, VC3, VC4, VC5, VC6, VC7, VC8, reduceIte, reduceCtorEq, Nat.reduceEqDiff, Nat.reduceAdd, Nat.reduceMul, Nat.reduceBEq, Nat.reduceLT, Nat.reduceLeDiff, Int.reduceEq, Int.reduceLT, Int.reduceLE, Int.reduceNeg, Int.reduceToNat, Int.reduceAdd, Nat.reduceDiv, Nat.reduceSub, Nat.reduceMod, encL, MC0, MC1, MC2]
  refine condD_of (fun h => ?_) (fun h => ?_)
  · have hk' : k < S.length := by omega
    have hin : 0 ≤ (k : Int) ∧ (k : Int) < S.length := by omega
    have hmin : min k S.length = k := by omega
    have hb1 : (k + 1) * 1 ≤ 140737488355328 := by omega
    have hb2 : k + 1 ≤ 4611686018427387904 := by omega
    have htk := map_take_succ (fun v : Int => decide (0 ≤ v)) S k hk'
    simp only [VC0, VC1, VC2, VC3, VC4, VC5, VC6, VC7, VC8, reduceIte, reduceCtorEq, Nat.reduceEqDiff, Nat.reduceAdd, Nat.reduceMul, Nat.reduceBEq, Nat.reduceLT, Nat.reduceLeDiff, Int.reduceEq, Int.reduceLT, Int.reduceLE, Int.reduceNeg, Int.reduceToNat, Int.reduceAdd, Nat.reduceDiv, Nat.reduceSub, Nat.reduceMod, encL, MC0, MC1, MC2, hk', hin, hmin, List.length_take, hb1, hb2, htk]
    exact And.intro (by omega) (And.intro (by unfold InI64; omega) (backTo_of (k + 1, _) hk' (by simp only []; omega) (ent_of _ [] rfl rfl (by simp only [VC0, VC1, VC2, VC3, VC4, VC5, VC6, VC7, VC8, reduceIte, reduceCtorEq, Nat.reduceEqDiff, Nat.reduceAdd, Nat.reduceMul, Nat.reduceBEq, Nat.reduceLT, Nat.reduceLeDiff, Int.reduceEq, Int.reduceLT, Int.reduceLE, Int.reduceNeg, Int.reduceToNat, Int.reduceAdd, Nat.reduceDiv, Nat.reduceSub, Nat.reduceMod, encL, MC0, MC1, MC2]))))
  · have hk' : k = S.length := by omega
    subst hk'
    simp only [VC0, VC1, VC2, VC3, VC4, VC5, VC6, VC7, VC8, reduceIte, reduceCtorEq, Nat.reduceEqDiff, Nat.reduceAdd, Nat.reduceMul, Nat.reduceBEq, Nat.reduceLT, Nat.reduceLeDiff, Int.reduceEq, Int.reduceLT, Int.reduceLE, Int.reduceNeg, Int.reduceToNat, Int.reduceAdd, Nat.reduceDiv, Nat.reduceSub, Nat.reduceMod, encL, MC0, MC1, MC2, List.take_length]


end Go.Proofs.Ytobhpkagbmadlaa

set_option linter.unusedSimpArgs false
set_option linter.unusedVariables false
namespace Go.Proofs.Ytobhpkagbmadlaa
open Go Go.Lg Go.RowKit
set_option maxRecDepth 20000

def encLL (R : List (List Int)) : V := encL (cL cI) R

end Go.Proofs.Ytobhpkagbmadlaa

set_option linter.unusedSimpArgs false
set_option linter.unusedVariables false
namespace Go.Proofs.Ytobhpkagbmadlaa
open Go Go.Lg Go.RowKit
set_option maxRecDepth 20000

theorem drop_beq {α : Type} [DecidableEq α] {a b : List α} {k : Nat} (ha : k < a.length) (hb : k < b.length) : decide (a.drop k = b.drop k) = (decide (a[k] = b[k]) && decide (a.drop (k + 1) = b.drop (k + 1))) := by
  rw [← Bool.decide_and]
  refine decide_eq_decide.2 ?_
  rw [List.drop_eq_getElem_cons ha, List.drop_eq_getElem_cons hb, List.cons.injEq]

theorem ints_ret (a b : List Int) (ha : a.length ≤ 1000000) : PRet Try.prog 20 [encL cI a, encL cI b] (.bool (decide (a = b))) := by
  refine pret_intro fd20 (by simp) ?_
  simp only [lc20, VC0, VC1, VC2, VC3, VC4, VC5, VC6, VC7, VC8, reduceIte, reduceCtorEq, Nat.reduceEqDiff, Nat.reduceAdd, Nat.reduceMul, Nat.reduceBEq, Nat.reduceLT, Nat.reduceLeDiff, Int.reduceEq, Int.reduceLT, Int.reduceLE, Int.reduceNeg, Int.reduceToNat, Int.reduceAdd, Nat.reduceDiv, Nat.reduceSub, Nat.reduceMod, encL, MC0, MC1, MC2]
  refine condDn_of (fun h => ?_) (fun h => ?_)
  · simp only [VC0, VC1, VC2, VC3, VC4, VC5, VC6, VC7, VC8, reduceIte, reduceCtorEq, Nat.reduceEqDiff, Nat.reduceAdd, Nat.reduceMul, Nat.reduceBEq, Nat.reduceLT, Nat.reduceLeDiff, Int.reduceEq, Int.reduceLT, Int.reduceLE, Int.reduceNeg, Int.reduceToNat, Int.reduceAdd, Nat.reduceDiv, Nat.reduceSub, Nat.reduceMod, encL, MC0, MC1, MC2]
    have : ¬ a = b := by rintro rfl; exact h rfl
    simp [this]
  · have hl : a.length = b.length := by omega
    simp only [VC0, VC1, VC2, VC3, VC4, VC5, VC6, VC7, VC8, reduceIte, reduceCtorEq, Nat.reduceEqDiff, Nat.reduceAdd, Nat.reduceMul, Nat.reduceBEq, Nat.reduceLT, Nat.reduceLeDiff, Int.reduceEq, Int.reduceLT, Int.reduceLE, Int.reduceNeg, Int.reduceToNat, Int.reduceAdd, Nat.reduceDiv, Nat.reduceSub, Nat.reduceMod, encL, MC0, MC1, MC2]
    refine loop_vcg (ι := Nat × (Nat → Nat)) (fun (k, c) => stO [(0, .val (encL cI a)), (1, .val (encL cI b)), (5, .val (.int .i64 k))] c)
      (fun (k, _) => k ≤ a.length ∧ decide (a.drop k = b.drop k) = decide (a = b)) (fun (k, _) => a.length - k) (0, _) ⟨by omega, rfl⟩ (ent_of _ [] rfl rfl (by simp only [VC0, VC1, VC2, VC3, VC4, VC5, VC6, VC7, VC8, reduceIte, reduceCtorEq, Nat.reduceEqDiff, Nat.reduceAdd, Nat.reduceMul, Nat.reduceBEq, Nat.reduceLT, Nat.reduceLeDiff, Int.reduceEq, Int.reduceLT, Int.reduceLE, Int.reduceNeg, Int.reduceToNat, Int.reduceAdd, Nat.reduceDiv, Nat.reduceSub, Nat.reduceMod, encL, MC0, MC1, MC2])) ?_
    rintro ⟨k, c⟩ ⟨hk, hb⟩
    simp only [VC0, VC1, VC2, VC3, VC4, VC5, VC6, VC7, VC8, reduceIte, reduceCtorEq, Nat.reduceEqDiff, Nat.reduceAdd, Nat.reduceMul, Nat.reduceBEq, Nat.reduceLT, Nat.reduceLeDiff, Int.reduceEq, Int.reduceLT, Int.reduceLE, Int.reduceNeg, Int.reduceToNat, Int.reduceAdd, Nat.reduceDiv, Nat.reduceSub, Nat.reduceMod, encL, MC0, MC1, MC2]
    refine condD_of (fun h => ?_) (fun h => ?_)
    · have ha' : k < a.length := by omega
      have hb' : k < b.length := by omega
      have hin : 0 ≤ (k : Int) ∧ (k : Int) < b.length := by omega
      rw [drop_beq ha' hb'] at hb
      simp only [VC0, VC1, VC2, VC3, VC4, VC5, VC6, VC7, VC8, reduceIte, reduceCtorEq, Nat.reduceEqDiff, Nat.reduceAdd, Nat.reduceMul, Nat.reduceBEq, Nat.reduceLT, Nat.reduceLeDiff, Int.reduceEq, Int.reduceLT, Int.reduceLE, Int.reduceNeg, Int.reduceToNat, Int.reduceAdd, Nat.reduceDiv, Nat.reduceSub, Nat.reduceMod, encL, MC0, MC1, MC2, ha', hb', hin]
      repeat' (first | refine condDn_of (fun h => ?_) (fun h => ?_) <;> simp only [VC0, VC1, VC2, VC3, VC4, VC5, VC6, VC7, VC8, reduceIte, reduceCtorEq, Nat.reduceEqDiff, Nat.reduceAdd, Nat.reduceMul, Nat.reduceBEq, Nat.reduceLT, Nat.reduceLeDiff, Int.reduceEq, Int.reduceLT, Int.reduceLE, Int.reduceNeg, Int.reduceToNat, Int.reduceAdd, Nat.reduceDiv, Nat.reduceSub, Nat.reduceMod, encL, MC0, MC1, MC2, h, ha', hb', hin] | refine condD_of (fun h => ?_) (fun h => ?_) <;> simp only [VC0, VC1, VC2, VC3, VC4, VC5, VC6, VC7, VC8, reduceIte, reduceCtorEq, Nat.reduceEqDiff, Nat.reduceAdd, Nat.reduceMul, Nat.reduceBEq, Nat.reduceLT, Nat.reduceLeDiff, Int.reduceEq, Int.reduceLT, Int.reduceLE, Int.reduceNeg, Int.reduceToNat, Int.reduceAdd, Nat.reduceDiv, Nat.reduceSub, Nat.reduceMod, encL, MC0, MC1, MC2, h, ha', hb', hin] | refine condVn_of (fun h => ?_) (fun h => ?_) <;> simp only [VC0, VC1, VC2, VC3, VC4, VC5, VC6, VC7, VC8, reduceIte, reduceCtorEq, Nat.reduceEqDiff, Nat.reduceAdd, Nat.reduceMul, Nat.reduceBEq, Nat.reduceLT, Nat.reduceLeDiff, Int.reduceEq, Int.reduceLT, Int.reduceLE, Int.reduceNeg, Int.reduceToNat, Int.reduceAdd, Nat.reduceDiv, Nat.reduceSub, Nat.reduceMod, encL, MC0, MC1, MC2, h, ha', hb', hin] | refine condV_of (fun h => ?_) (fun h => ?_) <;> simp only [VC0, VC1, VC2, VC3, VC4, VC5, VC6, VC7, VC8, reduceIte, reduceCtorEq, Nat.reduceEqDiff, Nat.reduceAdd, Nat.reduceMul, Nat.reduceBEq, Nat.reduceLT, Nat.reduceLeDiff, Int.reduceEq, Int.reduceLT, Int.reduceLE, Int.reduceNeg, Int.reduceToNat, Int.reduceAdd, Nat.reduceDiv, Nat.reduceSub, Nat.reduceMod, encL, MC0, MC1, MC2, h, ha', hb', hin] | refine gdDn_of (fun h => ?_) (fun h => ?_) <;> simp only [VC0, VC1, VC2, VC3, VC4, VC5, VC6, VC7, VC8, reduceIte, reduceCtorEq, Nat.reduceEqDiff, Nat.reduceAdd, Nat.reduceMul, Nat.reduceBEq, Nat.reduceLT, Nat.reduceLeDiff, Int.reduceEq, Int.reduceLT, Int.reduceLE, Int.reduceNeg, Int.reduceToNat, Int.reduceAdd, Nat.reduceDiv, Nat.reduceSub, Nat.reduceMod, encL, MC0, MC1, MC2, h, ha', hb', hin] | refine gdD_of (fun h => ?_) (fun h => ?_) <;> simp only [VC0, VC1, VC2, VC3, VC4, VC5, VC6, VC7, VC8, reduceIte, reduceCtorEq, Nat.reduceEqDiff, Nat.reduceAdd, Nat.reduceMul, Nat.reduceBEq, Nat.reduceLT, Nat.reduceLeDiff, Int.reduceEq, Int.reduceLT, Int.reduceLE, Int.reduceNeg, Int.reduceToNat, Int.reduceAdd, Nat.reduceDiv, Nat.reduceSub, Nat.reduceMod, encL, MC0, MC1, MC2, h, ha', hb', hin] | refine gdVMn_of (fun h => ?_) (fun h => ?_) <;> simp only [VC0, VC1, VC2, VC3, VC4, VC5, VC6, VC7, VC8, reduceIte, reduceCtorEq, Nat.reduceEqDiff, Nat.reduceAdd, Nat.reduceMul, Nat.reduceBEq, Nat.reduceLT, Nat.reduceLeDiff, Int.reduceEq, Int.reduceLT, Int.reduceLE, Int.reduceNeg, Int.reduceToNat, Int.reduceAdd, Nat.reduceDiv, Nat.reduceSub, Nat.reduceMod, encL, MC0, MC1, MC2, h, ha', hb', hin] | refine gdVM_of (fun h => ?_) (fun h => ?_) <;> simp only [VC0, VC1, VC2, VC3, VC4, VC5, VC6, VC7, VC8, reduceIte, reduceCtorEq, Nat.reduceEqDiff, Nat.reduceAdd, Nat.reduceMul, Nat.reduceBEq, Nat.reduceLT, Nat.reduceLeDiff, Int.reduceEq, Int.reduceLT, Int.reduceLE, Int.reduceNeg, Int.reduceToNat, Int.reduceAdd, Nat.reduceDiv, Nat.reduceSub, Nat.reduceMod, encL, MC0, MC1, MC2, h, ha', hb', hin] | refine gpDn_of (fun h => ?_) (fun h => ?_) <;> simp only [VC0, VC1, VC2, VC3, VC4, VC5, VC6, VC7, VC8, reduceIte, reduceCtorEq, Nat.reduceEqDiff, Nat.reduceAdd, Nat.reduceMul, Nat.reduceBEq, Nat.reduceLT, Nat.reduceLeDiff, Int.reduceEq, Int.reduceLT, Int.reduceLE, Int.reduceNeg, Int.reduceToNat, Int.reduceAdd, Nat.reduceDiv, Nat.reduceSub, Nat.reduceMod, encL, MC0, MC1, MC2, h, ha', hb', hin] | refine gpD_of (fun h => ?_) (fun h => ?_) <;> simp only [VC0, VC1, VC2, VC3, VC4, VC5, VC6, VC7, VC8, reduceIte, reduceCtorEq, Nat.reduceEqDiff, Nat.reduceAdd, Nat.reduceMul, Nat.reduceBEq, Nat.reduceLT, Nat.reduceLeDiff, Int.reduceEq, Int.reduceLT, Int.reduceLE, Int.reduceNeg, Int.reduceToNat, Int.reduceAdd, Nat.reduceDiv, Nat.reduceSub, Nat.reduceMod, encL, MC0, MC1, MC2, h, ha', hb', hin] | refine gdVn_of (fun h => ?_) (fun h => ?_) <;> simp only [VC0, VC1, VC2, VC3, VC4, VC5, VC6, VC7, VC8, reduceIte, reduceCtorEq, Nat.reduceEqDiff, Nat.reduceAdd, Nat.reduceMul, Nat.reduceBEq, Nat.reduceLT, Nat.reduceLeDiff, Int.reduceEq, Int.reduceLT, Int.reduceLE, Int.reduceNeg, Int.reduceToNat, Int.reduceAdd, Nat.reduceDiv, Nat.reduceSub, Nat.reduceMod, encL, MC0, MC1, MC2, h, ha', hb', hin] | refine gdV_of (fun h => ?_) (fun h => ?_) <;> simp only [VC0, VC1, VC2, VC3, VC4, VC5, VC6, VC7, VC8, reduceIte, reduceCtorEq, Nat.reduceEqDiff, Nat.reduceAdd, Nat.reduceMul, Nat.reduceBEq, Nat.reduceLT, Nat.reduceLeDiff, Int.reduceEq, Int.reduceLT, Int.reduceLE, Int.reduceNeg, Int.reduceToNat, Int.reduceAdd, Nat.reduceDiv, Nat.reduceSub, Nat.reduceMod, encL, MC0, MC1, MC2, h, ha', hb', hin] | (unfold InI64; omega) | refine And.intro ?_ ?_)
      all_goals first
        | omega
        | (rename_i h5; rw [decide_eq_false h5, Bool.false_and] at hb; simp [← hb]; done)
        | (rw [decide_eq_false h, Bool.false_and] at hb; simp [← hb]; done)
        | (rw [decide_eq_true h, Bool.true_and] at hb; exact backTo_of (k + 1, _) ⟨by omega, hb⟩ (by simp only []; omega) (ent_of _ [] rfl rfl (by simp only [VC0, VC1, VC2, VC3, VC4, VC5, VC6, VC7, VC8, reduceIte, reduceCtorEq, Nat.reduceEqDiff, Nat.reduceAdd, Nat.reduceMul, Nat.reduceBEq, Nat.reduceLT, Nat.reduceLeDiff, Int.reduceEq, Int.reduceLT, Int.reduceLE, Int.reduceNeg, Int.reduceToNat, Int.reduceAdd, Nat.reduceDiv, Nat.reduceSub, Nat.reduceMod, encL, MC0, MC1, MC2])))
    · have hk' : k = a.length := by omega
      subst hk'
      simp only [VC0, VC1, VC2, VC3, VC4, VC5, VC6, VC7, VC8, reduceIte, reduceCtorEq, Nat.reduceEqDiff, Nat.reduceAdd, Nat.reduceMul, Nat.reduceBEq, Nat.reduceLT, Nat.reduceLeDiff, Int.reduceEq, Int.reduceLT, Int.reduceLE, Int.reduceNeg, Int.reduceToNat, Int.reduceAdd, Nat.reduceDiv, Nat.reduceSub, Nat.reduceMod, encL, MC0, MC1, MC2]
      rw [← hb]; simp; omega

/-! What the program tells of a few. -/
def noS : ByteArray := ByteArray.mk #[]
def p0 : MPath := ⟨0, []⟩
def o0 : MOper := ⟨0, 0, p0⟩
def v0 : MVal := ⟨0, o0, o0, 0, p0, 0, noS, [], []⟩
theorem noS_size : noS.size = 0 := rfl
end Go.Proofs.Ytobhpkagbmadlaa

set_option linter.unusedSimpArgs false
set_option linter.unusedVariables false
namespace Go.Proofs.Ytobhpkagbmadlaa
open Go Go.Lg Go.RowKit
set_option maxRecDepth 20000

theorem ld_cL {R : List (List Int)} {i : Nat} (h : i < R.length) : ldV false 1 (R.flatMap (cL cI)) i = some (encL cI R[i]) := by
  have := ld_flat0 (agg := false) (n := 1) (cL_len cI) h (by decide) (by decide)
  rw [Nat.mul_one] at this; rw [this]; rfl

end Go.Proofs.Ytobhpkagbmadlaa
