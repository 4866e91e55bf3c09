/-
  FrL5 Tyq Tyr Tys Tyv: put together.
-/
import Derived.Test.YtgpeaibhhonikaaGreatDoorShr
import Derived.Test.YtgpeaibhhonikaaGreatDoorProg
import Derived.Test.YtgpeaibhhonikaaGreatDoorLgP
import Derived.Test.YtgpeaibhhonikaaGreatDoorTQd
namespace Go.Proofs.YtgpeaibhhonikaaGreatDoor
open Go Go.Lg Go.Lg.Sh
set_option maxRecDepth 100000

def lc5 : LC := .seq (.rego 0 [o 3 0, b0 6]) (.keep [1, 2, 3] (.seq (.rego 1 [⟨some 14, .call 20 [], none⟩, m 13 14, X 15 13 0, X 16 13 1, m 7 15, m 8 16]) (.keep [1, 2, 3, 7, 8] (.seq (.seq (.rego 2 [m 17 7, ⟨some 18, .eqp false (.tmp 17) (.con .nilp), none⟩, m 19 18, g 19 (m 20 8), ⟨some 21, .eqp false (.tmp 20) (.con .nilp), some ⟨19, false⟩⟩, q 22 19 21, m 23 22, g 23 (L 24 4 3), ⟨some 25, .call 21 [.tmp 24, .con (.int .i64 60)], some ⟨23, false⟩⟩, q 26 23 25, m 27 26, g 27 (m 28 1), g 27 (n 29 28), ⟨some 30, .bin .gtr (.tmp 29) (.con (.int .i64 70)), some ⟨27, false⟩⟩, q 31 27 30, m 32 31, g 32 (m 33 2), ⟨some 34, .bin .gtr (.tmp 33) (.con (.int .i64 1099511627776)), some ⟨32, false⟩⟩, q 35 32 34]) (.keep [1, 2, 3, 7, 8, 35] (.cond (.tmp 35) (.keep [] (.seq (.rego 3 [⟨some 36, .call 17 [], none⟩, m 6 36]) .ret)) .skip))) (.keep [1, 2, 3, 7, 8] (.seq (.rego 4 [m 38 7, L 39 4 3, m 40 1, m 41 2, ⟨some 42, .call 22 [.tmp 38, .tmp 39, .tmp 40, .tmp 41], none⟩, m 37 42, X 43 37 0, X 44 37 1, ⟨some 9, .new [.int .i64 0, .str { data := #[] }, .e0, .e0], none⟩, W 4 9 43, m 10 44]) (.keep [1, 2, 3, 8, 9, 10] (.seq (.rego 5 [m 46 8, L 47 4 3, m 48 1, m 49 2, ⟨some 50, .call 23 [.tmp 46, .tmp 47, .tmp 48, .tmp 49], none⟩, m 45 50, X 51 45 0, X 52 45 1, ⟨some 11, .new [.int .i64 0, .str { data := #[] }, .e0, .e0], none⟩, W 4 11 51, m 12 52]) (.keep [9, 10, 11, 12] (.seq (.rego 6 [⟨some 53, .call 17 [], none⟩, m 54 53, h 54 (L 55 4 9), h 54 (L 56 4 11), h 54 (C 57 24 55 56), p 58 54 57, m 59 58, h 59 (m 60 10), h 59 (m 61 12), h 59 (E 62 60 61), p 63 59 62, m 6 63]) .ret))))))))))
theorem fd5 : fnData Tryz.prog 5 = some (64, lc5.erase, [LRV.tmp 6]) := by kernel_rfl

end Go.Proofs.YtgpeaibhhonikaaGreatDoor

set_option linter.unusedSimpArgs false
set_option linter.unusedVariables false
namespace Go.Proofs.YtgpeaibhhonikaaGreatDoor
open Go Go.Lg Go.RowKit
set_option linter.unusedVariables false
set_option linter.unusedSimpArgs false
set_option maxRecDepth 20000

theorem regsS_len (lives : List ByteArray) (k : Int) (n : ByteArray) (l : List ByteArray) (next : Int) (h : l.length ≤ 70) : (regsS scN lives k n l next).length ≤ 70 := by
  have := scN_le n
  unfold regsS
  split
  · split <;> simp
  · split
    · split
      · rw [up_len]; omega
      · rw [List.length_map]; exact h
    · simp
theorem deep_lift (lives : List ByteArray) : ∀ (d : Nat) (t : TT) (next : Int), tdeepB d t = false → deepB d (liftS scN lives t next).1 = false
  | 0, _, _, h => (tdeep_zero h).elim
  | d + 1, t, next, h => by
    obtain ⟨he, hr, hc⟩ := tdeep_succ h
    have h1 := regsS_len lives t.kind t.name t.lives next hr
    rw [liftS_eq]
    split
    · rename_i h2
      rw [liftH_pos h2.2]
      have := deep_lift lives d t.elem[0] (nextS scN t.kind t.name t.lives next) (hc h2.2)
      simp only [deepB, RT.mkE, RT.mkR, Bool.or_eq_false_iff, decide_eq_false_iff_not, List.any_cons, List.any_nil, Bool.or_false, List.length_cons, List.length_nil]
      exact ⟨⟨by first | omega | exact decide_eq_false (by omega) | trace_state, by first | omega | exact decide_eq_false (by omega)⟩, this⟩
    · simp only [deepB, RT.mkE, RT.mkR, Bool.or_eq_false_iff, decide_eq_false_iff_not, List.any_nil, List.length_nil]
      exact ⟨⟨by first | omega | exact decide_eq_false (by omega), by first | omega | exact decide_eq_false (by omega)⟩, trivial⟩

theorem wf_in {n : Int} (h : (Lit.int .i64 n).wf = true) : InI64 n := by
  simp only [Lit.wf, Bool.and_eq_true, decide_eq_true_eq] at h
  exact h
set_option maxHeartbeats 4000000 in
theorem typesLift_ret (t : TT) (ht : t.ok) (lives : List ByteArray) (hlv : lives.length ≤ maxLen) (next : Int) (hnw : (Lit.int .i64 next).wf = true) : PRet Tryz.prog 5 [.agg t.cells, encL cS lives, .int .i64 next] (.bool true) := by
  have hn := wf_in hnw
  refine pret_intro fd5 (by simp) ?_
  simp only [lc5, VCA, simprocAttr, encL, MCA, TTA, LDA, wS_imv, wS_snap, wS_sok, wX_imv, wX_snap, wX_sok]
  refine callX_of world_ret (.inl rfl) ?_
  have eS : leqp false wS .nilp = .A (isPtr wS = true) (.bool false) := rfl
  have eX : leqp false wX .nilp = .A (isPtr wX = true) (.bool false) := rfl
  have pS : isPtr wS = true := rfl
  have pX : isPtr wX = true := rfl
  simp only [VCA, simprocAttr, encL, MCA, TTA, LDA, wS_imv, wS_snap, wS_sok, wX_imv, wX_snap, wX_sok, eS, eX, pS, pX]
  refine callX_of (tdeep_ret 60 t ht (by decide)) (by first | exact .inr rfl | exact .inl rfl) ?_
  simp only [VCA, simprocAttr, encL, MCA, TTA, LDA, wS_imv, wS_snap, wS_sok, wX_imv, wX_snap, wX_sok]
  cases hd : tdeepB 60 t <;> simp only [VCA, simprocAttr, encL, MCA, TTA, LDA, wS_imv, wS_snap, wS_sok, wX_imv, wX_snap, wX_sok, hd]
  case true =>
    refine callX_of told14_ret (.inl rfl) ?_
    simp only [VCA, simprocAttr, encL, MCA]
  cases hl70 : decide ((70 : Int) < lives.length) <;> simp only [VCA, simprocAttr, encL, MCA, TTA, LDA, wS_imv, wS_snap, wS_sok, wX_imv, wX_snap, wX_sok, hl70]
  case true =>
    refine callX_of told14_ret (.inl rfl) ?_
    simp only [VCA, simprocAttr, encL, MCA]
  cases hn40 : decide ((1099511627776 : Int) < next) <;> simp only [VCA, simprocAttr, encL, MCA, TTA, LDA, wS_imv, wS_snap, wS_sok, wX_imv, wX_snap, wX_sok, hn40]
  case true =>
    refine callX_of told14_ret (.inl rfl) ?_
    simp only [VCA, simprocAttr, encL, MCA]
  have hl1 : lives.length ≤ 1000 := by have := of_decide_eq_false hl70; omega
  have hn1 : next ≤ 2251799813685248 - 4 * ((60 : Nat) : Int) := by have := of_decide_eq_false hn40; omega
  have hn2 : -9223372036854775808 ≤ next := hn.1
  refine callX_of (lift_ret lives hl1 60 t next (by decide) hd hn2 hn1) (by first | exact .inr rfl | exact .inl rfl) ?_
  simp only [VCA, simprocAttr, encL, MCA, TTA, LDA, wS_imv, wS_snap, wS_sok, wX_imv, wX_snap, wX_sok, fill1]
  refine callX_of (rlift_ret lives hl1 60 t next (by decide) hd hn2 hn1) (by first | exact .inr rfl | exact .inl rfl) ?_
  simp only [VCA, simprocAttr, encL, MCA, TTA, LDA, wS_imv, wS_snap, wS_sok, wX_imv, wX_snap, wX_sok, fill1]
  refine callX_of told14_ret (.inl rfl) ?_
  simp only [VCA, simprocAttr, encL, MCA, TTA, LDA, wS_imv, wS_snap, wS_sok, wX_imv, wX_snap, wX_sok]
  have hex := exact_ret 60 (liftS scN lives t next).1 (liftS scN lives t next).1 (by decide) (deep_lift lives 60 t next hd)
  rw [exB_self] at hex
  refine callX_of hex (by first | exact .inr rfl | exact .inl rfl) ?_
  simp only [VCA, simprocAttr, encL, MCA, TTA, LDA, wS_imv, wS_snap, wS_sok, wX_imv, wX_snap, wX_sok]
end Go.Proofs.YtgpeaibhhonikaaGreatDoor

set_option linter.unusedSimpArgs false
set_option linter.unusedVariables false
namespace Go.Proofs.YtgpeaibhhonikaaGreatDoor
open Go Go.Lg Go.RowKit
set_option linter.unusedVariables false
set_option linter.unusedSimpArgs false
set_option maxRecDepth 20000

def rt0 : RT := .mk 0 ⟨#[]⟩ [] []
def nmStar : ByteArray := ⟨#[42]⟩
def fieldT (x : ST) (s : ByteArray) : Option TT := (x.fields.find? fun f => decide (f.name = s)).map FD.type
def liftF (x : ST) (ty : TT) : RT := (liftS scN x.lives ty 0).1
/-- A field's type, where a struct stands; a number that tells what is wrong. -/
def fldS (t : RT) (s : ByteArray) (no : RT) : RT × Int :=
  if t.kind = 3 ∧ stIs t.name = true then (match fieldT (stD t.name) s with | some ty => (substS t.regions (liftF (stD t.name) ty), 0) | none => (no, 22)) else (no, 25)
/-- One step of a path. -/
def stepS (t : RT) (s : ByteArray) : RT × Int :=
  if s = nmStar then (if isRef t.kind = true then (match t.elem with | x :: _ => (x, 0) | [] => (rt0, 25)) else (rt0, 25)) else fldS t s rt0
theorem find_some : ∀ (l : List FD) (s : ByteArray) (k : Nat) (h : k < l.length), (∀ (j : Nat) (hj : j < k), (l[j]'(Nat.lt_trans hj h)).name ≠ s) → l[k].name = s → (l.find? fun f => decide (f.name = s)) = some l[k]
  | [], _, _, h, _, _ => absurd h (Nat.not_lt_zero _)
  | x :: r, s, 0, _, _, e => by
    have e : x.name = s := e
    rw [List.find?_cons, decide_eq_true e]; rfl
  | x :: r, s, k + 1, h, hn, e => by
    have hx : x.name ≠ s := hn 0 (Nat.succ_pos _)
    rw [List.find?_cons, decide_eq_false hx]
    exact find_some r s k (by simpa using h) (fun j hj => hn (j + 1) (Nat.succ_lt_succ hj)) e
theorem find_no : ∀ (l : List FD) (s : ByteArray), (∀ (j : Nat) (hj : j < l.length), l[j].name ≠ s) → (l.find? fun f => decide (f.name = s)) = none
  | [], _, _ => rfl
  | x :: r, s, hn => by
    have hx : x.name ≠ s := hn 0 (Nat.succ_pos _)
    rw [List.find?_cons, decide_eq_false hx]
    exact find_no r s (fun j hj => hn (j + 1) (Nat.succ_lt_succ hj))
theorem stD_cases (n : ByteArray) : stD n = stS ∨ stD n = stT ∨ stD n = stU ∨ stD n = st0 := by
  unfold stD
  split
  · exact .inl rfl
  · split
    · exact .inr (.inl rfl)
    · split
      · exact .inr (.inr (.inl rfl))
      · exact .inr (.inr (.inr rfl))
/-- What is known of the world's fields: they are not deep; their numbers do not hang on the next free one. -/
def fldOk (x : ST) : Prop := x.lives.length ≤ 2 ∧ x.fields.length ≤ 3 ∧ ∀ f ∈ x.fields, tdeepB 3 f.type = false ∧ ∀ next, (liftS scN x.lives f.type next).1 = liftF x f.type
theorem fld_ok (n : ByteArray) : fldOk (stD n) := by
  rcases stD_cases n with h | h | h | h <;> rw [h]
  · refine ⟨by decide, by decide, fun f hf => ?_⟩
    simp only [stS, List.mem_cons, List.not_mem_nil, or_false] at hf
    rcases hf with rfl | rfl <;> exact ⟨by rfl, fun next => by rfl⟩
  · refine ⟨by decide, by decide, fun f hf => ?_⟩
    simp only [stT, List.mem_cons, List.not_mem_nil, or_false] at hf
    rcases hf with rfl | rfl | rfl <;> exact ⟨by rfl, fun next => by rfl⟩
  · refine ⟨by decide, by decide, fun f hf => ?_⟩
    simp only [stU, List.mem_cons, List.not_mem_nil, or_false] at hf
    rcases hf with rfl | rfl <;> exact ⟨by rfl, fun next => by rfl⟩
  · exact ⟨by decide, by decide, fun f hf => by simp [st0] at hf⟩
theorem fill6 (a : FD) : setCells [V.bool false, V.str { data := #[] }, V.int IntKind.i64 0, V.str { data := #[] }, V.e0, V.e0] 0 a.cells = a.cells := setCells_all (by rw [FD.len]; rfl)

set_option maxHeartbeats 4000000 in
theorem part_ret (t : RT) (d : Nat) (hd : deepB d t = false) (s : ByteArray) : PRet Tryz.prog 58 [wS, .agg t.cells, .str s] (.tup [.agg (fldS t s t).1.cells, .int .i64 (fldS t s t).2]) := by
  have hreg : t.regions.length ≤ 70 := by
    cases d with
    | zero => exact (deep_zero hd).elim
    | succ d => exact (deep_succ hd).2.1
  refine pret_intro fdq58 (by simp) ?_
  simp only [lcq58, VCA, simprocAttr, encL, MCA, TTA, LDA, wS_imv, wS_snap, wS_sok]
  refine callX_of (struct_ret t.name) (by first | exact .inr rfl | exact .inl rfl) ?_
  obtain ⟨f1, f2, f3⟩ := fld_ok t.name
  simp only [VCA, simprocAttr, encL, MCA, TTA, LDA, wS_imv, wS_snap, wS_sok, fill5]
  have hno : ¬ (t.kind = 3 ∧ stIs t.name = true) → fldS t s t = (t, 25) := fun h => by rw [fldS, if_neg h]
  cases b3 : decide (t.kind = 3) <;> simp only [VCA, simprocAttr, encL, MCA, TTA, LDA, b3, wS_imv, wS_snap, wS_sok]
  · rw [hno (fun h => of_decide_eq_false b3 h.1)]
    simp only [VCA, simprocAttr, encL, MCA, TTA, LDA, fill1, List.mapM_cons, List.mapM_nil, Option.pure_def, Option.bind_eq_bind, Option.bind_some, Option.map_some, some_ex]
  cases bs : stIs t.name <;> simp only [VCA, simprocAttr, encL, MCA, TTA, LDA, bs, wS_imv, wS_snap, wS_sok]
  · rw [hno (fun h => by rw [bs] at h; exact absurd h.2 (by decide))]
    simp only [VCA, simprocAttr, encL, MCA, TTA, LDA, fill1, List.mapM_cons, List.mapM_nil, Option.pure_def, Option.bind_eq_bind, Option.bind_some, Option.map_some, some_ex]
  have hyes : fldS t s t = (match fieldT (stD t.name) s with | some ty => (substS t.regions (liftF (stD t.name) ty), 0) | none => (t, 22)) := by
    rw [fldS, if_pos ⟨of_decide_eq_true b3, bs⟩]
  generalize stD t.name = X at *
  refine loop_vcg (ι := Nat × (Nat → Nat)) (fun y => stO [(0, .val wS), (2, .val (.str s)), (4, .box t.cells), (6, .box [.int .i64 0, .str ⟨#[]⟩, .e0, .e0]), (8, .box X.cells), (30, .val (encL FD.cells X.fields)), (31, .val (.int .i64 X.fields.length)), (32, .val (.int .i64 y.1))] y.2)
    (fun y => y.1 ≤ X.fields.length ∧ ∀ (j : Nat) (hj : j < y.1) (hj2 : j < X.fields.length), X.fields[j].name ≠ s) (fun y => X.fields.length - y.1) (0, _) ⟨Nat.zero_le _, fun j hj => absurd hj (Nat.not_lt_zero _)⟩ (ent_of _ [] rfl rfl (by simp only [VCA, simprocAttr, encL, MCA, TTA, LDA, wS_imv])) ?_
  rintro ⟨k, c⟩ hk
  obtain ⟨hk, hn⟩ : k ≤ X.fields.length ∧ ∀ (j : Nat) (hj : j < k) (hj2 : j < X.fields.length), X.fields[j].name ≠ s := hk
  simp only [VCA, simprocAttr, encL, MCA, TTA, LDA, wS_imv, wS_snap, wS_sok]
  refine condD_of (fun h => ?_) (fun h => ?_)
  · have ha' : k < X.fields.length := by omega
    have i1 : 0 ≤ (k : Int) ∧ (k : Int) < X.fields.length := by omega
    have i3 : InI64 ((k : Int) + 1) := by unfold InI64; omega
    simp only [VCA, simprocAttr, encL, MCA, TTA, LDA, wS_imv, wS_snap, wS_sok, ha', i1, i3, fill6, txt_eq]
    cases bn : decide (X.fields[k].name = s) <;> simp only [VCA, simprocAttr, encL, MCA, TTA, LDA, bn, wS_imv, wS_snap, wS_sok, i3]
    · refine backTo_of (k + 1, _) ⟨ha', fun j hj hj2 => ?_⟩ (by simp only []; omega) (ent_of _ [] rfl rfl (by simp only [VCA, simprocAttr, encL, MCA, TTA, LDA, wS_imv]))
      by_cases e : j = k
      · subst e; exact of_decide_eq_false bn
      · exact hn j (by have hj : j < k + 1 := hj; omega) hj2
    · have hfs := find_some X.fields s k ha' (fun j hj => hn j hj _) (of_decide_eq_true bn)
      have hft : fieldT X s = some X.fields[k].type := by rw [fieldT, hfs]; rfl
      obtain ⟨g1, g2⟩ := f3 _ (List.getElem_mem ha')
      have hdl := deep_lift X.lives 3 X.fields[k].type 0 g1
      have e0 : (liftS scN X.lives X.fields[k].type 0).1 = liftF X X.fields[k].type := rfl
      rw [e0] at hdl
      rw [hyes, hft]
      refine callX_of (lift_ret X.lives (by omega) 3 X.fields[k].type X.lives.length (by decide) g1 (by omega) (by omega)) (by first | exact .inr rfl | exact .inl rfl) ?_
      simp only [VCA, simprocAttr, encL, MCA, TTA, LDA, wS_imv, wS_snap, wS_sok, fill1, g2]
      refine callX_of (subst_ret t.regions (by omega) 3 _ (by decide) hdl) (by first | exact .inr rfl | exact .inl rfl) ?_
      simp only [VCA, simprocAttr, encL, MCA, TTA, LDA, fill1, List.mapM_cons, List.mapM_nil, Option.pure_def, Option.bind_eq_bind, Option.bind_some, Option.map_some, some_ex]
  · have hk' : k = X.fields.length := by omega
    subst hk'
    have hft : fieldT X s = none := by rw [fieldT, find_no X.fields s fun j hj => hn j hj hj]; rfl
    rw [hyes, hft]
    simp only [VCA, simprocAttr, encL, MCA, TTA, LDA, fill1, List.mapM_cons, List.mapM_nil, Option.pure_def, Option.bind_eq_bind, Option.bind_some, Option.map_some, some_ex]
end Go.Proofs.YtgpeaibhhonikaaGreatDoor

set_option linter.unusedSimpArgs false
set_option linter.unusedVariables false
namespace Go.Proofs.YtgpeaibhhonikaaGreatDoor
open Go Go.Lg Go.RowKit
set_option linter.unusedVariables false
set_option linter.unusedSimpArgs false
set_option maxRecDepth 20000

theorem rt0_cells : rt0.cells = [.int .i64 0, .str ⟨#[]⟩, .sl 0 [], .sl 0 []] := by rw [RT.cells_eq]; rfl
theorem stepS_ref {t : RT} (hk : isRef t.kind = true) (h : 0 < t.elem.length) : stepS t nmStar = (t.elem[0], 0) := by
  rw [stepS, if_pos rfl, if_pos hk]
  obtain ⟨k, n, r, e⟩ := t
  cases e with
  | nil => simp [RT.elem] at h
  | cons x l => rfl
theorem stepS_no {t : RT} (h : ¬ (isRef t.kind = true ∧ 0 < t.elem.length)) : stepS t nmStar = (rt0, 25) := by
  rw [stepS, if_pos rfl]
  split
  · rename_i hk
    obtain ⟨k, n, r, e⟩ := t
    cases e with
    | nil => rfl
    | cons x l => exact absurd ⟨hk, by simp [RT.elem]⟩ h
  · rfl
theorem stepS_fld {t : RT} {s : ByteArray} (h : ¬ s = nmStar) : stepS t s = fldS t s rt0 := by rw [stepS, if_neg h]
set_option maxHeartbeats 4000000 in
theorem step_ret (t : RT) (d : Nat) (hd : deepB d t = false) (s : ByteArray) : PRet Tryz.prog 60 [wX, .agg t.cells, .str s] (.tup [.agg (stepS t s).1.cells, .int .i64 (stepS t s).2]) := by
  have hreg : t.regions.length ≤ 70 := by
    cases d with
    | zero => exact (deep_zero hd).elim
    | succ d => exact (deep_succ hd).2.1
  refine pret_intro_z fdq60 (by simp) ?_
  simp only [lcq60, VCA, simprocAttr, encL, MCA, TTA, LDA, wX_imv, wX_snap, wX_sok, txt_eq]
  have e42 : (⟨#[42]⟩ : ByteArray) = nmStar := rfl
  rw [e42]
  cases bst : decide (s = nmStar) <;> simp only [VCA, simprocAttr, encL, MCA, TTA, LDA, bst, wX_imv, wX_snap, wX_sok]
  case true =>
    obtain rfl := of_decide_eq_true bst
    have fin0 : ¬ (isRef t.kind = true ∧ 0 < t.elem.length) → stepS t nmStar = (rt0, 25) := stepS_no
    by_cases hk : isRef t.kind = true
    · have hc3 : decide (t.kind = 4) = true ∧ decide (t.kind = 4) = true ∨ decide (t.kind = 4) = false ∧ decide (t.kind = 5) = true := by
        rw [isRef] at hk
        cases b4 : decide (t.kind = 4)
        · rw [b4, Bool.false_or] at hk; exact .inr ⟨rfl, hk⟩
        · exact .inl ⟨rfl, rfl⟩
      rcases hc3 with ⟨b4, b5⟩ | ⟨b4, b5⟩
      all_goals
        simp only [VCA, simprocAttr, encL, MCA, TTA, LDA, b4, b5, wX_imv, wX_snap, wX_sok]
        cases be : decide ((t.elem.length : Int) = 0) <;> simp only [VCA, simprocAttr, encL, MCA, TTA, LDA, be, wX_imv, wX_snap, wX_sok]
        · have hp : 0 < t.elem.length := by have := of_decide_eq_false be; omega
          have hp' : (0 : Int) < t.elem.length := by omega
          have hf := rt_first hp
          rw [stepS_ref hk hp]
          simp only [VCA, simprocAttr, encL, MCA, TTA, LDA, hp, hp', hf, fill1, List.mapM_cons, List.mapM_nil, Option.pure_def, Option.bind_eq_bind, Option.bind_some, Option.map_some, some_ex, NZA]
        · rw [fin0 (by rintro ⟨_, h⟩; have := of_decide_eq_true be; omega)]
          simp only [VCA, simprocAttr, encL, MCA, TTA, LDA, sc4_a, List.mapM_cons, List.mapM_nil, Option.pure_def, Option.bind_eq_bind, Option.bind_some, Option.map_some, some_ex, NZA]
          rw [rt0_cells]
    · have b4 : decide (t.kind = 4) = false := by
        rw [isRef] at hk; cases b4 : decide (t.kind = 4); rfl; simp [b4] at hk
      have b5 : decide (t.kind = 5) = false := by
        rw [isRef] at hk; cases b5 : decide (t.kind = 5); rfl; simp [b5] at hk
      rw [fin0 (fun h => hk h.1)]
      simp only [VCA, simprocAttr, encL, MCA, TTA, LDA, b4, b5, sc4_a, List.mapM_cons, List.mapM_nil, Option.pure_def, Option.bind_eq_bind, Option.bind_some, Option.map_some, some_ex, NZA]
      rw [rt0_cells]
  rw [stepS_fld (of_decide_eq_false bst)]
  refine callX_of (rstruct_ret t.name) (by first | exact .inr rfl | exact .inl rfl) ?_
  obtain ⟨f1, f2, f3⟩ := fld_ok t.name
  simp only [VCA, simprocAttr, encL, MCA, TTA, LDA, wX_imv, wX_snap, wX_sok, fill5]
  have hno : ¬ (t.kind = 3 ∧ stIs t.name = true) → fldS t s rt0 = (rt0, 25) := fun h => by rw [fldS, if_neg h]
  cases b3 : decide (t.kind = 3) <;> simp only [VCA, simprocAttr, encL, MCA, TTA, LDA, b3, wX_imv, wX_snap, wX_sok]
  · rw [hno (fun h => of_decide_eq_false b3 h.1)]
    simp only [VCA, simprocAttr, encL, MCA, TTA, LDA, sc4_a, List.mapM_cons, List.mapM_nil, Option.pure_def, Option.bind_eq_bind, Option.bind_some, Option.map_some, some_ex, NZA]
    rw [rt0_cells]
  cases bs : stIs t.name <;> simp only [VCA, simprocAttr, encL, MCA, TTA, LDA, bs, wX_imv, wX_snap, wX_sok]
  · rw [hno (fun h => by rw [bs] at h; exact absurd h.2 (by decide))]
    simp only [VCA, simprocAttr, encL, MCA, TTA, LDA, sc4_a, List.mapM_cons, List.mapM_nil, Option.pure_def, Option.bind_eq_bind, Option.bind_some, Option.map_some, some_ex, NZA]
    rw [rt0_cells]
  have hy1 : ∀ ty, fieldT (stD t.name) s = some ty → fldS t s rt0 = (substS t.regions (liftF (stD t.name) ty), 0) := fun ty h => by rw [fldS, if_pos ⟨of_decide_eq_true b3, bs⟩, h]
  have hy2 : fieldT (stD t.name) s = none → fldS t s rt0 = (rt0, 22) := fun h => by rw [fldS, if_pos ⟨of_decide_eq_true b3, bs⟩, h]
  generalize stD t.name = X at *
  refine loop_vcg (ι := Nat × (Nat → Nat)) (fun y => stO [(0, .val wX), (2, .val (.str s)), (4, .box t.cells), (6, .box [.int .i64 0, .str ⟨#[]⟩, .e0, .e0]), (8, .box X.cells), (10, .val (.int .i64 y.1))] y.2)
    (fun y => y.1 ≤ X.fields.length ∧ ∀ (j : Nat) (hj : j < y.1) (hj2 : j < X.fields.length), X.fields[j].name ≠ s) (fun y => X.fields.length - y.1) (0, _) ⟨Nat.zero_le _, fun j hj => absurd hj (Nat.not_lt_zero _)⟩ (ent_of _ [] rfl rfl (by simp only [VCA, simprocAttr, encL, MCA, TTA, LDA, wX_imv])) ?_
  rintro ⟨k, c⟩ hk
  obtain ⟨hk, hn⟩ : k ≤ X.fields.length ∧ ∀ (j : Nat) (hj : j < k) (hj2 : j < X.fields.length), X.fields[j].name ≠ s := hk
  simp only [VCA, simprocAttr, encL, MCA, TTA, LDA, wX_imv, wX_snap, wX_sok]
  refine condD_of (fun h => ?_) (fun h => ?_)
  · have ha' : k < X.fields.length := by omega
    have i1 : 0 ≤ (k : Int) ∧ (k : Int) < X.fields.length := by omega
    have i3 : InI64 ((k : Int) + 1) := by unfold InI64; omega
    simp only [VCA, simprocAttr, encL, MCA, TTA, LDA, wX_imv, wX_snap, wX_sok, ha', i1, i3, fill6, txt_eq]
    cases bn : decide (X.fields[k].name = s) <;> simp only [VCA, simprocAttr, encL, MCA, TTA, LDA, bn, wX_imv, wX_snap, wX_sok, i3, ha', i1]
    · refine backTo_of (k + 1, _) ⟨ha', fun j hj hj2 => ?_⟩ (by simp only []; omega) (ent_of _ [] rfl rfl (by simp only [VCA, simprocAttr, encL, MCA, TTA, LDA, wX_imv]))
      by_cases e : j = k
      · subst e; exact of_decide_eq_false bn
      · exact hn j (by have hj : j < k + 1 := hj; omega) hj2
    · have hfs := find_some X.fields s k ha' (fun j hj => hn j hj _) (of_decide_eq_true bn)
      have hft : fieldT X s = some X.fields[k].type := by rw [fieldT, hfs]; rfl
      obtain ⟨g1, g2⟩ := f3 _ (List.getElem_mem ha')
      have hdl := deep_lift X.lives 3 X.fields[k].type 0 g1
      have e0 : (liftS scN X.lives X.fields[k].type 0).1 = liftF X X.fields[k].type := rfl
      rw [e0] at hdl
      rw [hy1 _ hft]
      refine callV_of (rlift_ret X.lives (by omega) 3 X.fields[k].type 0 (by decide) g1 (by decide) (by decide)) (by first | exact .inr rfl | exact .inl rfl) ?_
      simp only [VCA, simprocAttr, encL, MCA, TTA, LDA, wX_imv, wX_snap, wX_sok, fill1, g2]
      refine callX_of (rsubst_ret t.regions (by omega) 3 _ (by decide) hdl) (by first | exact .inr rfl | exact .inl rfl) ?_
      simp only [VCA, simprocAttr, encL, MCA, TTA, LDA, fill1, List.mapM_cons, List.mapM_nil, Option.pure_def, Option.bind_eq_bind, Option.bind_some, Option.map_some, some_ex, NZA]
  · have hk' : k = X.fields.length := by omega
    subst hk'
    have hft : fieldT X s = none := by rw [fieldT, find_no X.fields s fun j hj => hn j hj hj]; rfl
    rw [hy2 hft]
    simp only [VCA, simprocAttr, encL, MCA, TTA, LDA, sc4_a, List.mapM_cons, List.mapM_nil, Option.pure_def, Option.bind_eq_bind, Option.bind_some, Option.map_some, some_ex, NZA]
    rw [rt0_cells]

/-- An error as a value. -/
def fltV (c i : Int) : V := if c = 0 then .nili else .ifc 116 (.ip [.int .i64 c, .int .i64 i, .ifc 98 (.int .i64 c)] 0)
theorem fill3 (a b c x y z : V) : setCells (setCells (setCells [a, b, c] 0 [x]) 1 [y]) 2 [z] = [x, y, z] := rfl
theorem flt_ret (c i : Int) : PRet Tryz.prog 59 [.int .i64 c, .int .i64 i] (fltV c i) := by
  refine pret_intro fdq59 (by simp) ?_
  simp only [lcq59, VCA, simprocAttr, encL, MCA, LDA]
  cases b : decide (c = 0) <;> simp only [VCA, simprocAttr, encL, MCA, LDA, b, fill3]
  · rw [fltV, if_neg (of_decide_eq_false b)]
  · rw [fltV, if_pos (of_decide_eq_true b)]
theorem told1_ret (c i : Int) : PRet Tryz.prog 43 [fltV c i] (.tup [.int .i64 c, .int .i64 (if c = 0 then 0 else i)]) := by
  by_cases h : c = 0
  · rw [fltV, if_pos h, if_pos h, h]
    refine pret_intro fdq43 (by simp) ?_
    simp only [lcq43, VCA, simprocAttr, encL, MCA, LDA, List.mapM_cons, List.mapM_nil, Option.pure_def, Option.bind_eq_bind, Option.bind_some, Option.map_some, some_ex]
  · rw [fltV, if_neg h, if_neg h]
    refine pret_intro fdq43 (by simp) ?_
    simp only [lcq43, VCA, simprocAttr, encL, MCA, LDA]
    refine loop_vcg (ι := Nat → Nat) (fun y => stO [(4, .val (.ip [.int .i64 c, .int .i64 i, .ifc 98 (.int .i64 c)] 0)), (6, .val (.int .i64 c)), (7, .val (.int .i64 i)), (8, .val (.int .i64 0))] y)
      (fun _ => True) (fun _ => 0) _ trivial (ent_of _ [] rfl rfl (by simp only [VCA, simprocAttr, encL, MCA, LDA])) ?_
    rintro cc -
    simp only [VCA, simprocAttr, encL, MCA, LDA, List.mapM_cons, List.mapM_nil, Option.pure_def, Option.bind_eq_bind, Option.bind_some, Option.map_some, some_ex]
theorem flt_snap (c i : Int) (H : Heap) (d : Nat) : snap H (d + 3) (fltV c i) = fltV c i := by
  unfold fltV; split <;> rfl
theorem flt_sok (c i : Int) (H : Heap) (d : Nat) : sok H (d + 3) (fltV c i) = true := by
  unfold fltV; split <;> rfl
theorem flt_imv (c i : Int) (d : Nat) : imV (d + 3) (fltV c i) = true := by
  unfold fltV; split <;> rfl
theorem is_ret (c i : Int) : PRet Tryz.prog 29 [fltV c i, .int .i64 c, .int .i64 (if c = 0 then 0 else i)] (.bool true) := by
  refine pret_intro fdq29 (by simp) ?_
  simp only [lcq29, VCA, simprocAttr, encL, MCA, LDA, flt_snap, flt_sok]
  refine callX_of (told1_ret c i) (by first | exact .inr rfl | exact .inl rfl) ?_
  simp only [VCA, simprocAttr, encL, MCA, LDA]
theorem ints_ret (l m : List Int) (hl : l.length ≤ 10000000) : PRet Tryz.prog 30 [encL cI l, encL cI m] (.bool (decide (l = m))) := by
  refine pret_intro fdq30 (by simp) ?_
  simp only [lcq30, VCA, simprocAttr, encL, MCA, len_dec]
  cases b0 : decide (l.length = m.length) <;> simp only [VCA, simprocAttr, encL, MCA, b0, len_dec]
  · have : decide (l = m) = false := decide_eq_false (by rintro rfl; simp at b0)
    rw [this]
  have hab : l.length = m.length := of_decide_eq_true b0
  refine loop_vcg (ι := Nat × (Nat → Nat)) (fun (k, c) => stO [(0, .val (encL cI l)), (1, .val (encL cI m)), (5, .val (.int .i64 k))] c)
    (fun (k, _) => k ≤ l.length ∧ decide (l.drop k = m.drop k) = decide (l = m)) (fun (k, _) => l.length - k) (0, _) ⟨Nat.zero_le _, rfl⟩ (ent_of _ [] rfl rfl (by simp only [VCA, simprocAttr, encL, MCA])) ?_
  rintro ⟨k, c⟩ hk
  obtain ⟨hk, hb⟩ : k ≤ l.length ∧ decide (l.drop k = m.drop k) = decide (l = m) := hk
  simp only [VCA, simprocAttr, encL, MCA]
  refine condD_of (fun h => ?_) (fun h => ?_)
  · have ha' : k < l.length := by omega
    have hb' : k < m.length := by omega
    have i1 : 0 ≤ (k : Int) ∧ (k : Int) < l.length := by omega
    have i2 : 0 ≤ (k : Int) ∧ (k : Int) < m.length := by omega
    have i3 : InI64 ((k : Int) + 1) := by unfold InI64; omega
    rw [List.drop_eq_getElem_cons ha', List.drop_eq_getElem_cons hb'] at hb
    simp only [VCA, simprocAttr, encL, MCA, ha', hb', i1, i2]
    cases c1 : decide (l[k] = m[k]) <;> simp only [VCA, simprocAttr, encL, MCA, c1, i3]
    · have : decide (l = m) = false := by
        rw [← hb]
        exact decide_eq_false (by intro e; injection e with e1; exact of_decide_eq_false c1 e1)
      rw [this]
    · refine backTo_of (k + 1, _) ⟨ha', ?_⟩ (by simp only []; omega) (ent_of _ [] rfl rfl (by simp only [VCA, simprocAttr, encL, MCA]))
      have e := of_decide_eq_true c1
      rw [← hb, e, Bool.eq_iff_iff, decide_eq_true_eq, decide_eq_true_eq]
      exact ⟨fun q => congrArg _ q, fun q => by injection q⟩
  · have hk' : k = l.length := by omega
    subst hk'
    rw [List.drop_length, hab, List.drop_length] at hb
    simp only [VCA, simprocAttr, encL, MCA, ← hb]
end Go.Proofs.YtgpeaibhhonikaaGreatDoor

set_option linter.unusedSimpArgs false
set_option linter.unusedVariables false
namespace Go.Proofs.YtgpeaibhhonikaaGreatDoor
open Go Go.Lg Go.RowKit
set_option linter.unusedVariables false
set_option linter.unusedSimpArgs false
set_option maxRecDepth 20000

/-- What a path leads to; a number that tells what is wrong, and where. -/
def atS : RT → List ByteArray → Nat → RT × Int × Int
  | t, [], _ => (t, 0, 0)
  | t, s :: r, i => if (stepS t s).2 = 0 then atS (stepS t s).1 r (i + 1) else (rt0, (stepS t s).2, i)
theorem fld_same (t : RT) (s : ByteArray) (a b : RT) : (fldS t s a).2 = (fldS t s b).2 ∧ ((fldS t s a).2 = 0 → fldS t s a = fldS t s b) := by
  unfold fldS
  split
  · split
    · exact ⟨rfl, fun _ => rfl⟩
    · exact ⟨rfl, fun h => absurd h (by show ¬ ((22 : Int) = 0); decide)⟩
  · exact ⟨rfl, fun h => absurd h (by show ¬ ((25 : Int) = 0); decide)⟩
theorem deep_field (x : ST) (hx : fldOk x) {s : ByteArray} {ty : TT} (h : fieldT x s = some ty) : deepB 3 (liftF x ty) = false := by
  simp only [fieldT, Option.map_eq_some_iff] at h
  obtain ⟨f, hf, rfl⟩ := h
  exact deep_lift x.lives 3 f.type 0 (hx.2.2 f (List.mem_of_find?_eq_some hf)).1
theorem deep_step {t : RT} {s : ByteArray} (hd : deepB 60 t = false) (h0 : (stepS t s).2 = 0) : deepB 60 (stepS t s).1 = false := by
  unfold stepS at h0 ⊢
  split
  · rename_i hs
    rw [if_pos hs] at h0
    split
    · rename_i hk
      rw [if_pos hk] at h0
      obtain ⟨_, _, hc⟩ := deep_succ hd
      obtain ⟨k, n, r, e⟩ := t
      cases e with
      | nil => exact absurd h0 (by show ¬ ((25 : Int) = 0); decide)
      | cons x l => exact deep_mono (by decide) (hc x (List.mem_cons_self ..))
    · rename_i hk
      rw [if_neg hk] at h0
      exact absurd h0 (by decide)
  · rename_i hs
    rw [if_neg hs] at h0
    unfold fldS at h0 ⊢
    split
    · rename_i h3
      rw [if_pos h3] at h0
      split
      · rename_i ty hty
        exact deep_subst _ 60 _ (deep_mono (show 3 ≤ 60 by decide) (deep_field _ (fld_ok t.name) hty))
      · rename_i hty
        rw [hty] at h0
        exact absurd h0 (by show ¬ ((22 : Int) = 0); decide)
    · rename_i h3
      rw [if_neg h3] at h0
      exact absurd h0 (by decide)
theorem at_step {x : RT} {l : List ByteArray} {k : Nat} (h : k < l.length) : atS x (l.drop k) k = if (stepS x l[k]).2 = 0 then atS (stepS x l[k]).1 (l.drop (k + 1)) (k + 1) else (rt0, (stepS x l[k]).2, (k : Int)) := by
  rw [List.drop_eq_getElem_cons h, atS]
theorem flt_nz (c i : Int) : nz 5 (fltV c i) = fltV c i := by
  unfold fltV; split <;> rfl
theorem star_eq : (⟨#[42]⟩ : ByteArray) = nmStar := rfl

set_option maxHeartbeats 8000000 in
theorem at_ret (t : RT) (hd : deepB 60 t = false) (l : List ByteArray) (hl : l.length ≤ 1000) : PRet Tryz.prog 26 [wS, .agg t.cells, encL cS l] (.tup [.agg (atS t l 0).1.cells, fltV (atS t l 0).2.1 (atS t l 0).2.2]) := by
  refine pret_intro_z fdq26 (by simp) ?_
  simp only [lcq26, VCA, simprocAttr, encL, MCA, TTA, LDA, wS_imv, wS_snap, wS_sok]
  have hs0 := subst_ret [] (by decide) 60 t (by decide) hd
  rw [subst_nil] at hs0
  refine callX_of (hs0.nz 3 (by simp only [List.map_cons, List.map_nil, nz_call, nz_e0]; rfl)) (by first | exact .inr rfl | exact .inl rfl) ?_
  simp only [VCA, simprocAttr, encL, MCA, TTA, LDA, wS_imv, wS_snap, wS_sok, fill1]
  refine loop_vcg (ι := (Nat × RT) × (Nat → Nat)) (fun y => stO [(0, .val wS), (6, .box [.int .i64 0, .str ⟨#[]⟩, .e0, .e0]), (8, .box y.1.2.cells), (14, .val (encL cS l)), (15, .val (.int .i64 l.length)), (16, .val (.int .i64 y.1.1))] y.2)
    (fun y => y.1.1 ≤ l.length ∧ deepB 60 y.1.2 = false ∧ atS t l 0 = atS y.1.2 (l.drop y.1.1) y.1.1) (fun y => l.length - y.1.1) ((0, t), _) ⟨Nat.zero_le _, hd, rfl⟩ (ent_of _ [] rfl rfl (by simp only [VCA, simprocAttr, encL, MCA, TTA, LDA, wS_imv])) ?_
  rintro ⟨⟨k, x⟩, c⟩ hk
  obtain ⟨hk, hdx, hat⟩ : k ≤ l.length ∧ deepB 60 x = false ∧ atS t l 0 = atS x (l.drop k) k := hk
  simp only [VCA, simprocAttr, encL, MCA, TTA, LDA, wS_imv, wS_snap, wS_sok]
  refine condD_of (fun h => ?_) (fun h => ?_)
  case refine_2 =>
    have hk' : k = l.length := by omega
    subst hk'
    rw [List.drop_length] at hat
    rw [hat]
    simp only [VCA, simprocAttr, encL, MCA, TTA, LDA, wS_imv, wS_snap, wS_sok, fill1, atS, List.mapM_cons, List.mapM_nil, Option.pure_def, Option.bind_eq_bind, Option.bind_some, Option.map_some, some_ex, NZA]
    rfl
  have ha' : k < l.length := by omega
  have i1 : 0 ≤ (k : Int) ∧ (k : Int) < l.length := by omega
  have i3 : InI64 ((k : Int) + 1) := by unfold InI64; omega
  rw [at_step ha'] at hat
  simp only [VCA, simprocAttr, encL, MCA, TTA, LDA, wS_imv, wS_snap, wS_sok, ha', i1, i3, star_eq, txt_ne, txt_eq]
  obtain ⟨s, hs⟩ : ∃ s, l[k] = s := ⟨_, rfl⟩
  rw [hs] at hat
  simp only [hs]
  -- behind the step: the type and the number
  have next : ∀ y : RT, (stepS x s).2 = 0 → y = (stepS x s).1 → deepB 60 y = false ∧ atS t l 0 = atS y (l.drop (k + 1)) (k + 1) := by
    rintro y h0 rfl
    rw [if_pos h0] at hat
    exact ⟨deep_step hdx h0, hat⟩
  have stop : ¬ (stepS x s).2 = 0 → atS t l 0 = (rt0, (stepS x s).2, (k : Int)) := fun h0 => by rw [hat, if_neg h0]
  clear hat
  cases bst : decide (s = nmStar) <;> simp only [VCA, simprocAttr, encL, MCA, TTA, LDA, bst, wS_imv, wS_snap, wS_sok]
  · refine callX_of (part_ret x 60 hdx s) (by first | exact .inr rfl | exact .inl rfl) ?_
    simp only [VCA, simprocAttr, encL, MCA, TTA, LDA, wS_imv, wS_snap, wS_sok, fill1]
    have hf := fld_same x s x rt0
    rw [← stepS_fld (of_decide_eq_false bst)] at hf
    generalize fldS x s x = Y at *
    obtain ⟨y, n⟩ := Y
    simp only [] at hf
    cases b0 : decide (n = 0) <;> simp only [VCA, simprocAttr, encL, MCA, TTA, LDA, b0, wS_imv, wS_snap, wS_sok]
    · have n0 : ¬ n = 0 := of_decide_eq_false b0
      rw [stop (by rw [← hf.1]; exact n0), ← hf.1]
      refine callX_of (flt_ret n k) (by first | exact .inr rfl | exact .inl rfl) ?_
      simp only [VCA, simprocAttr, encL, MCA, TTA, LDA, wS_imv, wS_snap, wS_sok, flt_snap, flt_sok, flt_imv, sc4_a, List.mapM_cons, List.mapM_nil, Option.pure_def, Option.bind_eq_bind, Option.bind_some, Option.map_some, some_ex, NZA]
      rw [flt_nz, rt0_cells]
    · have n0 : n = 0 := of_decide_eq_true b0
      obtain ⟨h1, h2⟩ := next y (by rw [← hf.1]; exact n0) (by rw [← hf.2 n0])
      simp only [VCA, simprocAttr, encL, MCA, TTA, LDA, wS_imv, wS_snap, wS_sok, i3]
      exact backTo_of ((k + 1, y), _) ⟨ha', h1, h2⟩ (by simp only []; omega) (ent_of _ [] rfl rfl (by simp only [VCA, simprocAttr, encL, MCA, TTA, LDA, wS_imv]))
  · obtain rfl := of_decide_eq_true bst
    refine callX_of (refers_ret x.kind) (by first | exact .inr rfl | exact .inl rfl) ?_
    simp only [VCA, simprocAttr, encL, MCA, TTA, LDA, wS_imv, wS_snap, wS_sok]
    have no : ¬ (isRef x.kind = true ∧ 0 < x.elem.length) → atS t l 0 = (rt0, 25, (k : Int)) := fun h => by
      have e := stepS_no h
      rw [stop (by rw [e]; decide), e]
    cases bk : isRef x.kind <;> simp only [VCA, simprocAttr, encL, MCA, TTA, LDA, bk, wS_imv, wS_snap, wS_sok]
    · rw [no (fun h => by rw [bk] at h; exact absurd h.1 (by decide))]
      refine callX_of (flt_ret 25 k) (by first | exact .inr rfl | exact .inl rfl) ?_
      simp only [VCA, simprocAttr, encL, MCA, TTA, LDA, wS_imv, wS_snap, wS_sok, flt_snap, flt_sok, flt_imv, sc4_a, List.mapM_cons, List.mapM_nil, Option.pure_def, Option.bind_eq_bind, Option.bind_some, Option.map_some, some_ex, NZA]
      rw [flt_nz, rt0_cells]
    cases be : decide ((x.elem.length : Int) = 0) <;> simp only [VCA, simprocAttr, encL, MCA, TTA, LDA, be, wS_imv, wS_snap, wS_sok]
    · have hp : 0 < x.elem.length := by have := of_decide_eq_false be; omega
      have hp' : (0 : Int) < x.elem.length := by omega
      have hf := rt_first hp
      have e := stepS_ref bk hp
      obtain ⟨h1, h2⟩ := next x.elem[0] (by rw [e]) (by rw [e])
      simp only [VCA, simprocAttr, encL, MCA, TTA, LDA, wS_imv, wS_snap, wS_sok, hp, hp', hf, i3]
      exact backTo_of ((k + 1, x.elem[0]), _) ⟨ha', h1, h2⟩ (by simp only []; omega) (ent_of _ [] rfl rfl (by simp only [VCA, simprocAttr, encL, MCA, TTA, LDA, wS_imv]))
    · rw [no (fun h => by have := of_decide_eq_true be; omega)]
      refine callX_of (flt_ret 25 k) (by first | exact .inr rfl | exact .inl rfl) ?_
      simp only [VCA, simprocAttr, encL, MCA, TTA, LDA, wS_imv, wS_snap, wS_sok, flt_snap, flt_sok, flt_imv, sc4_a, List.mapM_cons, List.mapM_nil, Option.pure_def, Option.bind_eq_bind, Option.bind_some, Option.map_some, some_ex, NZA]
      rw [flt_nz, rt0_cells]

set_option maxHeartbeats 8000000 in
theorem rat_ret (t : RT) (hd : deepB 60 t = false) (l : List ByteArray) (hl : l.length ≤ 1000) : PRet Tryz.prog 27 [wX, .agg t.cells, encL cS l] (.tup [.agg (atS t l 0).1.cells, .int .i64 (atS t l 0).2.1, .int .i64 (atS t l 0).2.2]) := by
  refine pret_intro_z fdq27 (by simp) ?_
  simp only [lcq27, VCA, simprocAttr, encL, MCA, TTA, LDA, wX_imv, wX_snap, wX_sok]
  refine loop_vcg (ι := (Nat × RT) × (Nat → Nat)) (fun y => stO [(0, .val wX), (2, .val (encL cS l)), (4, .box y.1.2.cells), (6, .box [.int .i64 0, .str ⟨#[]⟩, .e0, .e0]), (9, .val (.int .i64 y.1.1))] y.2)
    (fun y => y.1.1 ≤ l.length ∧ deepB 60 y.1.2 = false ∧ atS t l 0 = atS y.1.2 (l.drop y.1.1) y.1.1) (fun y => l.length - y.1.1) ((0, t), _) ⟨Nat.zero_le _, hd, rfl⟩ (ent_of _ [] rfl rfl (by simp only [VCA, simprocAttr, encL, MCA, TTA, LDA, wX_imv])) ?_
  rintro ⟨⟨k, x⟩, c⟩ hk
  obtain ⟨hk, hdx, hat⟩ : k ≤ l.length ∧ deepB 60 x = false ∧ atS t l 0 = atS x (l.drop k) k := hk
  simp only [VCA, simprocAttr, encL, MCA, TTA, LDA, wX_imv, wX_snap, wX_sok]
  refine condD_of (fun h => ?_) (fun h => ?_)
  case refine_2 =>
    have hk' : k = l.length := by omega
    subst hk'
    rw [List.drop_length] at hat
    rw [hat]
    simp only [VCA, simprocAttr, encL, MCA, TTA, LDA, wX_imv, wX_snap, wX_sok, fill1, atS, List.mapM_cons, List.mapM_nil, Option.pure_def, Option.bind_eq_bind, Option.bind_some, Option.map_some, some_ex, NZA]
  have ha' : k < l.length := by omega
  have i1 : 0 ≤ (k : Int) ∧ (k : Int) < l.length := by omega
  have i3 : InI64 ((k : Int) + 1) := by unfold InI64; omega
  rw [at_step ha'] at hat
  have hst := step_ret x 60 hdx l[k]
  have hdn : (stepS x l[k]).2 = 0 → deepB 60 (stepS x l[k]).1 = false := deep_step hdx
  simp only [VCA, simprocAttr, encL, MCA, TTA, LDA, wX_imv, wX_snap, wX_sok, ha', i1, i3]
  refine callV_of hst (by first | exact .inr rfl | exact .inl rfl) ?_
  generalize stepS x l[k] = Y at *
  obtain ⟨y, n⟩ := Y
  simp only [VCA, simprocAttr, encL, MCA, TTA, LDA, wX_imv, wX_snap, wX_sok, fill1]
  cases b0 : decide (n = 0) <;> simp only [VCA, simprocAttr, encL, MCA, TTA, LDA, b0, wX_imv, wX_snap, wX_sok]
  · have n0 : ¬ n = 0 := of_decide_eq_false b0
    rw [if_neg n0] at hat
    rw [hat]
    simp only [VCA, simprocAttr, encL, MCA, TTA, LDA, sc4_a, List.mapM_cons, List.mapM_nil, Option.pure_def, Option.bind_eq_bind, Option.bind_some, Option.map_some, some_ex, NZA]
    rw [rt0_cells]
  · have n0 : n = 0 := of_decide_eq_true b0
    rw [if_pos n0] at hat
    simp only [VCA, simprocAttr, encL, MCA, TTA, LDA, wX_imv, wX_snap, wX_sok, fill1, i3]
    exact backTo_of ((k + 1, y), _) ⟨ha', hdn n0, hat⟩ (by simp only []; omega) (ent_of _ [] rfl rfl (by simp only [VCA, simprocAttr, encL, MCA, TTA, LDA, wX_imv]))
theorem deep_at : ∀ (l : List ByteArray) (t : RT) (k : Nat), deepB 60 t = false → deepB 60 (atS t l k).1 = false
  | [], _, _, h => h
  | s :: r, t, k, h => by
    rw [atS]
    split
    · rename_i h0
      exact deep_at r _ _ (deep_step h h0)
    · rfl
theorem at_zero : ∀ (l : List ByteArray) (t : RT) (k : Nat), (atS t l k).2.1 = 0 → (atS t l k).2.2 = 0
  | [], _, _, _ => rfl
  | s :: r, t, k, h => by
    rw [atS] at h ⊢
    split
    · rename_i h0
      rw [if_pos h0] at h
      exact at_zero r _ _ h
    · rename_i h0
      rw [if_neg h0] at h
      exact absurd h h0
theorem ptrS : isPtr wS = true := rfl
theorem ptrX : isPtr wX = true := rfl
theorem eqpS : leqp false wS .nilp = .A (isPtr wS = true) (.bool false) := rfl
theorem eqpX : leqp false wX .nilp = .A (isPtr wX = true) (.bool false) := rfl

end Go.Proofs.YtgpeaibhhonikaaGreatDoor
