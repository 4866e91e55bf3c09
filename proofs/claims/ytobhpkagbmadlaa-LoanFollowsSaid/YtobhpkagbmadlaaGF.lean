/-
  Texts MirV, LgX, LgY, LgZ of this claim, put together.
-/
import Derived.Test.YtobhpkagbmadlaaGE
/-
  The rewriting rules of the plain logic in one theorem (printed by gen_vc.sh).
-/
set_option linter.unusedSimpArgs false
set_option linter.unusedVariables false
namespace Go.Lg
open Go Go.RowKit

theorem MC0 : type_of% @Go.Lg.MPath.c0 ∧
  type_of% @Go.Lg.MPath.c1 ∧
  type_of% @Go.Lg.MPath.call ∧
  type_of% @Go.Lg.MPath.snapc ∧
  type_of% @Go.Lg.MPath.sokc ∧
  type_of% @Go.Lg.MPath.onec ∧
  type_of% @Go.Lg.MPath.imvc ∧
  type_of% @Go.Lg.MPath.len ∧
  type_of% @Go.Lg.MOper.c0 ∧
  type_of% @Go.Lg.MOper.c1 ∧
  type_of% @Go.Lg.MOper.c2 ∧
  type_of% @Go.Lg.MOper.c3 ∧
  type_of% @Go.Lg.MOper.call ∧
  type_of% @Go.Lg.MOper.s2_2 ∧
  type_of% @Go.Lg.MOper.snapc ∧
  type_of% @Go.Lg.MOper.sokc ∧
  type_of% @Go.Lg.MOper.onec ∧
  type_of% @Go.Lg.MOper.imvc ∧
  type_of% @Go.Lg.MOper.len ∧
  type_of% @Go.Lg.MVal.c0 ∧
  type_of% @Go.Lg.MVal.c1 ∧
  type_of% @Go.Lg.MVal.c2 ∧
  type_of% @Go.Lg.MVal.c3 ∧
  type_of% @Go.Lg.MVal.c4 ∧
  type_of% @Go.Lg.MVal.c5 ∧
  type_of% @Go.Lg.MVal.c6 ∧
  type_of% @Go.Lg.MVal.c7 ∧
  type_of% @Go.Lg.MVal.c8 ∧
  type_of% @Go.Lg.MVal.c9 ∧
  type_of% @Go.Lg.MVal.c10 ∧
  type_of% @Go.Lg.MVal.c11 ∧
  type_of% @Go.Lg.MVal.c12 ∧
  type_of% @Go.Lg.MVal.c13 ∧
  type_of% @Go.Lg.MVal.c14 ∧
  type_of% @Go.Lg.MVal.c15 ∧
  type_of% @Go.Lg.MVal.call ∧
  type_of% @Go.Lg.MVal.s1_4 ∧
  type_of% @Go.Lg.MVal.s5_4 ∧
  type_of% @Go.Lg.MVal.s10_2 ∧
  type_of% @Go.Lg.MVal.s3_2 ∧
  type_of% @Go.Lg.MVal.s7_2 ∧
  type_of% @Go.Lg.MVal.snapc ∧
  type_of% @Go.Lg.MVal.sokc ∧
  type_of% @Go.Lg.MVal.onec ∧
  type_of% @Go.Lg.MVal.imvc ∧
  type_of% @Go.Lg.MVal.len ∧
  type_of% @Go.Lg.MInst.c0 ∧
  type_of% @Go.Lg.MInst.c1 ∧
  type_of% @Go.Lg.MInst.c2 ∧
  type_of% @Go.Lg.MInst.c3 ∧
  type_of% @Go.Lg.MInst.c4 ∧
  type_of% @Go.Lg.MInst.c5 ∧
  type_of% @Go.Lg.MInst.c6 ∧
  type_of% @Go.Lg.MInst.c7 ∧
  type_of% @Go.Lg.MInst.c8 ∧
  type_of% @Go.Lg.MInst.c9 ∧
  type_of% @Go.Lg.MInst.c10 ∧
  type_of% @Go.Lg.MInst.c11 ∧
  type_of% @Go.Lg.MInst.c12 ∧
  type_of% @Go.Lg.MInst.c13 :=
  ⟨@Go.Lg.MPath.c0, @Go.Lg.MPath.c1, @Go.Lg.MPath.call, @Go.Lg.MPath.snapc, @Go.Lg.MPath.sokc, @Go.Lg.MPath.onec, @Go.Lg.MPath.imvc, @Go.Lg.MPath.len, @Go.Lg.MOper.c0, @Go.Lg.MOper.c1, @Go.Lg.MOper.c2, @Go.Lg.MOper.c3, @Go.Lg.MOper.call, @Go.Lg.MOper.s2_2, @Go.Lg.MOper.snapc, @Go.Lg.MOper.sokc, @Go.Lg.MOper.onec, @Go.Lg.MOper.imvc, @Go.Lg.MOper.len, @Go.Lg.MVal.c0, @Go.Lg.MVal.c1, @Go.Lg.MVal.c2, @Go.Lg.MVal.c3, @Go.Lg.MVal.c4, @Go.Lg.MVal.c5, @Go.Lg.MVal.c6, @Go.Lg.MVal.c7, @Go.Lg.MVal.c8, @Go.Lg.MVal.c9, @Go.Lg.MVal.c10, @Go.Lg.MVal.c11, @Go.Lg.MVal.c12, @Go.Lg.MVal.c13, @Go.Lg.MVal.c14, @Go.Lg.MVal.c15, @Go.Lg.MVal.call, @Go.Lg.MVal.s1_4, @Go.Lg.MVal.s5_4, @Go.Lg.MVal.s10_2, @Go.Lg.MVal.s3_2, @Go.Lg.MVal.s7_2, @Go.Lg.MVal.snapc, @Go.Lg.MVal.sokc, @Go.Lg.MVal.onec, @Go.Lg.MVal.imvc, @Go.Lg.MVal.len, @Go.Lg.MInst.c0, @Go.Lg.MInst.c1, @Go.Lg.MInst.c2, @Go.Lg.MInst.c3, @Go.Lg.MInst.c4, @Go.Lg.MInst.c5, @Go.Lg.MInst.c6, @Go.Lg.MInst.c7, @Go.Lg.MInst.c8, @Go.Lg.MInst.c9, @Go.Lg.MInst.c10, @Go.Lg.MInst.c11, @Go.Lg.MInst.c12, @Go.Lg.MInst.c13⟩

theorem MC1 : type_of% @Go.Lg.MInst.c14 ∧
  type_of% @Go.Lg.MInst.c15 ∧
  type_of% @Go.Lg.MInst.c16 ∧
  type_of% @Go.Lg.MInst.c17 ∧
  type_of% @Go.Lg.MInst.c18 ∧
  type_of% @Go.Lg.MInst.c19 ∧
  type_of% @Go.Lg.MInst.c20 ∧
  type_of% @Go.Lg.MInst.c21 ∧
  type_of% @Go.Lg.MInst.call ∧
  type_of% @Go.Lg.MInst.s3_2 ∧
  type_of% @Go.Lg.MInst.s5_16 ∧
  type_of% @Go.Lg.MInst.s6_4 ∧
  type_of% @Go.Lg.MInst.s10_4 ∧
  type_of% @Go.Lg.MInst.s15_2 ∧
  type_of% @Go.Lg.MInst.s8_2 ∧
  type_of% @Go.Lg.MInst.s12_2 ∧
  type_of% @Go.Lg.MInst.snapc ∧
  type_of% @Go.Lg.MInst.sokc ∧
  type_of% @Go.Lg.MInst.onec ∧
  type_of% @Go.Lg.MInst.imvc ∧
  type_of% @Go.Lg.MInst.len ∧
  type_of% @Go.Lg.RT.c0 ∧
  type_of% @Go.Lg.RT.c1 ∧
  type_of% @Go.Lg.RT.c2 ∧
  type_of% @Go.Lg.RT.c3 ∧
  type_of% @Go.Lg.RT.call ∧
  type_of% @Go.Lg.RT.snapc ∧
  type_of% @Go.Lg.RT.sokc ∧
  type_of% @Go.Lg.RT.onec ∧
  type_of% @Go.Lg.RT.imvc ∧
  type_of% @Go.Lg.RT.len ∧
  type_of% @Go.Lg.MLocal.c0 ∧
  type_of% @Go.Lg.MLocal.c1 ∧
  type_of% @Go.Lg.MLocal.c2 ∧
  type_of% @Go.Lg.MLocal.c3 ∧
  type_of% @Go.Lg.MLocal.c4 ∧
  type_of% @Go.Lg.MLocal.c5 ∧
  type_of% @Go.Lg.MLocal.call ∧
  type_of% @Go.Lg.MLocal.s1_4 ∧
  type_of% @Go.Lg.MLocal.snapc ∧
  type_of% @Go.Lg.MLocal.sokc ∧
  type_of% @Go.Lg.MLocal.onec ∧
  type_of% @Go.Lg.MLocal.imvc ∧
  type_of% @Go.Lg.MLocal.len ∧
  type_of% @Go.Lg.Mir.c0 ∧
  type_of% @Go.Lg.Mir.c1 ∧
  type_of% @Go.Lg.Mir.c2 ∧
  type_of% @Go.Lg.Mir.c3 ∧
  type_of% @Go.Lg.Mir.c4 ∧
  type_of% @Go.Lg.Mir.c5 ∧
  type_of% @Go.Lg.Mir.call ∧
  type_of% @Go.Lg.Mir.snapc ∧
  type_of% @Go.Lg.Mir.sokc ∧
  type_of% @Go.Lg.Mir.onec ∧
  type_of% @Go.Lg.Mir.imvc ∧
  type_of% @Go.Lg.Mir.len ∧
  type_of% @Go.Lg.ld_cI ∧
  type_of% @Go.Lg.ld_cB ∧
  type_of% @Go.Lg.ld_cS ∧
  type_of% @Go.Lg.ld_one :=
  ⟨@Go.Lg.MInst.c14, @Go.Lg.MInst.c15, @Go.Lg.MInst.c16, @Go.Lg.MInst.c17, @Go.Lg.MInst.c18, @Go.Lg.MInst.c19, @Go.Lg.MInst.c20, @Go.Lg.MInst.c21, @Go.Lg.MInst.call, @Go.Lg.MInst.s3_2, @Go.Lg.MInst.s5_16, @Go.Lg.MInst.s6_4, @Go.Lg.MInst.s10_4, @Go.Lg.MInst.s15_2, @Go.Lg.MInst.s8_2, @Go.Lg.MInst.s12_2, @Go.Lg.MInst.snapc, @Go.Lg.MInst.sokc, @Go.Lg.MInst.onec, @Go.Lg.MInst.imvc, @Go.Lg.MInst.len, @Go.Lg.RT.c0, @Go.Lg.RT.c1, @Go.Lg.RT.c2, @Go.Lg.RT.c3, @Go.Lg.RT.call, @Go.Lg.RT.snapc, @Go.Lg.RT.sokc, @Go.Lg.RT.onec, @Go.Lg.RT.imvc, @Go.Lg.RT.len, @Go.Lg.MLocal.c0, @Go.Lg.MLocal.c1, @Go.Lg.MLocal.c2, @Go.Lg.MLocal.c3, @Go.Lg.MLocal.c4, @Go.Lg.MLocal.c5, @Go.Lg.MLocal.call, @Go.Lg.MLocal.s1_4, @Go.Lg.MLocal.snapc, @Go.Lg.MLocal.sokc, @Go.Lg.MLocal.onec, @Go.Lg.MLocal.imvc, @Go.Lg.MLocal.len, @Go.Lg.Mir.c0, @Go.Lg.Mir.c1, @Go.Lg.Mir.c2, @Go.Lg.Mir.c3, @Go.Lg.Mir.c4, @Go.Lg.Mir.c5, @Go.Lg.Mir.call, @Go.Lg.Mir.snapc, @Go.Lg.Mir.sokc, @Go.Lg.Mir.onec, @Go.Lg.Mir.imvc, @Go.Lg.Mir.len, @Go.Lg.ld_cI, @Go.Lg.ld_cB, @Go.Lg.ld_cS, @Go.Lg.ld_one⟩

theorem MC2 : type_of% @Go.Lg.ld_cI0 ∧
  type_of% @Go.Lg.MInst.ld ∧
  type_of% @Go.Lg.MInst.ld0 ∧
  type_of% @Go.Lg.MLocal.ld ∧
  type_of% @Go.Lg.MLocal.ld0 ∧
  type_of% @Go.Lg.MOper.ld ∧
  type_of% @Go.Lg.MOper.ld0 ∧
  type_of% @Go.Lg.RT.ld ∧
  type_of% @Go.Lg.RT.ld0 ∧
  type_of% @Go.Lg.MPath.ld ∧
  type_of% @Go.Lg.MPath.ld0 ∧
  type_of% @Go.Lg.setCells_all ∧
  type_of% @Go.Lg.encL.eq_1 ∧
  type_of% @Go.Lg.li_len ∧
  type_of% @Go.Lg.li_snap ∧
  type_of% @Go.Lg.li_sok ∧
  type_of% @Go.Lg.li_one ∧
  type_of% @Go.Lg.li_imv ∧
  type_of% @Go.Lg.li_flat ∧
  type_of% @Go.Lg.li_take ∧
  type_of% @Go.Lg.li_set ∧
  type_of% @Go.Lg.li_app ∧
  type_of% @Go.Lg.li_mk ∧
  type_of% @Go.Lg.lb_len ∧
  type_of% @Go.Lg.lb_snap ∧
  type_of% @Go.Lg.lb_sok ∧
  type_of% @Go.Lg.lb_one ∧
  type_of% @Go.Lg.lb_imv ∧
  type_of% @Go.Lg.lb_flat ∧
  type_of% @Go.Lg.lb_take ∧
  type_of% @Go.Lg.lb_set ∧
  type_of% @Go.Lg.lb_app ∧
  type_of% @Go.Lg.lb_mk ∧
  type_of% @Go.Lg.ls_len ∧
  type_of% @Go.Lg.ls_snap ∧
  type_of% @Go.Lg.ls_sok ∧
  type_of% @Go.Lg.ls_one ∧
  type_of% @Go.Lg.ls_imv ∧
  type_of% @Go.Lg.ls_flat ∧
  type_of% @Go.Lg.ls_take ∧
  type_of% @Go.Lg.ls_set ∧
  type_of% @Go.Lg.ls_app ∧
  type_of% @List.mem_singleton.{0} ∧
  type_of% @List.length_replicate.{0} ∧
  type_of% @List.length_set.{0} ∧
  type_of% @List.length_append.{0} ∧
  type_of% @List.length_map.{0,0} ∧
  type_of% @List.length_range :=
  ⟨@Go.Lg.ld_cI0, @Go.Lg.MInst.ld, @Go.Lg.MInst.ld0, @Go.Lg.MLocal.ld, @Go.Lg.MLocal.ld0, @Go.Lg.MOper.ld, @Go.Lg.MOper.ld0, @Go.Lg.RT.ld, @Go.Lg.RT.ld0, @Go.Lg.MPath.ld, @Go.Lg.MPath.ld0, @Go.Lg.setCells_all, @Go.Lg.encL.eq_1, @Go.Lg.li_len, @Go.Lg.li_snap, @Go.Lg.li_sok, @Go.Lg.li_one, @Go.Lg.li_imv, @Go.Lg.li_flat, @Go.Lg.li_take, @Go.Lg.li_set, @Go.Lg.li_app, @Go.Lg.li_mk, @Go.Lg.lb_len, @Go.Lg.lb_snap, @Go.Lg.lb_sok, @Go.Lg.lb_one, @Go.Lg.lb_imv, @Go.Lg.lb_flat, @Go.Lg.lb_take, @Go.Lg.lb_set, @Go.Lg.lb_app, @Go.Lg.lb_mk, @Go.Lg.ls_len, @Go.Lg.ls_snap, @Go.Lg.ls_sok, @Go.Lg.ls_one, @Go.Lg.ls_imv, @Go.Lg.ls_flat, @Go.Lg.ls_take, @Go.Lg.ls_set, @Go.Lg.ls_app, @List.mem_singleton.{0}, @List.length_replicate.{0}, @List.length_set.{0}, @List.length_append.{0}, @List.length_map.{0,0}, @List.length_range⟩

end Go.Lg

/-
  Slices of slices of numbers or bools of the call's own.
-/
set_option linter.unusedSimpArgs false
set_option linter.unusedVariables false
namespace Go.Lg
open Go Go.RowKit

section
variable {α : Type} (f : α → List V)

def rsI (R : List (List α)) : List (Nat × List V) := R.map fun r => (r.length, r.flatMap f)
/-- Slices of slices that never turn. -/
def cL (r : List α) : List V := [encL f r]

theorem rsI_len (R : List (List α)) : (rsI f R).length = R.length := by simp [rsI]
theorem rsI_get {R : List (List α)} {t : Nat} (h : t < R.length) : (rsI f R)[t]? = some (R[t].length, R[t].flatMap f) := by simp [rsI, h]
theorem rsI_at {R : List (List α)} {t : Nat} (h : t < (rsI f R).length) : (rsI f R)[t] = ((R[t]'(by simpa [rsI] using h)).length, (R[t]'(by simpa [rsI] using h)).flatMap f) := by simp [rsI]
theorem cL_len (r : List α) : (cL f r).length = 1 := rfl

variable {f} {H : Heap} {U : Key → Prop} {K : (Key → Prop) → Prop} {esz : Nat}

theorem rowsAt_of {d : Nat} {R : List (List α)} {k : Key} {g : Nat} {cells : List V} (hk : H k = some (.row g 1 cells)) (hl : cells.length = R.length) (hU : ¬ U k) (hP : k.1 < PK)
    (κ : Nat → Option Key) (hrow : ∀ (i : Nat) (h : i < R.length), rowAt H esz (fun k' => k' = k ∨ U k') κ i (R[i].length, R[i].flatMap f) cells[i]?) (hinj : ∀ i j k, κ i = some k → κ j = some k → i = j)
    (hout : ∀ i, R.length ≤ i → κ i = none) (hK : K fun k' => (k' = k ∨ ∃ i, κ i = some k') ∨ U k') : rowsAt H esz (rsI f R) U K (.msl k g 0 R.length) := by
  simp only [rowsAt, hk]
  refine ⟨⟨by trivial, by trivial, (rsI_len f R).symm, by trivial, by rw [rsI_len]; exact hl, hU, hP⟩, κ, fun i r hr => ?_, hinj, fun i hi => hout i (by rw [rsI_len] at hi; exact hi), hK⟩
  have hi : i < R.length := by
    have := (List.getElem?_eq_some_iff.1 hr).1
    rwa [rsI_len] at this
  rw [rsI_get f hi] at hr
  cases hr
  exact hrow i hi

/-- All rows empty, just made. -/
theorem rowsAt_mk {n : Nat} {k : Key} {g : Nat} (hk : H k = some (.row g 1 (List.replicate n [V.e0]).flatten)) (hU : ¬ U k) (hP : k.1 < PK) (hK : K fun k' => (k' = k ∨ ∃ i : Nat, (none : Option Key) = some k') ∨ U k') :
    rowsAt H esz (rsI f (List.replicate n [])) U K (.msl k g 0 n) := by
  have hfl : (List.replicate n [V.e0]).flatten = List.replicate n V.e0 := by
    rw [List.flatten_replicate_singleton]
  rw [hfl] at hk
  have := rowsAt_of (d := 0) (f := f) (esz := esz) (K := K) (R := List.replicate n []) hk (by simp) hU hP (fun _ => none) (fun i h => by
    have h' : i < n := by simpa using h
    simp [List.getElem?_replicate, h', rowAt]) (fun i j k h => by cases h) (fun _ _ => rfl) hK
  simpa using this

/-- One row turned. -/
theorem rowsAt_set {n : Nat} {d t g : Nat} {R : List (List α)} {r : List α} (ht : t < R.length) (hk : H (2199023255552 + d, 0) = some (.row 0 1 (setCells (rowV d 0 (rsI f R)) t [.msl (4398046511104 + d, t) g 0 r.length])))
    (hr : H (4398046511104 + d, t) = some (.row g esz (r.flatMap f))) (ho : ∀ (i : Nat) (h : i < R.length), i ≠ t → H (4398046511104 + d, i) = some (.row 0 esz (R[i].flatMap f)))
    (him : ∀ r : List α, (r.flatMap f).all (imV 8) = true) (hd : d < 1000000) (hn : n = R.length) (hU : ¬ U (2199023255552 + d, 0)) (hUi : ∀ i, i < R.length → ¬ U (4398046511104 + d, i))
    (hK : K fun k' => (k' = (2199023255552 + d, 0) ∨ ∃ i, (if i < R.length then some ((4398046511104 + d, i) : Key) else none) = some k') ∨ U k') : rowsAt H esz (rsI f (R.set t r)) U K (.msl (2199023255552 + d, 0) 0 0 n) := by
  subst hn
  have hlen : (R.set t r).length = R.length := by simp
  have hrl : (rowV d 0 (rsI f R)).length = R.length := by rw [rowV_len, rsI_len]
  have hsl : (setCells (rowV d 0 (rsI f R)) t [V.msl (4398046511104 + d, t) g 0 r.length]).length = R.length := by rw [setCells_length (by rw [hrl]; simp; omega), hrl]
  have := rowsAt_of (d := d) (f := f) (esz := esz) (K := K) (U := U) (R := R.set t r) hk (by rw [hlen]; exact hsl) hU (by show _ < PK; unfold PK; omega) (fun i => if i < R.length then some ((4398046511104 + d, i) : Key) else none) ?_ ?_ ?_ ?_
  · rw [hlen] at this; exact this
  · intro i hi
    have hi' : i < R.length := by rw [hlen] at hi; exact hi
    have hnU : ¬ (((4398046511104 + d, i) : Key) = (2199023255552 + d, 0) ∨ U (4398046511104 + d, i)) := by
      rintro (e | e)
      · injection e with e; omega
      · exact hUi i hi' e
    have hP : ((4398046511104 + d, i) : Key).1 < PK := by show _ < PK; unfold PK; omega
    by_cases e : i = t
    · subst e
      have hc : (setCells (rowV d 0 (rsI f R)) i [V.msl (4398046511104 + d, i) g 0 r.length])[i]? = some (.msl (4398046511104 + d, i) g 0 r.length) := by
        rw [setCells, List.getElem?_append_right (by rw [List.length_take]; omega), List.length_take, Nat.min_eq_left (by omega), Nat.sub_self]; rfl
      rw [hc]
      have e2 : (R.set i r)[i] = r := by simp
      rw [e2]
      exact ⟨_, hr, rfl, rfl, rfl, him r, hnU, hP, by simp [hi']⟩
    · have hc : (setCells (rowV d 0 (rsI f R)) t [V.msl (4398046511104 + d, t) g 0 r.length])[i]? = some (.msl (4398046511104 + d, i) 0 0 (R[i]).length) := by
        have h0 := rowV_at d (rsI f R) 0 i (by rw [rsI_len]; exact hi')
        rw [Nat.zero_add, rsI_at] at h0
        rw [← h0, setCells]
        rcases Nat.lt_or_ge i t with h | h
        · rw [List.getElem?_append_left (by rw [List.length_take]; omega), List.getElem?_take, if_pos h]
        · rw [List.getElem?_append_right (by rw [List.length_take]; omega), List.length_take, Nat.min_eq_left (by omega), List.getElem?_append_right (by simp; omega), List.getElem?_drop]
          congr 1
          simp
          omega
      rw [hc]
      have e2 : (R.set t r)[i] = R[i] := by simp [Ne.symm e]
      rw [e2]
      exact ⟨_, ho i hi' e, rfl, rfl, rfl, him _, hnU, hP, by simp [hi']⟩
  · intro i j k h1 h2
    by_cases a : i < R.length
    · by_cases b : j < R.length
      · simp only [a, b, if_true, Option.some.injEq] at h1 h2
        rw [← h2] at h1
        injection h1
      · simp [b] at h2
    · simp [a] at h1
  · intro i hi
    rw [hlen] at hi
    rw [if_neg (by omega)]
  · exact hK

/-- As they were. -/
theorem rowsAt_same {n : Nat} {d : Nat} {R : List (List α)} (hk : H (2199023255552 + d, 0) = some (.row 0 1 (rowV d 0 (rsI f R)))) (ho : ∀ (i : Nat) (h : i < R.length), H (4398046511104 + d, i) = some (.row 0 esz (R[i].flatMap f)))
    (him : ∀ r : List α, (r.flatMap f).all (imV 8) = true) (hd : d < 1000000) (hn : n = R.length) (hU : ¬ U (2199023255552 + d, 0)) (hUi : ∀ i, i < R.length → ¬ U (4398046511104 + d, i))
    (hK : K fun k' => (k' = (2199023255552 + d, 0) ∨ ∃ i, (if i < R.length then some ((4398046511104 + d, i) : Key) else none) = some k') ∨ U k') : rowsAt H esz (rsI f R) U K (.msl (2199023255552 + d, 0) 0 0 n) := by
  subst hn
  refine rowsAt_of (d := d) hk (by rw [rowV_len, rsI_len]) hU (by show _ < PK; unfold PK; omega) (fun i => if i < R.length then some ((4398046511104 + d, i) : Key) else none) ?_ ?_ ?_ hK
  · intro i hi
    have h0 := rowV_at d (rsI f R) 0 i (by rw [rsI_len]; exact hi)
    rw [Nat.zero_add, rsI_at] at h0
    rw [h0]
    refine ⟨_, ho i hi, rfl, rfl, rfl, him _, ?_, (by show _ < PK; unfold PK; omega), by simp [hi]⟩
    rintro (e | e)
    · injection e with e; omega
    · exact hUi i hi e
  · intro i j k h1 h2
    by_cases a : i < R.length
    · by_cases b : j < R.length
      · simp only [a, b, if_true, Option.some.injEq] at h1 h2
        rw [← h2] at h1
        injection h1
      · simp [b] at h2
    · simp [a] at h1
  · intro i hi
    rw [if_neg (by omega)]

/-- The rows of a state told slot by slot. -/
theorem rowV_snap {d j : Nat} {R : List (List α)} (ho : ∀ (i : Nat) (h : i < R.length), H (4398046511104 + d, i) = some (.row 0 1 (R[i].flatMap f))) (hf : ∀ x, (f x).length = 1) (hs : ∀ r : List α, (r.flatMap f).map (snap H j) = r.flatMap f) :
    (rowV d 0 (rsI f R)).map (snap H (j + 1)) = R.flatMap (cL f) := by
  apply List.ext_getElem?
  intro i
  rcases Nat.lt_or_ge i R.length with h | h
  · have h0 := rowV_at d (rsI f R) 0 i (by rw [rsI_len]; exact h)
    rw [Nat.zero_add, rsI_at] at h0
    rw [List.getElem?_map, h0, Option.map_some]
    have hl : (R[i].flatMap f).length = R[i].length := by rw [flat_len hf, Nat.mul_one]
    simp only [snap, ho i h]
    rw [if_pos ⟨trivial, by omega⟩, List.drop_zero, List.take_of_length_le (by omega), hs]
    have := flat_cell (cL_len f) R i 0 h (by decide)
    rw [Nat.mul_one, Nat.add_zero] at this
    rw [this]; rfl
  · rw [List.getElem?_eq_none (by rw [List.length_map, rowV_len, rsI_len]; exact h), List.getElem?_eq_none (by rw [flat_len (cL_len f)]; omega)]
end

end Go.Lg

/-
  Empty slices among arguments: as any slices.
-/
set_option linter.unusedSimpArgs false
set_option linter.unusedVariables false
namespace Go.Lg
open Go Go.RowKit

def nz : Nat → V → V
  | 0, v => v
  | _ + 1, .e0 => .sl 0 []
  | d + 1, .agg cs => .agg (cs.map (nz d))
  | d + 1, .tup cs => .tup (cs.map (nz d))
  | d + 1, .sl n cs => .sl n (cs.map (nz d))
  | d + 1, .ip cs o => .ip (cs.map (nz d)) o
  | d + 1, .ifc t v => .ifc t (nz d v)
  | d + 1, .fn f cs => .fn f (cs.map (nz d))
  | _ + 1, v => v

theorem RepI.nz : ∀ (d : Nat) {imm : Nat → Prop} {w : World} {u : Value} {x : V}, RepI imm w u x → RepI imm w u (nz d x) := by
  intro d
  induction d with
  | zero => intro imm w u x h; exact h
  | succ d ih =>
    intro imm w u x h
    have maps : ∀ (cs : List V) (j : Nat) (c : V), (cs.map (Go.Lg.nz d))[j]? = some c → ∃ c0, cs[j]? = some c0 ∧ Go.Lg.nz d c0 = c := by
      intro cs j c hc
      simpa only [List.getElem?_map, Option.map_eq_some_iff] using hc
    cases h with
    | e0 A => exact .sl0 _ _
    | agg vs cs hs hr => exact .agg vs _ (by simpa using hs) fun j v c hv hc => by obtain ⟨c0, h0, rfl⟩ := maps cs j c hc; exact ih (hr j v c0 hv h0)
    | tup vs cs hs hr => exact .tup vs _ (by simpa using hs) fun j v c hv hc => by obtain ⟨c0, h0, rfl⟩ := maps cs j c hc; exact ih (hr j v c0 hv h0)
    | fn f vs cs hs hr => exact .fn f vs _ (by simpa using hs) fun j v c hv hc => by obtain ⟨c0, h0, rfl⟩ := maps cs j c hc; exact ih (hr j v c0 hv h0)
    | sl b off n c us T fz cs h1 h2 h3 h4 h5 => exact .sl b off n c us T fz _ h1 h2 (by simpa using h3) h4 fun j v c hv hc => by obtain ⟨c0, h0, rfl⟩ := maps cs j c hc; exact ih (h5 j v c0 hv h0)
    | ip b o off us T fz cs h1 h2 h3 h4 => exact .ip b o off us T fz _ h1 h2 (by simpa using h3) fun j v c hv hc => by obtain ⟨c0, h0, rfl⟩ := maps cs j c hc; exact ih (h4 j v c0 hv h0)
    | ifc t v x h => exact .ifc t v _ (ih h)
    | int => exact .int _ _
    | bool => exact .bool _
    | str => exact .str _
    | sl0 A c => exact .sl0 _ _
    | nilp => exact .nilp
    | nili => exact .nili
    | nilf => exact .nilf
    | nilm => exact .nilm
    | im b k ents es h1 h2 h3 h4 h5 => exact .im b k ents es h1 h2 h3 h4 h5
    | junk v => exact .junk _

theorem PRet.nz {P : Program} {f : FuncId} {args args' : List V} {r : V} (d : Nat) (he : args.map (nz d) = args') (h : PRet P f args' r) : PRet P f args r := by
  obtain ⟨hen, hc⟩ := h
  refine ⟨hen, fun imm w vs h1 h2 h3 => hc imm w vs h1 (by rw [← he]; simpa using h2) fun j u c hu hcj => ?_⟩
  rw [← he, List.getElem?_map, Option.map_eq_some_iff] at hcj
  obtain ⟨c0, h0, rfl⟩ := hcj
  exact (h3 j u c0 hu h0).nz d

end Go.Lg

/-
  Pairs of numbers as cells; rows of a slice of slices that are put in, or written into; results that may be nil slices.
-/
set_option linter.unusedSimpArgs false
set_option linter.unusedVariables false
namespace Go.Lg
open Go Go.RowKit

section
variable {α : Type} {f : α → List V} {H : Heap} {U : Key → Prop} {K : (Key → Prop) → Prop} {esz : Nat}

theorem rowsAt_nil (hK : K U) : rowsAt H esz (rsI f []) U K .e0 := ⟨rfl, hK⟩
/-- One row is put behind. -/
theorem rowsAt_snoc {n d g g2 : Nat} {k k' : Key} {R : List (List α)} {r : List α} (hk : H k = some (.row g 1 (rowV d 0 (rsI f R) ++ [.msl k' g2 0 r.length])))
    (hr : H k' = some (.row g2 esz (r.flatMap f))) (ho : ∀ (i : Nat) (h : i < R.length), H (4398046511104 + d, i) = some (.row 0 esz (R[i].flatMap f))) (hkd : k.1 < 4398046511104) (hk' : k'.1 < 4398046511104) (hkk : k' ≠ k)
    (him : ∀ r : List α, (r.flatMap f).all (imV 8) = true) (hd : d < 1000000) (hn : n = R.length + 1) (hU : ¬ U k) (hUi : ∀ i, i < R.length → ¬ U (4398046511104 + d, i)) (hUk : ¬ U k')
    (hK : K fun k'' => (k'' = k ∨ ∃ i, (if i = R.length then some k' else if i < R.length then some ((4398046511104 + d, i) : Key) else none) = some k'') ∨ U k'') : rowsAt H esz (rsI f (R ++ [r])) U K (.msl k g 0 n) := by
  subst hn
  have hlen : (R ++ [r]).length = R.length + 1 := by simp
  have hrl : (rowV d 0 (rsI f R)).length = R.length := by rw [rowV_len, rsI_len]
  have := rowsAt_of (d := d) (f := f) (esz := esz) (K := K) (U := U) (R := R ++ [r]) hk (by rw [hlen, List.length_append, hrl]; rfl) hU (by unfold PK; omega) (fun i => if i = R.length then some k' else if i < R.length then some ((4398046511104 + d, i) : Key) else none) ?_ ?_ ?_ ?_
  · rw [hlen] at this; exact this
  · intro i hi
    rw [hlen] at hi
    by_cases e : i = R.length
    · subst e
      have hc : (rowV d 0 (rsI f R) ++ [V.msl k' g2 0 r.length])[R.length]? = some (.msl k' g2 0 r.length) := by
        rw [List.getElem?_append_right (by omega), hrl, Nat.sub_self]; rfl
      rw [hc]
      have e2 : (R ++ [r])[R.length] = r := by simp
      rw [e2]
      refine ⟨_, hr, rfl, rfl, rfl, him r, ?_, (by unfold PK; omega), by simp⟩
      rintro (e | e)
      · exact hkk e
      · exact hUk e
    · have hi' : i < R.length := by omega
      have hnU : ¬ (((4398046511104 + d, i) : Key) = k ∨ U (4398046511104 + d, i)) := by
        rintro (e | e)
        · rw [← e] at hkd; simp only [] at hkd; omega
        · exact hUi i hi' e
      have hP : ((4398046511104 + d, i) : Key).1 < PK := by show _ < PK; unfold PK; omega
      have hc : (rowV d 0 (rsI f R) ++ [V.msl k' g2 0 r.length])[i]? = some (.msl (4398046511104 + d, i) 0 0 (R[i]).length) := by
        have h0 := rowV_at d (rsI f R) 0 i (by rw [rsI_len]; exact hi')
        rw [Nat.zero_add, rsI_at] at h0
        rw [← h0, List.getElem?_append_left (by omega)]
      rw [hc]
      have e2 : (R ++ [r])[i] = R[i] := by rw [List.getElem_append_left hi']
      rw [e2]
      exact ⟨_, ho i hi', rfl, rfl, rfl, him _, hnU, hP, by simp [hi', e]⟩
  · intro i j k0 h1 h2
    try simp only [] at h1 h2
    split at h1 <;> split at h2
    · rename_i a b; rw [a, b]
    · cases h1
      split at h2
      · cases h2; simp only [] at hk'; omega
      · cases h2
    · cases h2
      split at h1
      · cases h1; simp only [] at hk'; omega
      · cases h1
    · split at h1
      · split at h2
        · cases h1; cases h2; rfl
        · cases h2
      · cases h1
  · intro i hi
    rw [hlen] at hi
    try simp only []
    rw [if_neg (by omega), if_neg (by omega)]
  · exact hK

/-- One row is written into. -/
theorem rowsAt_upd {n : Nat} {d t : Nat} {R : List (List α)} {r : List α} (ht : t < R.length) (hrl : r.length = R[t].length) (hk : H (2199023255552 + d, 0) = some (.row 0 1 (rowV d 0 (rsI f R))))
    (hr : H (4398046511104 + d, t) = some (.row 0 esz (r.flatMap f))) (ho : ∀ (i : Nat) (h : i < R.length), i ≠ t → H (4398046511104 + d, i) = some (.row 0 esz (R[i].flatMap f)))
    (him : ∀ r : List α, (r.flatMap f).all (imV 8) = true) (hd : d < 1000000) (hn : n = R.length) (hU : ¬ U (2199023255552 + d, 0)) (hUi : ∀ i, i < R.length → ¬ U (4398046511104 + d, i))
    (hK : K fun k' => (k' = (2199023255552 + d, 0) ∨ ∃ i, (if i < R.length then some ((4398046511104 + d, i) : Key) else none) = some k') ∨ U k') : rowsAt H esz (rsI f (R.set t r)) U K (.msl (2199023255552 + d, 0) 0 0 n) := by
  have hlen : (R.set t r).length = R.length := by simp
  have hrs : rowV d 0 (rsI f R) = rowV d 0 (rsI f (R.set t r)) := by
    apply List.ext_getElem?
    intro i
    rcases Nat.lt_or_ge i R.length with h | h
    · have h1 := rowV_at d (rsI f R) 0 i (by rw [rsI_len]; exact h)
      have h2 := rowV_at d (rsI f (R.set t r)) 0 i (by rw [rsI_len, hlen]; exact h)
      rw [h1, h2, rsI_at, rsI_at]
      by_cases e : i = t
      · subst e; simp [hrl]
      · simp [Ne.symm e]
    · rw [List.getElem?_eq_none (by rw [rowV_len, rsI_len]; exact h), List.getElem?_eq_none (by rw [rowV_len, rsI_len, hlen]; exact h)]
  rw [hrs] at hk
  refine rowsAt_same (f := f) (d := d) (esz := esz) (R := R.set t r) hk (fun i h => ?_) him hd (by rw [hlen]; exact hn) hU (fun i h => hUi i (by rw [hlen] at h; exact h)) (by rw [hlen]; exact hK)
  have h' : i < R.length := by rw [hlen] at h; exact h
  by_cases e : i = t
  · subst e; simpa using hr
  · rw [ho i h' e]; simp [Ne.symm e]
end

section
variable {P : Program}
end
end Go.Lg
