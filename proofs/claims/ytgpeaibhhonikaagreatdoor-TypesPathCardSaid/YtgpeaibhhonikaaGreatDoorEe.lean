/-
  The reckoning: operations as boxes; what each does is what the plain logic says.
-/
import Derived.Test.YtgpeaibhhonikaaGreatDoorEd
set_option linter.unusedSimpArgs false
set_option linter.unusedVariables false
namespace Go.Lg
open Go Go.RowKit

inductive Ro where
  | err (n : Nat)
  | ok (t : Tq V) (h : Hq)
inductive Rc where
  | err (n : Nat)
  | ok (v : V) (h : Hq)
abbrev Cl := FuncId → List V → Hq → Rc
structure Ob where
  run : Cl → Tq V → Hq → Ro
noncomputable def obErr : Ob := ⟨fun _ _ _ => (.err 0)⟩
noncomputable def obA (d : Db) (F : Tq V → Hq → Option V) : Ob := ⟨fun _ t h => Option.rec (motive := fun _ => Ro) (.err 0) (fun v => .ok (d.s v t) h) (F t h)⟩
noncomputable def obD (d : Db) (F : Tq V → Hq → Option Hq) : Ob := ⟨fun _ t h => Option.rec (motive := fun _ => Ro) (.err 0) (fun h' => .ok (d.s .junk t) h') (F t h)⟩
noncomputable def newR (d : Db) (mk : Key → V) (s : Nat) (t : Tq V) (h : Hq) (o : LObj) : Ro := Option.rec (motive := fun _ => Ro) (.err 0) (fun p => Prod.rec (motive := fun _ => Ro) (fun h' n => .ok (d.s (mk (s, n)) t) h') p) (newH s o h)
noncomputable def obC (d : Db) (s : Nat) (mk : Key → V) (F : Tq V → Hq → Option LObj) : Ob := ⟨fun _ t h => Option.rec (motive := fun _ => Ro) (.err 0) (fun o => newR d mk s t h o) (F t h)⟩

section
variable {P : Program} {o : Nat → V} {t t' : Tq V} {h h' : Hq} {K : St → Prop} {site : Nat} {d : Option Nat}

theorem newR_ok {mk : Key → V} {ob : LObj} (hd : dlo d = true) (e : newR (dbOf d) mk site t h ob = .ok t' h') (hK : K (denq o t' h')) :
    K (St.put ⟨tmQ o t, hupd h.H (site, h.c site) ob, cupd h.c site⟩ d (mk (site, h.c site))) := by
  unfold newR at e
  cases hn : newH site ob h with
  | none => rw [hn] at e; cases e
  | some p =>
    obtain ⟨h1, n⟩ := p
    rw [hn] at e
    have e : Ro.ok ((dbOf d).s (mk (site, n)) t) h1 = .ok t' h' := e
    cases e
    obtain ⟨rfl, e1, e2⟩ := newH_ok hn
    rw [denq_put hd, e1, e2] at hK
    exact hK

/-- A box that does what the plain logic says of an operation. -/
def ObOk (s : Nat) (d : Option Nat) (op : IOp) (b : Ob) : Prop := ∀ (P : Program) (cl : Cl) (o : Nat → V) (t : Tq V) (h : Hq) (t' : Tq V) (h' : Hq), b.run cl t h = .ok t' h' → ∀ K : St → Prop, K (denq o t' h') → vres P (denq o t h) s d K (lop op (tmQ o t) h.H)

theorem obErr_ok {s : Nat} {op : IOp} : ObOk s d op obErr := fun _ _ _ _ _ _ _ e => by cases e
theorem obA_ok {s : Nat} {op : IOp} {F : Tq V → Hq → Option V} (hd : dlo d = true) (hF : ∀ o t h v, F t h = some v → Ps (lop op (tmQ o t) h.H) v) : ObOk s d op (obA (dbOf d) F) := by
  intro P cl o t h t' h' e K hK
  have e : Option.rec (motive := fun _ => Ro) (.err 0) (fun v => .ok ((dbOf d).s v t) h) (F t h) = .ok t' h' := e
  cases hf : F t h with
  | none => rw [hf] at e; cases e
  | some v =>
    rw [hf] at e
    have e : Ro.ok ((dbOf d).s v t) h = .ok t' h' := e
    cases e
    obtain ⟨pre, h1, h2⟩ := hF o _ _ _ hf
    rw [h1]
    rw [denq_put hd] at hK
    exact ⟨h2, hK⟩
theorem obD_ok {s : Nat} {op : IOp} {F : Tq V → Hq → Option Hq} (hd : dlo d = true) (hF : ∀ o t h h', F t h = some h' → ∃ pre : Prop, ∃ H', lop op (tmQ o t) h.H = .D pre .junk H' ∧ pre ∧ h'.H = H' ∧ h'.c = h.c) : ObOk s d op (obD (dbOf d) F) := by
  intro P cl o t h t' h' e K hK
  have e : Option.rec (motive := fun _ => Ro) (.err 0) (fun h' => .ok ((dbOf d).s .junk t) h') (F t h) = .ok t' h' := e
  cases hf : F t h with
  | none => rw [hf] at e; cases e
  | some h1 =>
    rw [hf] at e
    have e : Ro.ok ((dbOf d).s .junk t) h1 = .ok t' h' := e
    cases e
    obtain ⟨pre, H', h1, h2, h3, h4⟩ := hF o _ _ _ hf
    rw [h1]
    rw [denq_put hd, h3, h4] at hK
    exact ⟨h2, hK⟩
theorem obC_ok {s : Nat} {op : IOp} {mk : Key → V} {F : Tq V → Hq → Option LObj} (hd : dlo d = true) (hF : ∀ o t h ob, F t h = some ob → ∃ pre : Prop, lop op (tmQ o t) h.H = .C pre ob mk ∧ pre) : ObOk s d op (obC (dbOf d) s mk F) := by
  intro P cl o t h t' h' e K hK
  have e : Option.rec (motive := fun _ => Ro) (.err 0) (fun ob => newR (dbOf d) mk s t h ob) (F t h) = .ok t' h' := e
  cases hf : F t h with
  | none => rw [hf] at e; cases e
  | some ob =>
    rw [hf] at e
    obtain ⟨pre, h1, h2⟩ := hF o _ _ _ hf
    rw [h1]
    exact ⟨h2, newR_ok hd e hK⟩
end

/-! The slow road: an operation with its operands put in. -/
noncomputable def jtm : Nat → V := fun _ => .junk
noncomputable def slR (d : Db) (s : Nat) (t : Tq V) (h : Hq) (r : Option ERes) : Ro := match r with
  | some (.A v) => Option.rec (motive := fun _ => Ro) (.err 0) (fun v => .ok (d.s v t) h) (frc v)
  | some (.C o mk) => newR d mk s t h o
  | some (.D v k o) => match setH k o h with
    | some h' => .ok (d.s v t) h'
    | none => (.err 0)
  | _ => (.err 0)
noncomputable def obS1 (mk : Rd → IOp) (s : Nat) (d : Db) (x : Rb) : Ob := ⟨fun _ t h => slR d s t h (evOp (mk (.con (x.g t))) jtm h.H)⟩
noncomputable def obS2 (mk : Rd → Rd → IOp) (s : Nat) (d : Db) (x y : Rb) : Ob := ⟨fun _ t h => slR d s t h (evOp (mk (.con (x.g t)) (.con (y.g t))) jtm h.H)⟩
theorem slR_ok {P : Program} {o : Nat → V} {t t' : Tq V} {h h' : Hq} {s : Nat} {d : Option Nat} {op' : IOp} {l : LRes} (hd : dlo d = true) (hl : lop op' jtm h.H = l) (e : slR (dbOf d) s t h (evOp op' jtm h.H) = .ok t' h') {K : St → Prop} (hK : K (denq o t' h')) : vres P (denq o t h) s d K l := by
  cases hr : evOp op' jtm h.H with
  | none => rw [hr] at e; cases e
  | some r =>
    rw [hr] at e
    have hs := evOp_ok hr
    rw [hl] at hs
    cases r with
    | A v =>
      obtain ⟨pre, rfl, hp⟩ := hs
      have e : Option.rec (motive := fun _ => Ro) (.err 0) (fun v => .ok ((dbOf d).s v t) h) (frc v) = .ok t' h' := e
      rw [frc_eq] at e
      have e : Ro.ok ((dbOf d).s v t) h = .ok t' h' := e
      cases e
      rw [denq_put hd] at hK
      exact ⟨hp, hK⟩
    | C ob mk =>
      obtain ⟨pre, rfl, hp⟩ := hs
      exact ⟨hp, newR_ok hd e hK⟩
    | D v k ob =>
      obtain ⟨pre, rfl, hp⟩ := hs
      have e : (match setH k ob h with | some h' => Ro.ok ((dbOf d).s v t) h' | none => (.err 0)) = .ok t' h' := e
      split at e
      case h_2 => cases e
      rename_i h1 hh
      cases e
      obtain ⟨e1, e2⟩ := setH_ok hh
      rw [denq_put hd, e1, e2] at hK
      exact ⟨hp, hK⟩
    | call f a b => cases e
theorem obS1_ok {mk : Rd → IOp} {s : Nat} {d : Option Nat} {x : Rd} (hd : dlo d = true) (hx : rlo x = true) (hm : ∀ tm H, lop (mk (.con (x.get tm))) jtm H = lop (mk x) tm H) : ObOk s d (mk x) (obS1 mk s (dbOf d) (rbOf x)) := by
  intro P cl o t h t' h' e K hK
  have e : slR (dbOf d) s t h (evOp (mk (.con ((rbOf x).g t))) jtm h.H) = .ok t' h' := e
  rw [rb_ok hx o t] at e
  exact slR_ok hd (hm _ _) e hK
theorem obS2_ok {mk : Rd → Rd → IOp} {s : Nat} {d : Option Nat} {x y : Rd} (hd : dlo d = true) (hx : rlo x = true) (hy : rlo y = true) (hm : ∀ tm H, lop (mk (.con (x.get tm)) (.con (y.get tm))) jtm H = lop (mk x y) tm H) : ObOk s d (mk x y) (obS2 mk s (dbOf d) (rbOf x) (rbOf y)) := by
  intro P cl o t h t' h' e K hK
  have e : slR (dbOf d) s t h (evOp (mk (.con ((rbOf x).g t)) (.con ((rbOf y).g t))) jtm h.H) = .ok t' h' := e
  rw [rb_ok hx o t, rb_ok hy o t] at e
  exact slR_ok hd (hm _ _) e hK

noncomputable def obS3 (mk : Rd → Rd → Rd → IOp) (s : Nat) (d : Db) (x y z : Rb) : Ob := ⟨fun _ t h => slR d s t h (evOp (mk (.con (x.g t)) (.con (y.g t)) (.con (z.g t))) jtm h.H)⟩
theorem obS3_ok {mk : Rd → Rd → Rd → IOp} {s : Nat} {d : Option Nat} {x y z : Rd} (hd : dlo d = true) (hx : rlo x = true) (hy : rlo y = true) (hz : rlo z = true) (hm : ∀ tm H, lop (mk (.con (x.get tm)) (.con (y.get tm)) (.con (z.get tm))) jtm H = lop (mk x y z) tm H) : ObOk s d (mk x y z) (obS3 mk s (dbOf d) (rbOf x) (rbOf y) (rbOf z)) := by
  intro P cl o t h t' h' e K hK
  have e : slR (dbOf d) s t h (evOp (mk (.con ((rbOf x).g t)) (.con ((rbOf y).g t)) (.con ((rbOf z).g t))) jtm h.H) = .ok t' h' := e
  rw [rb_ok hx o t, rb_ok hy o t, rb_ok hz o t] at e
  exact slR_ok hd (hm _ _) e hK

/-! Rows of zeros. -/
noncomputable def rplK {β : Type} (zs : List V) (n : Nat) : (List V → Option β) → Option β := Nat.rec (motive := fun _ => (List V → Option β) → Option β) (fun K => K []) (fun _ ih K => ih fun r => appK zs r K) n
theorem rplK_eq {β : Type} (zs : List V) : ∀ (n : Nat) (K : List V → Option β), rplK zs n K = K (List.replicate n zs).flatten
  | 0, K => rfl
  | n + 1, K => by
    show rplK zs n (fun r => appK zs r K) = _
    rw [rplK_eq zs n, appK_eq]; rfl
noncomputable def mkslF (esz bytes : Nat) (zs : List V) (l c : V) : Option (Nat × LObj) := N6.rec (motive := fun _ => Option (Nat × LObj)) none (fun _ n => N6.rec (motive := fun _ => Option (Nat × LObj)) none (fun _ m => Bool.rec (motive := fun _ => Option (Nat × LObj)) none (Bool.rec (motive := fun _ => Option (Nat × LObj)) none (Bool.rec (motive := fun _ => Option (Nat × LObj)) none (rplK zs n fun r => some (n, .row 0 esz r)) (Nat.ble m 4611686018427387904)) (Nat.ble (m * bytes) 140737488355328)) (Nat.ble n m)) (asN c)) (asN l)
theorem bool_none {β : Type} {b : Bool} {x : Option β} {r : β} (h : Bool.rec (motive := fun _ => Option β) none x b = some r) : b = true ∧ x = some r := by
  cases b with
  | false => cases h
  | true => exact ⟨rfl, h⟩
theorem nble_le {a b : Nat} (h : Nat.ble a b = true) : a ≤ b := Nat.le_of_ble_eq_true h
theorem mkslF_ok {esz bytes : Nat} {zs : List V} {l c : V} {n : Nat} {ob : LObj} (e : mkslF esz bytes zs l c = some (n, ob)) : ∃ pre : Prop, lmksl esz bytes zs l c = .C pre ob (fun k => .msl k 0 0 n) ∧ pre := by
  unfold mkslF at e
  cases hl : asN l with
  | no => rw [hl] at e; cases e
  | ok k n0 =>
    cases hc : asN c with
    | no => rw [hl, hc] at e; cases e
    | ok k' m =>
      rw [hl, hc] at e
      obtain ⟨h1, e⟩ := bool_none e
      obtain ⟨h2, e⟩ := bool_none e
      obtain ⟨h3, e⟩ := bool_none e
      rw [rplK_eq] at e
      cases e
      rw [asN_ok hl, asN_ok hc]
      have h1 := nble_le h1
      have h2 := nble_le h2
      have h3 := nble_le h3
      exact ⟨_, rfl, by omega, by omega, by rw [← Int.natCast_mul]; omega, by omega⟩
noncomputable def obMk (d : Db) (s : Nat) (F : Tq V → Option (Nat × LObj)) : Ob := ⟨fun _ t h => Option.rec (motive := fun _ => Ro) (.err 0) (fun p => Prod.rec (motive := fun _ => Ro) (fun n o => newR d (fun k => .msl k 0 0 n) s t h o) p) (F t)⟩

/-! Appending. -/
noncomputable def appF (esz bytes : Nat) (h : Hq) (k : Key) (g n : Nat) (r : Sr) : Option (V × Hq) := Sr.rec (motive := fun _ => Option (V × Hq)) (fun m ys => rowK h k g fun e cs => Bool.rec (motive := fun _ => Option (V × Hq)) none (Bool.rec (motive := fun _ => Option (V × Hq)) none (Bool.rec (motive := fun _ => Option (V × Hq)) none (Bool.rec (motive := fun _ => Option (V × Hq)) none (takeK (n * esz) cs fun cs => appK cs ys fun cs' => fN (g + 1) fun g' => fN (n + m) fun n' => Option.rec (motive := fun _ => Option (V × Hq)) none (fun h' => some (.msl k g' 0 n', h')) (setH k (.row g' esz cs') h)) (allF oneF ys)) (Nat.ble (n + m) 4611686018427387904)) (Nat.ble ((n + m) * bytes) 140737488355328)) (Nat.beq e esz)) r
theorem appF_ok {esz bytes : Nat} {h h' : Hq} {k : Key} {g n : Nat} {r : Sr} {v : V} (e : appF esz bytes h k g n r = some (v, h')) : ∃ cs, h.H k = some (.row g esz cs) ∧ n * esz ≤ cs.length ∧ ((n + r.n) * bytes ≤ 140737488355328 ∧ n + r.n ≤ 4611686018427387904 ∧ r.cs.all V.one = true) ∧ v = .msl k (g + 1) 0 (n + r.n) ∧ h'.H = hupd h.H k (.row (g + 1) esz (cs.take (n * esz) ++ r.cs)) ∧ h'.c = h.c := by
  obtain ⟨m, ys⟩ := r
  have e : rowK h k g (fun e cs => Bool.rec (motive := fun _ => Option (V × Hq)) none (Bool.rec (motive := fun _ => Option (V × Hq)) none (Bool.rec (motive := fun _ => Option (V × Hq)) none (Bool.rec (motive := fun _ => Option (V × Hq)) none (takeK (n * esz) cs fun cs => appK cs ys fun cs' => fN (g + 1) fun g' => fN (n + m) fun n' => Option.rec (motive := fun _ => Option (V × Hq)) none (fun h' => some (.msl k g' 0 n', h')) (setH k (.row g' esz cs') h)) (allF oneF ys)) (Nat.ble (n + m) 4611686018427387904)) (Nat.ble ((n + m) * bytes) 140737488355328)) (Nat.beq e esz)) = some (v, h') := e
  obtain ⟨e0, cs, h1, h2⟩ := rowK_ok e
  obtain ⟨q1, h2⟩ := bool_none h2
  obtain ⟨q2, h2⟩ := bool_none h2
  obtain ⟨q3, h2⟩ := bool_none h2
  obtain ⟨q4, h2⟩ := bool_none h2
  have q1 := Nat.eq_of_beq_eq_true q1
  subst q1
  rw [takeK_eq] at h2
  split at h2
  case isFalse => cases h2
  rename_i hle
  rw [appK_eq, fN_eq, fN_eq] at h2
  obtain ⟨h3, h4, h5⟩ := rec_some h2
  cases h5
  obtain ⟨e1, e2⟩ := setH_ok h4
  rw [allF_eq, oneF_fun] at q4
  exact ⟨cs, h1, hle, ⟨nble_le q2, nble_le q3, q4⟩, rfl, e1, e2⟩

/-- A row told by fewer of its cells. -/
theorem shrink_ent (tm : Nat → V) (H : Heap) (c : Nat → Nat) (k : Key) {g esz : Nat} {cs : List V} (n : Nat) (hk : H k = some (.row g esz cs)) : Ent ⟨tm, H, c⟩ ⟨tm, hupd H k (.row g esz (cs.take n)), c⟩ := by
  rintro E a w ⟨gh, hs⟩
  have hb : ∀ k' o', hupd H k (.row g esz (cs.take n)) k' = some o' → ∃ o, H k' = some o ∧ blkOf gh k' o' = blkOf gh k' o ∧ (ObjRel E.B E.F w gh k' o → ObjRel E.B E.F w gh k' o') := by
    intro k' o' h
    by_cases e : k' = k
    · subst e
      simp only [hupd, if_true] at h
      cases h
      refine ⟨_, hk, rfl, ?_⟩
      rintro ⟨blk, cap, h1, h2, h3⟩
      refine ⟨blk, cap, h1, h2, ?_⟩
      cases blk with
      | none => exact ⟨by simp [h3.1], h3.2⟩
      | some b =>
        obtain ⟨p1, p2, p3, us, T, fz, p4, p5, p6, p7, p8⟩ := h3
        refine ⟨p1, p2, p3, us, T, fz, p4, p5, ?_, p7, fun j u c hu hc => ?_⟩
        · exact Nat.le_trans (by rw [List.length_take]; exact Nat.min_le_right _ _) p6
        · rw [List.getElem?_take] at hc
          split at hc
          · exact p8 j u c hu hc
          · cases hc
    · simp only [hupd, if_neg e] at h
      exact ⟨o', h, rfl, fun h => h⟩
  refine ⟨gh, hs.below, hs.sizeB, hs.size, hs.defers, hs.tm, hs.immlt, hs.imm0, hs.immB, fun k' o' h => ?_, fun k1 k2 o1 o2 b h1 h2 b1 b2 => ?_, fun s m hm => ?_, hs.ref0⟩
  · obtain ⟨o, h1, h2, h3⟩ := hb k' o' h
    exact h3 (hs.obj k' o h1)
  · obtain ⟨o1', x1, y1, _⟩ := hb _ _ h1
    obtain ⟨o2', x2, y2, _⟩ := hb _ _ h2
    exact hs.apart k1 k2 o1' o2' b x1 x2 (y1 ▸ b1) (y2 ▸ b2)
  · obtain ⟨h1, h2⟩ := hs.fresh s m hm
    refine ⟨?_, h2⟩
    show hupd H k _ (s, m) = none
    have hne : (s, m) ≠ k := by
      rintro rfl
      have h1 : H (s, m) = none := h1
      rw [hk] at h1; cases h1
    simp only [hupd, if_neg hne]
    exact h1
end Go.Lg
