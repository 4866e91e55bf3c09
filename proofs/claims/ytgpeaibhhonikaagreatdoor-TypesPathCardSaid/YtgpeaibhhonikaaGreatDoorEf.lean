/-
  The reckoning: a body made ready (boxes), run; what comes out holds in the plain logic.
-/
import Derived.Test.YtgpeaibhhonikaaGreatDoorEe
set_option linter.unusedSimpArgs false
set_option linter.unusedVariables false
namespace Go.Lg
open Go Go.RowKit

noncomputable def ck (b : Bool) (x : Ob) : Ob := Bool.rec (motive := fun _ => Ob) obErr x b
theorem ck_ok {s : Nat} {d : Option Nat} {op : IOp} {b : Bool} {x : Ob} (h : b = true → ObOk s d op x) : ObOk s d op (ck b x) := by
  cases b with
  | false => exact obErr_ok
  | true => exact h rfl
noncomputable def bslF (n : Nat) (zs : List V) (fl : Fl) (t : Tq V) : Option V := Option.rec (motive := fun _ => Option V) none (fun cs => Bool.rec (motive := fun _ => Option V) none (some (.sl n cs)) (allF (imV 3) cs)) (fl.f t zs)
noncomputable def unF (op : UnOp) : V → Option V := match op with
  | .not => fun x => B6.rec (motive := fun _ => Option V) none (fun b => bF (bNot b)) (asB x)
  | op => fun x => Option.rec (motive := fun _ => Option V) none (fun v => frc v) (slowV (lun op x) (chkUn op x))
theorem unF_ok {op : UnOp} {x v : V} (e : unF op x = some v) : Ps (lun op x) v := by
  have slow : ∀ {op : UnOp} {x v : V}, Option.rec (motive := fun _ => Option V) none (fun v => frc v) (slowV (lun op x) (chkUn op x)) = some v → Ps (lun op x) v := by
    intro op x v e
    cases hs : slowV (lun op x) (chkUn op x) with
    | none => rw [hs] at e; cases e
    | some u =>
      rw [hs] at e
      have e : frc u = some v := e
      rw [frc_eq] at e; cases e
      exact slowV_ok hs fun h => by
        have := @chk_ok (.un op (.con x)) jtm (fun _ => none) h
        exact this
  cases op with
  | not =>
    have e : B6.rec (motive := fun _ => Option V) none (fun b => bF (bNot b)) (asB x) = some v := e
    cases hx : asB x with
    | no => rw [hx] at e; cases e
    | ok b =>
      rw [hx] at e
      have e : bF (bNot b) = some v := e
      rw [asB_ok hx]
      rw [bF_eq, bNot_eq] at e; cases e
      exact ⟨_, rfl, trivial⟩
  | _ => exact slow e
noncomputable def cvF (k : IntKind) (x : V) : Option V := Option.rec (motive := fun _ => Option V) none (fun v => frc v) (slowV (lconvI k x) true)
theorem cvF_ok {k : IntKind} {x v : V} (e : cvF k x = some v) : Ps (lconvI k x) v := by
  unfold cvF at e
  cases hs : slowV (lconvI k x) true with
  | none => rw [hs] at e; cases e
  | some u =>
    rw [hs] at e
    have e : frc u = some v := e
    rw [frc_eq] at e; cases e
    exact slowV_ok hs fun _ => by
      have := @chk_ok (.convI k (.con x)) jtm (fun _ => none) rfl
      exact this

/-- An operation that is no call, made ready. -/
noncomputable def obP (s : Nat) (d : Option Nat) (op : IOp) : Ob := match op with
  | .mov x => ck (rlo x) (obA (dbOf d) fun t _ => some ((rbOf x).g t))
  | .mvs x => ck (rlo x) (obA (dbOf d) fun t _ => S6.rec (motive := fun _ => Option V) none (fun l => some (.str ⟨⟨l⟩⟩)) (asS ((rbOf x).g t)))
  | .pick c a b => ck (rlo c && (rlo a && rlo b)) (obA (dbOf d) fun t _ => B6.rec (motive := fun _ => Option V) none (fun q => Bool.rec (motive := fun _ => Option V) (some ((rbOf b).g t)) (some ((rbOf a).g t)) q) (asB ((rbOf c).g t)))
  | .new zs => obC (dbOf d) s (fun k => .mp k 0 0) fun _ _ => some (.row 0 0 zs)
  | .box x => ck (rlo x) (obC (dbOf d) s (fun k => .mp k 0 0) fun t _ => Bool.rec (motive := fun _ => Option LObj) none (some (.row 0 0 (cellsF ((rbOf x).g t)))) (knownF ((rbOf x).g t)))
  | .build zs ps => ck (plo ps) (obA (dbOf d) fun t _ => Option.rec (motive := fun _ => Option V) none (fun cs => some (.agg cs)) ((flOf ps).f t zs))
  | .bsl n zs ps => Bool.rec (motive := fun _ => Ob) (ck (plo ps) (obA (dbOf d) fun t _ => bslF n zs (flOf ps) t)) (obA (dbOf d) fun _ _ => some .e0) (Nat.beq n 0)
  | .load agg n a => ck (rlo a) (obA (dbOf d) fun t h => qLoad agg n h ((rbOf a).g t))
  | .store n a x => ck (rlo a && rlo x) (obD (dbOf d) fun t h => qStore n h ((rbOf a).g t) ((rbOf x).g t))
  | .nilchk x => ck (rlo x) (obA (dbOf d) fun t _ => qNil ((rbOf x).g t))
  | .bin op x y => ck (rlo x && rlo y) (obA (dbOf d) fun t _ => (qBin op).f ((rbOf x).g t) ((rbOf y).g t))
  | .eqb neg x y => ck (rlo x && rlo y) (obA (dbOf d) fun t _ => qEqb neg ((rbOf x).g t) ((rbOf y).g t))
  | .eqp neg x y => ck (rlo x && rlo y) (obA (dbOf d) fun t _ => qEqp neg ((rbOf x).g t) ((rbOf y).g t))
  | .eqf neg x y => ck (rlo x && rlo y) (obS2 (.eqf neg) s (dbOf d) (rbOf x) (rbOf y))
  | .eqi neg lit x y => ck (rlo x && rlo y) (obA (dbOf d) fun t _ => qEqi neg lit ((rbOf x).g t) ((rbOf y).g t))
  | .un op x => ck (rlo x) (obA (dbOf d) fun t _ => unF op ((rbOf x).g t))
  | .convI k x => ck (rlo x) (obA (dbOf d) fun t _ => cvF k ((rbOf x).g t))
  | .mkifc ty x => ck (rlo x) (obA (dbOf d) fun t _ => Bool.rec (motive := fun _ => Option V) none (some (.ifc ty ((rbOf x).g t))) (knownF ((rbOf x).g t)))
  | .mkfn f cap => ck (llo cap) (obA (dbOf d) fun t _ => some (.fn f ((lbOf cap).f t)))
  | .mksl esz bytes zs l c => ck (rlo l && rlo c) (obMk (dbOf d) s fun t => mkslF esz bytes zs ((rbOf l).g t) ((rbOf c).g t))
  | .slS x lo hi => ck (rlo x && (olo lo && olo hi)) (obA (dbOf d) fun t _ => Option.rec (motive := fun _ => Option V) none (fun l => qSlS ((rbOf x).g t) l ((bnHi hi).f t)) ((bnLo lo).f t 0))
  | .slV esz x lo hi => ck (rlo x && (olo lo && olo hi)) (obA (dbOf d) fun t _ => Option.rec (motive := fun _ => Option V) none (fun l => qSlV esz ((rbOf x).g t) l ((bnHi hi).f t)) ((bnLo lo).f t 0))
  | .slA .. => obErr
  | .fad off x => ck (rlo x) (obA (dbOf d) fun t _ => qFad off ((rbOf x).g t))
  | .fld agg n off x => ck (rlo x) (obA (dbOf d) fun t _ => qFld agg n off ((rbOf x).g t))
  | .iaA len esz x i => ck (rlo x && rlo i) (obA (dbOf d) fun t _ => qIaA len esz ((rbOf x).g t) ((rbOf i).g t))
  | .iaS esz x i => ck (rlo x && rlo i) (obA (dbOf d) fun t _ => qIaS esz ((rbOf x).g t) ((rbOf i).g t))
  | .ixS x i => ck (rlo x && rlo i) (obA (dbOf d) fun t _ => qIxS ((rbOf x).g t) ((rbOf i).g t))
  | .ixA agg len n x i => ck (rlo x && rlo i) (obS2 (.ixA agg len n) s (dbOf d) (rbOf x) (rbOf i))
  | .tas ty z x => ck (rlo x) (obA (dbOf d) fun t _ => qTas ty z ((rbOf x).g t))
  | .ext x i => ck (rlo x) (obA (dbOf d) fun t _ => qExt i ((rbOf x).g t))
  | .len b x => ck (rlo x) (obA (dbOf d) fun t _ => qLen b ((rbOf x).g t))
  | .app esz bytes x y => ck (rlo x && rlo y) (obS2 (.app esz bytes) s (dbOf d) (rbOf x) (rbOf y))
  | .appE esz bytes x y => ck (rlo x && rlo y) (obS2 (.appE esz bytes) s (dbOf d) (rbOf x) (rbOf y))
  | .mn mx x y => ck (rlo x && rlo y) (obS2 (.mn mx) s (dbOf d) (rbOf x) (rbOf y))
  | .mx3 x y z => ck (rlo x && (rlo y && rlo z)) (obS3 .mx3 s (dbOf d) (rbOf x) (rbOf y) (rbOf z))
  | .mkmap => obC (dbOf d) s .mm fun _ _ => some (.map [])
  | .mlk kt ok z x i => ck (rlo x && rlo i) (obA (dbOf d) fun t h => qMlk kt ok z h ((rbOf x).g t) ((rbOf i).g t))
  | .mset kt x i v => ck (rlo x && (rlo i && rlo v)) (obD (dbOf d) fun t h => qMset kt h ((rbOf x).g t) ((rbOf i).g t) ((rbOf v).g t))
  | .mlen x => ck (rlo x) (obS1 .mlen s (dbOf d) (rbOf x))
  | .s2b x => ck (rlo x) (obS1 .s2b s (dbOf d) (rbOf x))
  | .b2s x => ck (rlo x) (obS1 .b2s s (dbOf d) (rbOf x))
  | .eqa n q neg x y => ck (rlo x && rlo y) (obS2 (.eqa n q neg) s (dbOf d) (rbOf x) (rbOf y))
  | .msb x => ck (rlo x) (obS1 .msb s (dbOf d) (rbOf x))
  | _ => obErr

theorem obP_ok {s : Nat} {d : Option Nat} (hd : dlo d = true) (op : IOp) : ObOk s d op (obP s d op) := by
  cases op <;> simp only [obP] <;> try (exact obErr_ok)
  case mov x => exact ck_ok fun hx => obA_ok hd fun o t h v e => by cases e; exact ⟨True, by rw [rb_ok hx o t]; rfl, trivial⟩
  case mvs x =>
    refine ck_ok fun hx => obA_ok hd fun o t h v e => ?_
    rw [rb_ok hx o t] at e
    cases hs : asS (x.get (tmQ o t)) with
    | no => rw [hs] at e; cases e
    | ok l => rw [hs] at e; cases e; exact ⟨True, by simp only [lop, lmvs, asS_ok hs], trivial⟩
  case pick c a b =>
    refine ck_ok fun hx => obA_ok hd fun o t h v e => ?_
    simp only [Bool.and_eq_true] at hx
    rw [rb_ok hx.1 o t, rb_ok hx.2.1 o t, rb_ok hx.2.2 o t] at e
    cases hs : asB (c.get (tmQ o t)) with
    | no => rw [hs] at e; cases e
    | ok q => rw [hs] at e; refine ⟨True, ?_, trivial⟩; simp only [lop, lpick, asB_ok hs]; cases q <;> cases e <;> rfl
  case new zs => exact obC_ok hd fun o t h ob e => by cases e; exact ⟨_, rfl, trivial⟩
  case box x =>
    refine ck_ok fun hx => obC_ok hd fun o t h ob e => ?_
    rw [rb_ok hx o t, cellsF_eq, knownF_eq] at e
    obtain ⟨h1, e⟩ := bool_none e
    cases e
    exact ⟨_, rfl, h1⟩
  case build zs ps =>
    refine ck_ok fun hx => obA_ok hd fun o t h v e => ?_
    obtain ⟨cs, h1, rfl⟩ := rec_some e
    obtain ⟨e1, e2, _⟩ := flOf_ok o t ps zs cs hx h1
    exact ⟨partsOk (tmQ o t) zs.length ps, by simp only [lop, e2], e1⟩
  case bsl n zs ps =>
    cases hn : Nat.beq n 0 with
    | true =>
      have hn := Nat.eq_of_beq_eq_true hn
      exact obA_ok hd fun o t h v e => by cases e; exact ⟨True, by simp only [lop, if_pos hn], trivial⟩
    | false =>
      have hn := Nat.ne_of_beq_eq_false hn
      refine ck_ok fun hx => obA_ok hd fun o t h v e => ?_
      unfold bslF at e
      cases hf : (flOf ps).f t zs with
      | none => rw [hf] at e; cases e
      | some cs =>
        rw [hf] at e
        obtain ⟨h1, e⟩ := bool_none e
        cases e
        obtain ⟨e1, e2, _⟩ := flOf_ok o t ps zs cs hx hf
        rw [allF_eq] at h1
        exact ⟨partsOk (tmQ o t) zs.length ps ∧ cs.all (imV 3) = true, by simp only [lop, if_neg hn, e2], e1, h1⟩
  case load agg n a => exact ck_ok fun hx => obA_ok hd fun o t h v e => by rw [rb_ok hx o t] at e; exact qLoad_ok e
  case store n a x =>
    refine ck_ok fun hx => obD_ok hd fun o t h h' e => ?_
    simp only [Bool.and_eq_true] at hx
    rw [rb_ok hx.1 o t, rb_ok hx.2 o t] at e; exact qStore_ok e
  case nilchk x => exact ck_ok fun hx => obA_ok hd fun o t h v e => by rw [rb_ok hx o t] at e; exact qNil_ok e
  case bin op x y =>
    refine ck_ok fun hx => obA_ok hd fun o t h v e => ?_
    simp only [Bool.and_eq_true] at hx
    rw [rb_ok hx.1 o t, rb_ok hx.2 o t] at e; exact qBin_ok e
  case eqb neg x y =>
    refine ck_ok fun hx => obA_ok hd fun o t h v e => ?_
    simp only [Bool.and_eq_true] at hx
    rw [rb_ok hx.1 o t, rb_ok hx.2 o t] at e; exact qEqb_ok e
  case eqp neg x y =>
    refine ck_ok fun hx => obA_ok hd fun o t h v e => ?_
    simp only [Bool.and_eq_true] at hx
    rw [rb_ok hx.1 o t, rb_ok hx.2 o t] at e; exact qEqp_ok e
  case eqf neg x y =>
    refine ck_ok fun hx => ?_
    simp only [Bool.and_eq_true] at hx
    exact obS2_ok hd hx.1 hx.2 fun _ _ => rfl
  case eqi neg lit x y =>
    refine ck_ok fun hx => obA_ok hd fun o t h v e => ?_
    simp only [Bool.and_eq_true] at hx
    rw [rb_ok hx.1 o t, rb_ok hx.2 o t] at e; exact qEqi_ok e
  case un op x => exact ck_ok fun hx => obA_ok hd fun o t h v e => by rw [rb_ok hx o t] at e; exact unF_ok e
  case convI k x => exact ck_ok fun hx => obA_ok hd fun o t h v e => by rw [rb_ok hx o t] at e; exact cvF_ok e
  case mkifc ty x =>
    refine ck_ok fun hx => obA_ok hd fun o t h v e => ?_
    rw [rb_ok hx o t, knownF_eq] at e
    obtain ⟨h1, e⟩ := bool_none e
    cases e
    exact ⟨_, rfl, h1⟩
  case mkfn f cap => exact ck_ok fun hx => obA_ok hd fun o t h v e => by cases e; exact ⟨True, by rw [lb_ok o t cap hx]; rfl, trivial⟩
  case mksl esz bytes zs l c =>
    refine ck_ok fun hx => ?_
    simp only [Bool.and_eq_true] at hx
    intro P cl o t h t' h' e K hK
    have e : Option.rec (motive := fun _ => Ro) (.err 0) (fun p => Prod.rec (motive := fun _ => Ro) (fun n ob => newR (dbOf d) (fun k => .msl k 0 0 n) s t h ob) p) (mkslF esz bytes zs ((rbOf l).g t) ((rbOf c).g t)) = .ok t' h' := e
    rw [rb_ok hx.1 o t, rb_ok hx.2 o t] at e
    cases hm : mkslF esz bytes zs (l.get (tmQ o t)) (c.get (tmQ o t)) with
    | none => rw [hm] at e; cases e
    | some p =>
      obtain ⟨n, ob⟩ := p
      rw [hm] at e
      obtain ⟨pre, h1, h2⟩ := mkslF_ok hm
      simp only [lop]
      rw [h1]
      exact ⟨h2, newR_ok (mk := fun k => .msl k 0 0 n) hd e hK⟩
  case slS x lo hi =>
    refine ck_ok fun hx => obA_ok hd fun o t h v e => ?_
    simp only [Bool.and_eq_true] at hx
    rw [rb_ok hx.1 o t] at e
    cases hl : (bnLo lo).f t 0 with
    | none => rw [hl] at e; cases e
    | some l =>
      rw [hl] at e
      simp only [lop, bnLo_ok (o := o) hx.2.1 hl]
      exact qSlS_ok (fun n m h => bnHi_ok hx.2.2 h) e
  case slV esz x lo hi =>
    refine ck_ok fun hx => obA_ok hd fun o t h v e => ?_
    simp only [Bool.and_eq_true] at hx
    rw [rb_ok hx.1 o t] at e
    cases hl : (bnLo lo).f t 0 with
    | none => rw [hl] at e; cases e
    | some l =>
      rw [hl] at e
      simp only [lop, bnLo_ok (o := o) hx.2.1 hl]
      exact qSlV_ok (fun n m h => bnHi_ok hx.2.2 h) e
  case fad off x => exact ck_ok fun hx => obA_ok hd fun o t h v e => by rw [rb_ok hx o t] at e; exact qFad_ok e
  case fld agg n off x => exact ck_ok fun hx => obA_ok hd fun o t h v e => by rw [rb_ok hx o t] at e; exact qFld_ok e
  case iaA len esz x i =>
    refine ck_ok fun hx => obA_ok hd fun o t h v e => ?_
    simp only [Bool.and_eq_true] at hx
    rw [rb_ok hx.1 o t, rb_ok hx.2 o t] at e; exact qIaA_ok e
  case iaS esz x i =>
    refine ck_ok fun hx => obA_ok hd fun o t h v e => ?_
    simp only [Bool.and_eq_true] at hx
    rw [rb_ok hx.1 o t, rb_ok hx.2 o t] at e; exact qIaS_ok e
  case ixS x i =>
    refine ck_ok fun hx => obA_ok hd fun o t h v e => ?_
    simp only [Bool.and_eq_true] at hx
    rw [rb_ok hx.1 o t, rb_ok hx.2 o t] at e; exact qIxS_ok e
  case ixA agg len n x i =>
    refine ck_ok fun hx => ?_
    simp only [Bool.and_eq_true] at hx
    exact obS2_ok hd hx.1 hx.2 fun _ _ => rfl
  case tas ty z x => exact ck_ok fun hx => obA_ok hd fun o t h v e => by rw [rb_ok hx o t] at e; exact qTas_ok e
  case ext x i => exact ck_ok fun hx => obA_ok hd fun o t h v e => by rw [rb_ok hx o t] at e; exact qExt_ok e
  case len b x => exact ck_ok fun hx => obA_ok hd fun o t h v e => by rw [rb_ok hx o t] at e; exact qLen_ok e
  case app esz bytes x y =>
    refine ck_ok fun hx => ?_
    simp only [Bool.and_eq_true] at hx
    exact obS2_ok hd hx.1 hx.2 fun _ _ => rfl
  case appE esz bytes x y =>
    refine ck_ok fun hx => ?_
    simp only [Bool.and_eq_true] at hx
    exact obS2_ok hd hx.1 hx.2 fun _ _ => rfl
  case mn mx x y =>
    refine ck_ok fun hx => ?_
    simp only [Bool.and_eq_true] at hx
    exact obS2_ok hd hx.1 hx.2 fun _ _ => rfl
  case mx3 x y z =>
    refine ck_ok fun hx => ?_
    simp only [Bool.and_eq_true] at hx
    exact obS3_ok hd hx.1 hx.2.1 hx.2.2 fun _ _ => rfl
  case mkmap => exact obC_ok hd fun o t h ob e => by cases e; exact ⟨_, rfl, trivial⟩
  case mlk kt ok z x i =>
    refine ck_ok fun hx => obA_ok hd fun o t h v e => ?_
    simp only [Bool.and_eq_true] at hx
    rw [rb_ok hx.1 o t, rb_ok hx.2 o t] at e; exact qMlk_ok e
  case mset kt x i v =>
    refine ck_ok fun hx => obD_ok hd fun o t h h' e => ?_
    simp only [Bool.and_eq_true] at hx
    rw [rb_ok hx.1 o t, rb_ok hx.2.1 o t, rb_ok hx.2.2 o t] at e; exact qMset_ok e
  case mlen x => exact ck_ok fun hx => obS1_ok hd hx fun _ _ => rfl
  case s2b x => exact ck_ok fun hx => obS1_ok hd hx fun _ _ => rfl
  case b2s x => exact ck_ok fun hx => obS1_ok hd hx fun _ _ => rfl
  case eqa n q neg x y =>
    refine ck_ok fun hx => ?_
    simp only [Bool.and_eq_true] at hx
    exact obS2_ok hd hx.1 hx.2 fun _ _ => rfl
  case msb x => exact ck_ok fun hx => obS1_ok hd hx fun _ _ => rfl

/-! Guards. -/
inductive Gg where
  | err
  | run
  | skip
noncomputable def gdF (want : Bool) (v : V) : Gg := B6.rec (motive := fun _ => Gg) (G6.rec (motive := fun _ => Gg) .err (fun _ => .err) (fun l => List.rec (motive := fun _ => Gg) .skip (fun _ _ _ => .err) l) (asG v)) (fun b => Bool.rec (motive := fun _ => Gg) .run .skip (bXor b want)) (asB v)
theorem gdF_ok {want : Bool} {tm : Nat → V} {k : Nat} : (gdF want (tm k) = .run → gd tm (some (k, want)) = some true) ∧ (gdF want (tm k) = .skip → gd tm (some (k, want)) = some false) := by
  have key : ∀ v : V, (gdF want v = .run → (match v with | .bool b => some (b == want) | .tup [] => some false | _ => none) = some true) ∧ (gdF want v = .skip → (match v with | .bool b => some (b == want) | .tup [] => some false | _ => none) = some false) := by
    intro v
    cases v with
    | bool b => cases b <;> cases want <;> exact ⟨fun e => (by first | rfl | cases e), fun e => (by first | rfl | cases e)⟩
    | tup l => cases l with
      | nil => exact ⟨fun e => (by cases e), fun _ => rfl⟩
      | cons a r => exact ⟨fun e => (by cases e), fun e => (by cases e)⟩
    | _ => exact ⟨fun e => (by cases e), fun e => (by cases e)⟩
  exact key (tm k)
noncomputable def obG (g : Option (Nat × Bool)) (d : Option Nat) (b : Ob) : Ob := Option.rec (motive := fun _ => Ob) b (fun p => Prod.rec (motive := fun _ => Ob) (fun k want => Bool.rec (motive := fun _ => Ob) obErr ⟨fun cl t h => Gg.rec (motive := fun _ => Ro) (.err 0) (b.run cl t h) (.ok ((dbOf d).s (.tup []) t) h) (gdF want ((acOf V.junk k).g t))⟩ (Nat.blt k 100000)) p) g

/-! Calls. -/
def ClOk (P : Program) (cl : Cl) : Prop := ∀ f args h v h', cl f args h = .ok v h' → ∀ tm, PSt P f args ⟨tm, h.H, h.c⟩ fun v1 σ1 => v1 = v ∧ σ1 = ⟨tm, h'.H, h'.c⟩

theorem core_of_pst {P : Program} {f : FuncId} {args : List V} {R : V → St → Prop} (h : PSt P f args ⟨fun _ => .junk, noH, noC⟩ R) : entersOk P f = true ∧ ∀ (imm : Nat → Prop) (w : World) (vs : Array Value), Imm0 P imm w → vs.size = args.length →
    (∀ (j : Nat) (u : Value) (c : V), vs[j]? = some u → args[j]? = some c → RepI imm w u c) →
    Calls P f vs w fun e w' => ∃ n g σ' a' u v, SimG ⟨w.heap.size, n, w, imm, fun _ => False, fun _ _ => none, fun _ => undef⟩ g σ' a' w' ∧ Rep g w' u v ∧ R v σ' ∧ e = .returned u := by
  refine ⟨h.1, fun imm w vs himm hsz hargs => ?_⟩
  refine (h.2 ⟨w.heap.size, 0, w, imm, fun _ => False, fun _ _ => none, fun _ => undef⟩ (EOk.start himm.2 _ _ _ _) ⟨imm, fun _ _ => none⟩ { tmps := #[], defers := [] } w vs
    ⟨.refl _ _ _, Nat.le_refl _, ⟨rfl, Nat.zero_le _⟩, rfl, fun t => .junk _ _ _, himm.1, fun b h => h, fun b _ h => h, (fun k o h => by cases h), (fun k k' o o' b h => by cases h), fun s n _ => ⟨rfl, fun _ => rfl⟩, fun _ _ _ _ h => h⟩
    hsz fun j u c hu hc => .imm _ _ (hargs j u c hu hc)).mono ?_
  rintro e w' ⟨u, v, σ', g', rfl, hs, hr, hR⟩
  exact ⟨0, g', σ', _, u, v, hs, hr, hR, rfl⟩
theorem pret_of_pst {P : Program} {f : FuncId} {args : List V} {r : V} {R : V → St → Prop} (h : PSt P f args ⟨fun _ => .junk, noH, noC⟩ R) (hR : ∀ v σ, R v σ → snap σ.H 8 v = r) : PRet P f args r := by
  obtain ⟨hen, hc⟩ := core_of_pst h
  refine ⟨hen, fun imm w vs h1 h2 h3 => (hc imm w vs h1 h2 h3).mono ?_⟩
  rintro e w' ⟨n, g, σ', a', u, v, hs', hrep, hr, rfl⟩
  exact ⟨u, allImm g σ'.H, rfl, hR v σ' hr ▸ snap_rep hs' 8 hrep, hs'.below.below, fun b hb => .inl (hs'.imm0 b hb), allImm_from hs'⟩
theorem pretF_of_pst {P : Program} {f : FuncId} {args : List V} {r : V} {R : V → St → Prop} (h : PSt P f args ⟨fun _ => .junk, noH, noC⟩ R) (hR : ∀ v σ, R v σ → snap σ.H 8 v = r ∧ frs σ.H 8 v = true) : PRetF P f args r := by
  obtain ⟨hen, hc⟩ := core_of_pst h
  refine ⟨hen, fun imm w vs h1 h2 h3 => (hc imm w vs h1 h2 h3).mono ?_⟩
  rintro e w' ⟨n, g, σ', a', u, v, hs', hrep, hr, rfl⟩
  obtain ⟨e1, hfr⟩ := hR v σ' hr
  refine ⟨u, ownI g σ'.H, rfl, e1 ▸ frs_rep hs' 8 hrep hfr, hs'.below.below, fun b hb => ?_⟩
  obtain ⟨key, o, hk, hb⟩ := hb
  have := (hs'.obj key o hk).blk hb
  refine ⟨?_, this.1⟩
  rcases this.2.2 with h | h
  · exact h
  · exact h.2.elim

noncomputable def retR (d : Db) (t : Tq V) (r : Option (V × Hq)) : Ro := Option.rec (motive := fun _ => Ro) (.err 0) (fun p => Prod.rec (motive := fun _ => Ro) (fun v h' => .ok (d.s v t) h') p) r
theorem retR_ok {d : Db} {t t' : Tq V} {h' : Hq} {r : Option (V × Hq)} (e : retR d t r = .ok t' h') : ∃ v, r = some (v, h') ∧ t' = d.s v t := by
  cases r with
  | none => cases e
  | some p => obtain ⟨v, h1⟩ := p; cases e; exact ⟨v, rfl, rfl⟩
noncomputable def retC (d : Db) (t : Tq V) (r : Rc) : Ro := Rc.rec (motive := fun _ => Ro) (fun n => .err n) (fun v h' => .ok (d.s v t) h') r
theorem retC_ok {d : Db} {t t' : Tq V} {h' : Hq} {r : Rc} (e : retC d t r = .ok t' h') : ∃ v, r = .ok v h' ∧ t' = d.s v t := by
  cases r with
  | err n => cases e
  | ok v h1 => cases e; exact ⟨v, rfl, rfl⟩
/-- A call that is walked into. -/
noncomputable def obCl (d : Db) (f : FuncId) (as : Lb) : Ob := ⟨fun cl t h => retC d t (cl f (as.f t) h)⟩
noncomputable def obCv (d : Db) (x : Rb) (as : Lb) : Ob := ⟨fun cl t h => F6.rec (motive := fun _ => Ro) (.err 0) (fun f cap => retC d t (cl f (as.f t ++ cap) h)) (asF (x.g t))⟩

/-- A box that does what the plain logic says of a step whose guard lets it run. -/
def ObOkC (P : Program) (s : Nat) (d : Option Nat) (op : IOp) (b : Ob) : Prop := ∀ (cl : Cl), ClOk P cl → ∀ (o : Nat → V) (t : Tq V) (h : Hq) (t' : Tq V) (h' : Hq), b.run cl t h = .ok t' h' → ∀ K : St → Prop, K (denq o t' h') → ∀ g, gd (tmQ o t) g = some true → vstepC P s ⟨d, op, g⟩ K (denq o t h)
def ObOkD (P : Program) (s : Nat) (d : Option Nat) (op : IOp) (b : Ob) : Prop := ∀ (cl : Cl), ClOk P cl → ∀ (o : Nat → V) (t : Tq V) (h : Hq) (t' : Tq V) (h' : Hq), b.run cl t h = .ok t' h' → ∀ K : St → Prop, K (denq o t' h') → vres P (denq o t h) s d K (lop op (tmQ o t) h.H)

section
variable {P : Program} {s : Nat} {d : Option Nat} {op : IOp} {b : Ob}
theorem vresM_of_vres {σ : St} {K : St → Prop} {r : LRes} (h : vres P σ s d K r) : vresM P σ s d K r := by
  cases r with
  | call pre f a b => exact ⟨h.1, .inl h.2⟩
  | _ => exact h
theorem vstepM_run {g : Option (Nat × Bool)} {σ : St} {K : St → Prop} (hg : gd σ.tm g = some true) (h : vresM P σ s d K (lop op σ.tm σ.H)) : vstepM P s ⟨d, op, g⟩ K σ := by
  unfold vstepM
  rw [hg]; exact h
theorem okC_of (h : ObOk s d op b) : ObOkC P s d op b := fun cl _ o t h0 t' h' e K hK g hg => ⟨_, Ent.refl _, .inl (vstepM_run hg (vresM_of_vres (h P cl o t h0 t' h' e K hK)))⟩
theorem okD_of (h : ObOk s d op b) : ObOkD P s d op b := fun cl _ o t h0 t' h' e K hK => h P cl o t h0 t' h' e K hK
theorem okC_err : ObOkC P s d op obErr := fun _ _ _ _ _ _ _ e => by cases e
theorem okD_err : ObOkD P s d op obErr := fun _ _ _ _ _ _ _ e => by cases e
theorem ckC {q : Bool} (h : q = true → ObOkC P s d op b) : ObOkC P s d op (ck q b) := by
  cases q with
  | false => exact okC_err
  | true => exact h rfl
theorem ckD {q : Bool} (h : q = true → ObOkD P s d op b) : ObOkD P s d op (ck q b) := by
  cases q with
  | false => exact okD_err
  | true => exact h rfl

theorem obG_run {k : Nat} {want : Bool} {cl : Cl} {o : Nat → V} {t t' : Tq V} {h h' : Hq} (e : (obG (some (k, want)) d b).run cl t h = .ok t' h') :
    (gd (tmQ o t) (some (k, want)) = some true ∧ b.run cl t h = .ok t' h') ∨ (gd (tmQ o t) (some (k, want)) = some false ∧ t' = (dbOf d).s (.tup []) t ∧ h' = h) := by
  have e : (Bool.rec (motive := fun _ => Ob) obErr ⟨fun cl t h => Gg.rec (motive := fun _ => Ro) (.err 0) (b.run cl t h) (.ok ((dbOf d).s (.tup []) t) h) (gdF want ((acOf V.junk k).g t))⟩ (Nat.blt k 100000) : Ob).run cl t h = .ok t' h' := e
  rw [nblt] at e
  by_cases hk : k < 100000
  case neg => rw [decide_eq_false hk] at e; cases e
  rw [decide_eq_true hk] at e
  have e : Gg.rec (motive := fun _ => Ro) (.err 0) (b.run cl t h) (.ok ((dbOf d).s (.tup []) t) h) (gdF want ((acOf V.junk k).g t)) = .ok t' h' := e
  have ht : (acOf V.junk k).g t = tmQ o t k := by rw [acOf_g (by omega), tmQ, if_pos hk]
  rw [ht] at e
  obtain ⟨h1, h2⟩ := gdF_ok (want := want) (tm := tmQ o t) (k := k)
  cases hg : gdF want (tmQ o t k) with
  | err => rw [hg] at e; cases e
  | run => rw [hg] at e; exact .inl ⟨h1 hg, e⟩
  | skip => rw [hg] at e; cases e; exact .inr ⟨h2 hg, rfl, rfl⟩
/-- With its guard. -/
theorem gdC {g : Option (Nat × Bool)} (hd : dlo d = true) (h : ObOkC P s d op b) (cl : Cl) (hcl : ClOk P cl) (o : Nat → V) (t : Tq V) (h0 : Hq) (t' : Tq V) (h' : Hq) (e : (obG g d b).run cl t h0 = .ok t' h') (K : St → Prop) (hK : K (denq o t' h')) : vstepC P s ⟨d, op, g⟩ K (denq o t h0) := by
  cases g with
  | none => exact h cl hcl o t h0 t' h' e K hK none rfl
  | some p =>
    obtain ⟨k, want⟩ := p
    rcases obG_run (o := o) e with ⟨h1, h2⟩ | ⟨h1, rfl, rfl⟩
    · exact h cl hcl o t h0 t' h' h2 K hK _ h1
    · refine ⟨_, Ent.refl _, .inl ?_⟩
      have h1 : gd (denq o t h').tm (some (k, want)) = some false := h1
      unfold vstepM
      rw [h1]
      rw [denq_put hd] at hK
      exact hK
theorem gdD {g : Option (Nat × Bool)} (hd : dlo d = true) (h : ObOkD P s d op b) (cl : Cl) (hcl : ClOk P cl) (o : Nat → V) (t : Tq V) (h0 : Hq) (t' : Tq V) (h' : Hq) (e : (obG g d b).run cl t h0 = .ok t' h') (K : St → Prop) (hK : K (denq o t' h')) : vstep P s ⟨d, op, g⟩ K (denq o t h0) := by
  cases g with
  | none => rw [vstep_none]; exact h cl hcl o t h0 t' h' e K hK
  | some p =>
    obtain ⟨k, want⟩ := p
    unfold vstep
    rcases obG_run (o := o) e with ⟨h1, h2⟩ | ⟨h1, rfl, rfl⟩
    · have h1 : gd (denq o t h0).tm (some (k, want)) = some true := h1
      rw [h1]
      exact h cl hcl o t h0 t' h' h2 K hK
    · have h1 : gd (denq o t h').tm (some (k, want)) = some false := h1
      rw [h1]
      rw [denq_put hd] at hK
      exact hK

/-! Calls that are walked into. -/
theorem obCl_ok {f : FuncId} {args : List Rd} (hd : dlo d = true) (hl : llo args = true) : ObOkC P s d (.call f args) (obCl (dbOf d) f (lbOf args)) := by
  intro cl hcl o t h t' h' e K hK g hg
  obtain ⟨v, h1, rfl⟩ := retC_ok e
  rw [lb_ok o t args hl] at h1
  refine ⟨_, Ent.refl _, .inr (.inl ⟨hg, _, f, _, _, rfl, _, hcl f _ h v h' h1 (tmQ o t), ?_⟩)⟩
  rintro v1 σ1 ⟨rfl, rfl⟩
  rw [denq_put hd] at hK
  exact hK
theorem obCv_ok {x : Rd} {args : List Rd} (hd : dlo d = true) (hx : rlo x = true) (hl : llo args = true) : ObOkC P s d (.callv x args) (obCv (dbOf d) (rbOf x) (lbOf args)) := by
  intro cl hcl o t h t' h' e K hK g hg
  have e : F6.rec (motive := fun _ => Ro) (.err 0) (fun f cap => retC (dbOf d) t (cl f ((lbOf args).f t ++ cap) h)) (asF ((rbOf x).g t)) = .ok t' h' := e
  rw [rb_ok hx o t] at e
  cases hf : asF (x.get (tmQ o t)) with
  | no => rw [hf] at e; cases e
  | fn f cap =>
    rw [hf] at e
    obtain ⟨v, h1, rfl⟩ := retC_ok e
    rw [lb_ok o t args hl] at h1
    have hl2 : lop (.callv x args) (denq o t h).tm (denq o t h).H = .call ((args.map (Rd.get (tmQ o t)) ++ cap).all (sok h.H 8) = true) f (args.map (Rd.get (tmQ o t)) ++ cap) ((args.map (Rd.get (tmQ o t)) ++ cap).map (snap h.H 8)) := by
      show lcallv _ (x.get (tmQ o t)) _ = _
      rw [asF_fn hf]; rfl
    refine ⟨_, Ent.refl _, .inr (.inl ⟨hg, _, f, _, _, hl2, _, hcl f _ h v h' h1 (tmQ o t), ?_⟩)⟩
    rintro v1 σ1 ⟨rfl, rfl⟩
    rw [denq_put hd] at hK
    exact hK

/-! Appending, where the row may hold more. -/
noncomputable def keyEq (a b : Key) : Bool := Prod.rec (motive := fun _ => Bool) (fun s n => Prod.rec (motive := fun _ => Bool) (fun s' n' => Bool.rec (motive := fun _ => Bool) false (Nat.beq n n') (Nat.beq s s')) b) a
theorem keyEq_eq (a b : Key) : keyEq a b = decide (a = b) := by
  obtain ⟨s, n⟩ := a
  obtain ⟨s', n'⟩ := b
  show Bool.rec (motive := fun _ => Bool) false (Nat.beq n n') (Nat.beq s s') = _
  rw [nbeq, nbeq]
  by_cases h1 : s = s' <;> by_cases h2 : n = n' <;> simp [h1, h2]
noncomputable def srcNe (k : Key) (y : V) : Bool := X6.rec (motive := fun _ => Bool) false (fun _ _ => true) (fun k' _ _ _ => bNot (keyEq k k')) (fun _ _ _ _ _ => false) true (fun _ => true) (asX y)
theorem srcNe_ok {k : Key} {y : V} {H : Heap} {o : LObj} {esz : Nat} (h : srcNe k y = true) : srcOf (hupd H k o) esz y = srcOf H esz y := by
  unfold srcNe at h
  cases hy : asX y with
  | no => rw [hy] at h; cases h
  | mv => rw [hy] at h; cases h
  | sl n cs => rw [asX_sl hy]; rfl
  | e0 => rw [asX_e0 hy]; rfl
  | st l => rw [asX_st hy]; rfl
  | ms k' g o' n =>
    rw [hy] at h
    have h : bNot (keyEq k k') = true := h
    rw [bNot_eq, keyEq_eq] at h
    have hne : k' ≠ k := by
      rintro rfl
      simp at h
    rw [asX_ms hy]
    simp only [srcOf, hupd, if_neg hne]
noncomputable def obAp (d : Db) (s esz bytes : Nat) (x y : Rb) : Ob := ⟨fun _ t h => Option.rec (motive := fun _ => Ro) (.err 0) (fun r => X6.rec (motive := fun _ => Ro) (.err 0) (fun _ _ => .err 0) (fun k g o n => Bool.rec (motive := fun _ => Ro) (.err 0) (Bool.rec (motive := fun _ => Ro) (.err 0) (retR d t (appF esz bytes h k g n r)) (srcNe k (y.g t))) (Nat.beq o 0)) (fun _ _ _ _ _ => (.err 0))
  (Sr.rec (motive := fun _ => Ro) (fun m ys => Bool.rec (motive := fun _ => Ro) (.err 0) (newR d (fun k => .msl k 0 0 m) s t h (.row 0 esz ys)) (Bool.rec (motive := fun _ => Bool) false (Bool.rec (motive := fun _ => Bool) false (allF oneF ys) (Nat.ble m 4611686018427387904)) (Nat.ble (m * bytes) 140737488355328))) r)
  (fun _ => (.err 0)) (asX (x.g t))) (qSrc h esz (y.g t))⟩
theorem bool_and {b c : Bool} (h : Bool.rec (motive := fun _ => Bool) false c b = true) : b = true ∧ c = true := by
  cases b with
  | false => cases h
  | true => exact ⟨rfl, h⟩
theorem bool_err {b : Bool} {x : Ro} {t : Tq V} {h : Hq} (e : Bool.rec (motive := fun _ => Ro) (.err 0) x b = .ok t h) : b = true ∧ x = .ok t h := by
  cases b with
  | false => cases e
  | true => exact ⟨rfl, e⟩
theorem obAp_ok {esz bytes : Nat} {x y : Rd} (hd : dlo d = true) (hx : rlo x = true) (hy : rlo y = true) : ObOkC P s d (.app esz bytes x y) (obAp (dbOf d) s esz bytes (rbOf x) (rbOf y)) := by
  intro cl hcl o t h t' h' e K hK g hg
  have e : Option.rec (motive := fun _ => Ro) (.err 0) (fun r => X6.rec (motive := fun _ => Ro) (.err 0) (fun _ _ => .err 0) (fun k g o n => Bool.rec (motive := fun _ => Ro) (.err 0) (Bool.rec (motive := fun _ => Ro) (.err 0) (retR (dbOf d) t (appF esz bytes h k g n r)) (srcNe k ((rbOf y).g t))) (Nat.beq o 0)) (fun _ _ _ _ _ => (.err 0))
    (Sr.rec (motive := fun _ => Ro) (fun m ys => Bool.rec (motive := fun _ => Ro) (.err 0) (newR (dbOf d) (fun k => .msl k 0 0 m) s t h (.row 0 esz ys)) (Bool.rec (motive := fun _ => Bool) false (Bool.rec (motive := fun _ => Bool) false (allF oneF ys) (Nat.ble m 4611686018427387904)) (Nat.ble (m * bytes) 140737488355328))) r)
    (fun _ => (.err 0)) (asX ((rbOf x).g t))) (qSrc h esz ((rbOf y).g t)) = .ok t' h' := e
  rw [rb_ok hx o t, rb_ok hy o t] at e
  cases hs : qSrc h esz (y.get (tmQ o t)) with
  | none => rw [hs] at e; cases e
  | some r =>
    rw [hs] at e
    have hs := qSrc_ok hs
    cases hX : asX (x.get (tmQ o t)) with
    | no => rw [hX] at e; cases e
    | sl => rw [hX] at e; cases e
    | mv => rw [hX] at e; cases e
    | st => rw [hX] at e; cases e
    | e0 =>
      rw [hX] at e
      obtain ⟨m, ys⟩ := r
      obtain ⟨hc, e⟩ := bool_err e
      obtain ⟨h1, hc⟩ := bool_and hc
      obtain ⟨h2, h3⟩ := bool_and hc
      have h1 := nble_le h1
      have h2 := nble_le h2
      rw [allF_eq, oneF_fun] at h3
      refine ⟨_, Ent.refl _, .inl (vstepM_run hg ?_)⟩
      have hl : lop (.app esz bytes x y) (tmQ o t) h.H = .C (m * bytes ≤ 140737488355328 ∧ m ≤ 4611686018427387904 ∧ ys.all V.one = true) (.row 0 esz ys) fun k => .msl k 0 0 m := by
        simp only [lop, lappx, hs, asX_e0 hX, lapp]
      show vresM P (denq o t h) s d K (lop (.app esz bytes x y) (tmQ o t) h.H)
      rw [hl]
      exact ⟨⟨h1, h2, h3⟩, newR_ok (mk := fun k => .msl k 0 0 m) hd e hK⟩
    | ms k g' of n =>
      rw [hX] at e
      obtain ⟨h0, e⟩ := bool_err e
      have h0 := Nat.eq_of_beq_eq_true h0
      subst h0
      obtain ⟨hne, e⟩ := bool_err e
      obtain ⟨v, h1, rfl⟩ := retR_ok e
      obtain ⟨cs, q1, q2, q3, rfl, q5, q6⟩ := appF_ok h1
      refine ⟨_, shrink_ent _ _ _ k (n * esz) q1, .inl (vstepM_run hg ?_)⟩
      have hk : hupd h.H k (.row g' esz (cs.take (n * esz))) k = some (.row g' esz (cs.take (n * esz))) := by simp [hupd]
      have hl : lop (.app esz bytes x y) (tmQ o t) (hupd h.H k (.row g' esz (cs.take (n * esz)))) = .D ((g' = g' ∧ esz = esz ∧ 0 = 0 ∧ (cs.take (n * esz)).length = n * esz) ∧ (n + r.n) * bytes ≤ 140737488355328 ∧ n + r.n ≤ 4611686018427387904 ∧ r.cs.all V.one = true)
          (.msl k (g' + 1) 0 (n + r.n)) (hupd (hupd h.H k (.row g' esz (cs.take (n * esz)))) k (.row (g' + 1) esz (cs.take (n * esz) ++ r.cs))) := by
        simp only [lop, lappx, srcNe_ok hne, hs, asX_ms hX, lapp, hk]
      show vresM P ⟨tmQ o t, hupd h.H k (.row g' esz (cs.take (n * esz))), h.c⟩ s d K (lop (.app esz bytes x y) (tmQ o t) (hupd h.H k (.row g' esz (cs.take (n * esz)))))
      rw [hl]
      refine ⟨⟨⟨rfl, rfl, rfl, by rw [List.length_take]; omega⟩, q3⟩, ?_⟩
      rw [denq_put hd, q5, q6] at hK
      have hh : hupd (hupd h.H k (.row g' esz (cs.take (n * esz)))) k (.row (g' + 1) esz (cs.take (n * esz) ++ r.cs)) = hupd h.H k (.row (g' + 1) esz (cs.take (n * esz) ++ r.cs)) := by
        funext x
        simp only [hupd]
        split <;> rfl
      rw [hh]
      exact hK

/-! Literals of the call's own. -/
noncomputable def obLi (d : Db) (s n : Nat) (zs : List V) (fl : Fl) : Ob := obC d s (fun k => .msl k 0 0 n) fun t _ => Option.rec (motive := fun _ => Option LObj) none (fun cs => some (.row 0 (zs.length / n) cs)) (fl.f t zs)
theorem obLi_ok {n : Nat} {zs : List V} {ps : List (Nat × Nat × Rd)} (hd : dlo d = true) (hp : plo ps = true) (hn : n ≠ 0) (cl : Cl) (o : Nat → V) (t : Tq V) (h : Hq) (t' : Tq V) (h' : Hq) (e : (obLi (dbOf d) s n zs (flOf ps)).run cl t h = .ok t' h') (K : St → Prop) (hK : K (denq o t' h')) : vstepL P s ⟨d, .bsl n zs ps, none⟩ K (denq o t h) := by
  have e : Option.rec (motive := fun _ => Ro) (.err 0) (fun ob => newR (dbOf d) (fun k => .msl k 0 0 n) s t h ob) (Option.rec (motive := fun _ => Option LObj) none (fun cs => some (.row 0 (zs.length / n) cs)) ((flOf ps).f t zs)) = .ok t' h' := e
  cases hf : (flOf ps).f t zs with
  | none => rw [hf] at e; cases e
  | some cs =>
    rw [hf] at e
    obtain ⟨e1, e2, _⟩ := flOf_ok o t ps zs cs hp hf
    show vres P (denq o t h) s d K (litR (.bsl n zs ps) (tmQ o t))
    rw [litR_bsl, if_neg hn, e2]
    exact ⟨e1, newR_ok (mk := fun k => .msl k 0 0 n) hd e hK⟩

/-! Calls of which only the result is kept. -/
noncomputable def flatQ (d : Nat) : V → Bool := Nat.rec (motive := fun _ => V → Bool) (fun v => (V.rec (motive_1 := fun _ => Bool) (motive_2 := fun _ => Unit) (motive_3 := fun _ => Unit) (motive_4 := fun _ => Unit) (fun _ _ => true) (fun _ => true) (fun _ => true) (fun _ _ => false) (fun _ _ => false) (fun _ _ _ => false) (true) (fun _ _ _ _ => false) (fun _ _ _ _ _ => false) (true) (fun _ _ _ => false) (fun _ _ _ => false) (fun _ _ _ => false) (true) (fun _ _ _ => false) (true) (true) (fun _ => false) (fun _ _ => false) (true) () (fun _ _ _ _ => ()) () (fun _ _ _ _ => ()) (fun _ _ _ _ => ()) v)) (fun _ ih v => (V.rec (motive_1 := fun _ => Bool) (motive_2 := fun _ => Unit) (motive_3 := fun _ => Unit) (motive_4 := fun _ => Unit) (fun _ _ => true) (fun _ => true) (fun _ => true) (fun cs _ => allF ih cs) (fun cs _ => allF ih cs) (fun _ _ _ => false) (true) (fun _ _ _ _ => false) (fun _ _ _ _ _ => false) (true) (fun _ _ _ => false) (fun _ _ _ => false) (fun t u _ => ih u) (true) (fun f cs _ => allF ih cs) (true) (true) (fun _ => false) (fun _ _ => false) (true) () (fun _ _ _ _ => ()) () (fun _ _ _ _ => ()) (fun _ _ _ _ => ()) v)) d
theorem flatQ_eq : ∀ (d : Nat) (v : V), flatQ d v = flat d v
  | 0, v => by cases v <;> rfl
  | d + 1, v => by
    have ih : flatQ d = flat d := funext fun v => flatQ_eq d v
    cases v <;> first
      | rfl
      | (show allF (flatQ d) _ = _; rw [allF_eq, ih]; rfl)
      | exact flatQ_eq d _
noncomputable def imQ (d : Nat) : V → Bool := Nat.rec (motive := fun _ => V → Bool) (fun v => (V.rec (motive_1 := fun _ => Bool) (motive_2 := fun _ => Unit) (motive_3 := fun _ => Unit) (motive_4 := fun _ => Unit) (fun _ _ => true) (fun _ => true) (fun _ => true) (fun _ _ => false) (fun _ _ => false) (fun _ _ _ => true) (true) (fun _ _ _ _ => false) (fun _ _ _ _ _ => false) (true) (fun _ _ _ => true) (fun _ _ _ => false) (fun _ _ _ => false) (true) (fun _ _ _ => false) (true) (true) (fun _ => false) (fun _ _ => true) (true) () (fun _ _ _ _ => ()) () (fun _ _ _ _ => ()) (fun _ _ _ _ => ()) v)) (fun _ ih v => (V.rec (motive_1 := fun _ => Bool) (motive_2 := fun _ => Unit) (motive_3 := fun _ => Unit) (motive_4 := fun _ => Unit) (fun _ _ => true) (fun _ => true) (fun _ => true) (fun cs _ => allF ih cs) (fun cs _ => allF ih cs) (fun _ _ _ => true) (true) (fun _ _ _ _ => false) (fun _ _ _ _ _ => false) (true) (fun _ _ _ => true) (fun _ _ _ => false) (fun t u _ => ih u) (true) (fun f cs _ => allF ih cs) (true) (true) (fun _ => false) (fun _ _ => true) (true) () (fun _ _ _ _ => ()) () (fun _ _ _ _ => ()) (fun _ _ _ _ => ()) v)) d
theorem imQ_eq : ∀ (d : Nat) (v : V), imQ d v = imV d v
  | 0, v => by cases v <;> rfl
  | d + 1, v => by
    have ih : imQ d = imV d := funext fun v => imQ_eq d v
    cases v <;> first
      | rfl
      | (show allF (imQ d) _ = _; rw [allF_eq, ih]; rfl)
      | exact imQ_eq d _
noncomputable def obPu (d : Db) (cl : Cl) (f : FuncId) (t : Tq V) (h : Hq) (args : List V) : Ro := Option.rec (motive := fun _ => Ro) (.err 0) (fun sargs => Rc.rec (motive := fun _ => Ro) (fun n => .err n) (fun u h2 => Option.rec (motive := fun _ => Ro) (.err 0) (fun r => Bool.rec (motive := fun _ => Ro) (Bool.rec (motive := fun _ => Ro) (Bool.rec (motive := fun _ => Ro) (.err 0) (.ok (d.s r t) h) (frs (Hq.H h2) 8 u)) (.ok (d.s r t) h) (allF (imQ 7) args)) (.ok (d.s r t) h) (flatQ 4 r)) (snQ 8 h2 u)) (cl f sargs .nil)) (mapO (snQ 8 h) args)
theorem nilH : Hq.H (.nil : Hq) = noH := by
  funext k
  show Ol.at Ol.z k.2 = none
  simp [Ol.at, Ol.z]
theorem nilC : Hq.c (.nil : Hq) = noC := rfl
theorem snap_im (H : Heap) : ∀ (d : Nat) (v : V), imV d v = true → ∀ d', d < d' → snap H d' v = v := by
  intro d
  induction d with
  | zero =>
    intro v h d' h0
    obtain ⟨d', rfl⟩ : ∃ e, d' = e + 1 := ⟨d' - 1, by omega⟩
    cases v <;> simp only [imV] at h <;> first | rfl | cases h
  | succ d ih =>
    intro v h d' h1
    obtain ⟨d', rfl⟩ : ∃ e, d' = e + 1 := ⟨d' - 1, by omega⟩
    have maps : ∀ cs : List V, cs.all (imV d) = true → cs.map (snap H d') = cs := by
      intro cs hcs
      have : ∀ c ∈ cs, snap H d' c = c := fun c hc => ih c (List.all_eq_true.1 hcs c hc) d' (by omega)
      exact (List.map_congr_left this).trans (List.map_id _)
    cases v <;> simp only [imV] at h <;> first | rfl | cases h | (simp only [snap, maps _ h]) | (simp only [snap, ih _ h d' (by omega)])
theorem obPu_ok {cl : Cl} (hcl : ClOk P cl) {f : FuncId} {o : Nat → V} {t t' : Tq V} {h h' : Hq} {args : List V} (hd : dlo d = true) (e : obPu (dbOf d) cl f t h args = .ok t' h') {K : St → Prop} (hK : K (denq o t' h')) :
    args.all (sok h.H 8) = true ∧ callV P f args (args.map (snap h.H 8)) d K (denq o t h) := by
  unfold obPu at e
  cases hm : mapO (snQ 8 h) args with
  | none => rw [hm] at e; cases e
  | some sargs =>
    rw [hm] at e
    obtain ⟨m1, rfl⟩ := mapO_ok (fun x y => snQ_ok 8 h x y) hm
    refine ⟨m1, ?_⟩
    have e : Rc.rec (motive := fun _ => Ro) (fun n => .err n) (fun u h2 => Option.rec (motive := fun _ => Ro) (.err 0) (fun r => Bool.rec (motive := fun _ => Ro) (Bool.rec (motive := fun _ => Ro) (Bool.rec (motive := fun _ => Ro) (.err 0) (.ok ((dbOf d).s r t) h) (frs (Hq.H h2) 8 u)) (.ok ((dbOf d).s r t) h) (allF (imQ 7) args)) (.ok ((dbOf d).s r t) h) (flatQ 4 r)) (snQ 8 h2 u)) (cl f (args.map (snap h.H 8)) .nil) = .ok t' h' := e
    cases hc : cl f (args.map (snap h.H 8)) .nil with
    | err n => rw [hc] at e; cases e
    | ok u h2 =>
      rw [hc] at e
      have e : Option.rec (motive := fun _ => Ro) (.err 0) (fun r => Bool.rec (motive := fun _ => Ro) (Bool.rec (motive := fun _ => Ro) (Bool.rec (motive := fun _ => Ro) (.err 0) (.ok ((dbOf d).s r t) h) (frs (Hq.H h2) 8 u)) (.ok ((dbOf d).s r t) h) (allF (imQ 7) args)) (.ok ((dbOf d).s r t) h) (flatQ 4 r)) (snQ 8 h2 u) = .ok t' h' := e
      cases hr : snQ 8 h2 u with
      | none => rw [hr] at e; cases e
      | some r =>
        rw [hr] at e
        obtain ⟨_, hsn⟩ := snQ_ok 8 h2 u r hr
        have hp := hcl f _ _ u h2 hc fun _ => .junk
        rw [nilH, nilC] at hp
        have hret : PRet P f (args.map (snap h.H 8)) r := pret_of_pst hp (by rintro v σ ⟨rfl, rfl⟩; exact hsn)
        have e : Bool.rec (motive := fun _ => Ro) (Bool.rec (motive := fun _ => Ro) (Bool.rec (motive := fun _ => Ro) (.err 0) (.ok ((dbOf d).s r t) h) (frs (Hq.H h2) 8 u)) (.ok ((dbOf d).s r t) h) (allF (imQ 7) args)) (.ok ((dbOf d).s r t) h) (flatQ 4 r) = .ok t' h' := e
        have fin : resOk P f args (args.map (snap h.H 8)) r → Ro.ok ((dbOf d).s r t) h = .ok t' h' → callV P f args (args.map (snap h.H 8)) d K (denq o t h) := by
          intro hres e
          cases e
          rw [denq_put hd] at hK
          exact ⟨r, hret, hres, hK⟩
        rw [flatQ_eq, allF_eq] at e
        cases c1 : flat 4 r with
        | true => rw [c1] at e; exact fin (.inl (.inr c1)) e
        | false =>
          rw [c1] at e
          cases c2 : args.all (imQ 7) with
          | true =>
            rw [c2] at e
            refine fin (.inl (.inl ?_)) e
            refine ((List.map_congr_left fun c hc' => ?_).trans (List.map_id _)).symm
            have := List.all_eq_true.1 c2 c hc'
            rw [imQ_eq] at this
            exact snap_im h.H 7 c this 8 (by omega)
          | false =>
            rw [c2] at e
            obtain ⟨c3, e⟩ := bool_err e
            exact fin (.inr (pretF_of_pst hp (by rintro v σ ⟨rfl, rfl⟩; exact ⟨hsn, c3⟩))) e
noncomputable def obPc (d : Db) (f : FuncId) (as : Lb) : Ob := ⟨fun cl t h => obPu d cl f t h (as.f t)⟩
noncomputable def obPv (d : Db) (x : Rb) (as : Lb) : Ob := ⟨fun cl t h => F6.rec (motive := fun _ => Ro) (.err 0) (fun f cap => obPu d cl f t h (as.f t ++ cap)) (asF (x.g t))⟩
theorem obPc_ok {f : FuncId} {args : List Rd} (hd : dlo d = true) (hl : llo args = true) : ObOkD P s d (.call f args) (obPc (dbOf d) f (lbOf args)) := by
  intro cl hcl o t h t' h' e K hK
  have e : obPu (dbOf d) cl f t h ((lbOf args).f t) = .ok t' h' := e
  rw [lb_ok o t args hl] at e
  exact obPu_ok hcl hd e hK
theorem obPv_ok {x : Rd} {args : List Rd} (hd : dlo d = true) (hx : rlo x = true) (hl : llo args = true) : ObOkD P s d (.callv x args) (obPv (dbOf d) (rbOf x) (lbOf args)) := by
  intro cl hcl o t h t' h' e K hK
  have e : F6.rec (motive := fun _ => Ro) (.err 0) (fun f cap => obPu (dbOf d) cl f t h ((lbOf args).f t ++ cap)) (asF ((rbOf x).g t)) = .ok t' h' := e
  rw [rb_ok hx o t] at e
  cases hf : asF (x.get (tmQ o t)) with
  | no => rw [hf] at e; cases e
  | fn f cap =>
    rw [hf] at e
    have e : obPu (dbOf d) cl f t h ((lbOf args).f t ++ cap) = .ok t' h' := e
    rw [lb_ok o t args hl] at e
    have := obPu_ok hcl hd e hK
    simp only [lop, asF_fn hf]
    exact this
end
end Go.Lg
