/-
  Each operation of the plain logic is borne out by the model's own: addresses, parts, slices.
-/
import Derived.Test.YtgpeaibhhonikaaGreatDoorLgF
set_option linter.unusedSimpArgs false
set_option linter.unusedVariables false
namespace Go.Lg
open Go Go.RowKit

section
variable {P : Program} {g : Gh} {w w' : World} {E : Env} {σ : St} {a : Act}

theorem Rep.sl_len {v : Value} {x : V} {n : Nat} (h : Rep g w v x) (hn : lenV x = some n) : (∃ A c, v = .slice A n c ∧ n ≤ c) ∨ (∃ s : ByteArray, v = .string s ∧ x = .str s ∧ s.size = n) := by
  cases x with
  | sl m cs => cases hn; obtain ⟨A, c, rfl, _, h⟩ := h.sl_inv; exact .inl ⟨A, c, rfl, h⟩
  | msl k g' off m => cases hn; obtain ⟨c, A, blk, cap, rfl, _, _, h, _⟩ := h.msl_inv; exact .inl ⟨A, c, rfl, h⟩
  | msv k g' off m e => cases hn; obtain ⟨c, A, b, cap, rfl, _, h, _⟩ := h.msv_inv; exact .inl ⟨A, c, rfl, h⟩
  | e0 => cases hn; obtain ⟨A, rfl⟩ := h.e0_inv; exact .inl ⟨A, 0, rfl, Nat.le_refl _⟩
  | str s => cases hn; have := h.str_inv; exact .inr ⟨s, this, rfl, rfl⟩
  | _ => cases hn

theorem fieldPlace_run {b off s : Nat} {f : Field} (hsz : szT P f.type = some s) (h0 : s ≠ 0) :
    (fieldPlace ⟨b, off, none⟩ f).run P w = .ok ⟨b, off + f.offset, none⟩ w := by
  unfold fieldPlace
  simp [szT_run hsz, h0, addr_add]

theorem fad_pure {t : TypeId} {k s : Nat} {fs : Array Field} {f : Field} {v : Value} {x : V} (ht : P.underlying t = some (.struct fs)) (hf : fs[k]? = some f) (hsz : szT P f.type = some s) (h0 : s ≠ 0)
    (h : Rep g w v x) : LRes.pureOk P g w (Instr.fieldAt t v k) (lfad f.offset x) := by
  have key : ∀ b off, (Instr.fieldAt t (.pointer (some ⟨b, off, none⟩)) k).run P w = .ok (.pointer (some ⟨b, off + f.offset, none⟩)) w := by
    intro b off
    simp [Instr.fieldAt, run_underlying ht, hf, Instr.sureAddr, fieldPlace_run hsz h0]
  cases x with
  | ip cs o =>
    intro _
    obtain ⟨b, o', us, T, fz, rfl, h1, h2, h3, h4⟩ := h.ip_inv
    exact ⟨_, key _ _, .imm _ _ (by rw [Nat.add_assoc]; exact .ip b o' _ us T fz cs h1 h2 h3 h4)⟩
  | mp k' g' o =>
    intro _
    obtain ⟨b, cap, hb, rfl⟩ := h.mp_inv
    exact ⟨_, key _ _, .mp _ _ _ _ cap hb⟩
  | _ => trivial

theorem nil_ok (hs : SimG E g σ a w) {s : Nat} {v : Value} {x : V} (h : Rep g w v x) {q : Sem Next}
    (hq : ∀ ad, v = .pointer (some ad) → q = pure (.value v)) : LRes.ok P E g σ a w s q (lnil x) := by
  cases x with
  | ip cs o =>
    intro _
    obtain ⟨b, o', us, T, fz, e, _⟩ := h.ip_inv
    exact ⟨v, w, g, by rw [hq _ e]; rfl, hs, h⟩
  | mp k' g' o =>
    intro _
    obtain ⟨b, cap, hb, e⟩ := h.mp_inv
    exact ⟨v, w, g, by rw [hq _ e]; rfl, hs, h⟩
  | _ => trivial

theorem part_run {t n off : Nat} {agg : Bool} {us : Array Value} {cs : List V} {v : V} (hsz : szT P t = some n) (hagg : aggOf P t = some agg) (hl : us.size = cs.length)
    (hr : ∀ (j : Nat) (u : Value) (c : V), us[j]? = some u → cs[j]? = some c → Rep g w u c) (h : ldV agg n cs off = some v) :
    ∃ u, (part t us off).run P w = .ok u w ∧ Rep g w u v := by
  obtain ⟨h1, h2⟩ := ldV_sound (us := us) (o := 0) (by omega) (fun j u c h1 h2 => hr j u c (by simpa using h1) h2) h
  cases agg with
  | true =>
    obtain ⟨hle, hv⟩ := h1 rfl
    rw [Nat.zero_add] at hv
    exact ⟨_, by simp [part, aggOf_run hagg, szT_run hsz], hv⟩
  | false =>
    obtain ⟨u, hu, hv⟩ := h2 rfl
    rw [Nat.zero_add] at hu
    exact ⟨u, by simp [part, aggOf_run hagg, hu], hv⟩

theorem fld_pure {t : TypeId} {k n : Nat} {agg : Bool} {fs : Array Field} {f : Field} {v : Value} {x : V} (ht : P.underlying t = some (.struct fs)) (hf : fs[k]? = some f) (hsz : szT P f.type = some n)
    (hagg : aggOf P f.type = some agg) (h : Rep g w v x) : LRes.pureOk P g w (Instr.field t v k) (lfld agg n f.offset x) := by
  cases x with
  | agg cs =>
    obtain ⟨vs, rfl, hl, hr⟩ := h.agg_inv
    simp only [lfld, LRes.ofOpt]
    cases hv : ldV agg n cs f.offset with
    | none => trivial
    | some v =>
      intro _
      obtain ⟨u, h1, h2⟩ := part_run (P := P) hsz hagg hl hr hv
      exact ⟨u, by simp [Instr.field, run_underlying ht, hf, asAgg, h1], h2⟩
  | _ => trivial

theorem int_of {v : Value} {k n} (h : Rep g w v (.int k n)) : v = .int k n := h.int_inv

theorem iaA_pure {t e : TypeId} {len s : Nat} {v vi : Value} {x i : V} (ht : P.underlying t = some (.array len e)) (hsz : szT P e = some s) (h : Rep g w v x) (hi : Rep g w vi i) :
    LRes.pureOk P g w (Instr.indexAt t v vi) (liaA len s x i) := by
  cases i with
  | int k n =>
    have := hi.int_inv; subst this
    have key : ∀ b off, 0 ≤ n ∧ n < (len : Int) → (Instr.indexAt t (.pointer (some ⟨b, off, none⟩)) (.int k n)).run P w = .ok (.pointer (some ⟨b, off + n.toNat * s, none⟩)) w := by
      intro b off hn
      have hlen : len ≠ 0 := by omega
      simp [Instr.indexAt, asIntOf, run_underlying ht, Instr.sureAddr, hn.1, hn.2, szT_run hsz, addr_add]
    cases x with
    | ip cs o =>
      intro hp
      obtain ⟨b, o', us, T, fz, rfl, h1, h2, h3, h4⟩ := h.ip_inv
      exact ⟨_, key _ _ hp, .imm _ _ (by rw [Nat.add_assoc]; exact .ip b o' _ us T fz cs h1 h2 h3 h4)⟩
    | mp k' g' o =>
      intro hp
      obtain ⟨b, cap, hb, rfl⟩ := h.mp_inv
      exact ⟨_, key _ _ hp, .mp _ _ _ _ cap hb⟩
    | _ => trivial
  | _ => trivial

theorem iaS_pure {t e : TypeId} {s : Nat} {v vi : Value} {x i : V} (ht : P.underlying t = some (.slice e)) (hsz : szT P e = some s) (h : Rep g w v x) (hi : Rep g w vi i) :
    LRes.pureOk P g w (Instr.indexAt t v vi) (liaS s x i) := by
  cases i with
  | int k n =>
    have := hi.int_inv; subst this
    have key : ∀ (b off m c : Nat), 0 ≤ n ∧ n < (m : Int) → (Instr.indexAt t (.slice (some ⟨b, off, none⟩) m c) (.int k n)).run P w = .ok (.pointer (some ⟨b, off + n.toNat * s, none⟩)) w := by
      intro b off m c hn
      simp [Instr.indexAt, asIntOf, run_underlying ht, hn.1, hn.2, szT_run hsz, addr_add]
    cases x with
    | sl m cs =>
      intro hp
      obtain ⟨A, c, rfl, h1, h2⟩ := h.sl_inv
      cases h1 with
      | sl0 => omega
      | sl b off _ _ us T fz _ q1 q2 q3 q4 q5 => exact ⟨_, key _ _ _ _ hp, .imm _ _ (.ip b off _ us T fz cs q1 q2 q3 q5)⟩
    | msl k' g' o m =>
      intro hp
      obtain ⟨c, A, blk, cap, rfl, q1, q2, q3, q4, q5⟩ := h.msl_inv
      cases blk with
      | none => have := q5 rfl; omega
      | some b =>
        have hA := q4 b rfl (by omega)
        subst hA
        exact ⟨_, key _ _ _ _ hp, .mp _ _ _ _ cap q1⟩
    | msv k' g' o m e =>
      intro hp
      obtain ⟨c, A, b, cap, rfl, q1, q3, q4⟩ := h.msv_inv
      have hA := q4 (by omega)
      subst hA
      exact ⟨_, key _ _ _ _ hp, .mp _ _ _ _ cap q1⟩
    | _ => trivial
  | _ => trivial

theorem ixS_pure {t : TypeId} {v vi : Value} {x i : V} (ht : P.underlying t = some .string) (h : Rep g w v x) (hi : Rep g w vi i) :
    LRes.pureOk P g w (Instr.index t v vi) (lixS x i) := by
  cases x with
  | str s =>
    have := h.str_inv; subst this
    cases i with
    | int k n =>
      have := hi.int_inv; subst this
      simp only [lixS]
      cases hb : s.data[n.toNat]? with
      | none => trivial
      | some b =>
        intro hp
        refine ⟨_, ?_, rint _ _⟩
        have e : s[n.toNat]? = some b := by
          rw [← hb]
          simp only [getElem?_def, ByteArray.size]
          rfl
        simp [Instr.index, asIntOf, run_underlying ht, hp, e]
    | _ => trivial
  | _ => trivial

theorem ixA_pure {t e : TypeId} {len n : Nat} {agg : Bool} {v vi : Value} {x i : V} (ht : P.underlying t = some (.array len e)) (hsz : szT P e = some n) (hagg : aggOf P e = some agg) (h : Rep g w v x) (hi : Rep g w vi i) :
    LRes.pureOk P g w (Instr.index t v vi) (lixA agg len n x i) := by
  cases x with
  | agg cs =>
    obtain ⟨vs, rfl, hl, hr⟩ := h.agg_inv
    cases i with
    | int k j =>
      have := hi.int_inv; subst this
      simp only [lixA]
      cases hv : ldV agg n cs (j.toNat * n) with
      | none => trivial
      | some v =>
        intro hp
        obtain ⟨u, h1, h2⟩ := part_run (P := P) hsz hagg hl hr hv
        exact ⟨u, by simp [Instr.index, asIntOf, run_underlying ht, hp.1, hp.2, szT_run hsz, h1], h2⟩
    | _ => trivial
  | _ => trivial

theorem ext_pure {i : Nat} {v : Value} {x : V} (h : Rep g w v x) : LRes.pureOk P g w (Instr.extract v i) (lext i x) := by
  cases x with
  | tup cs =>
    obtain ⟨vs, rfl, hl, hr⟩ := h.tup_inv
    simp only [lext, LRes.ofOpt]
    cases hv : cs[i]? with
    | none => trivial
    | some c =>
      intro _
      have hlt : i < vs.size := by
        rcases Nat.lt_or_ge i cs.length with h' | h'
        · omega
        · rw [List.getElem?_eq_none h'] at hv; cases hv
      exact ⟨vs[i], by simp [Instr.extract, hlt], hr i _ _ (Array.getElem?_eq_getElem hlt) hv⟩
  | _ => trivial

theorem tas_pure {t xt : TypeId} {z : V} {d : TypeDesc} {v : Value} {x : V} (ht : P.underlying t = some d) (hd : ∀ ms, d ≠ .interface ms) (hz : zeroT P t = some z) (h : Rep g w v x) :
    LRes.pureOk P g w (Instr.typeAssert v xt t true) (ltas t z x) := by
  obtain ⟨zv, hzv, rfl⟩ := zeroT_run (w := w) hz
  have pair : ∀ (u : Value) (c : V) (b : Bool), Rep g w u c → Rep g w (.tuple #[u, .bool b]) (.tup [c, .bool b]) := by
    intro u c b h
    refine .tup _ _ rfl fun j u' c' hu hc => ?_
    match j with
    | 0 => simp at hu hc; subst hu hc; exact h
    | 1 => simp at hu hc; subst hu hc; exact rbool _
    | j + 2 => simp at hc
  cases x with
  | ifc t' y =>
    obtain ⟨u, rfl, hu⟩ := h.ifc_inv
    intro _
    by_cases e : t' = t
    · rw [if_pos e]
      refine ⟨_, ?_, pair u y true hu⟩
      cases d <;> first | exact absurd rfl (hd _) | simp [Instr.typeAssert, run_underlying ht, e]
    · rw [if_neg e]
      refine ⟨_, ?_, pair zv _ false (.imm _ _ (repI_ofVal _))⟩
      cases d <;> first | exact absurd rfl (hd _) | simp [Instr.typeAssert, run_underlying ht, e, hzv]
  | nili =>
    have := h.nili_inv; subst this
    intro _
    refine ⟨_, ?_, pair zv _ false (.imm _ _ (repI_ofVal _))⟩
    cases d <;> first | exact absurd rfl (hd _) | simp [Instr.typeAssert, run_underlying ht, hzv]
  | _ => trivial

theorem mn_pure {v vy : Value} {x y : V} (h : Rep g w v x) (hy : Rep g w vy y) : LRes.pureOk P g w (Builtin.min2 v vy) (lmn false x y) := by
  cases x with
  | int k n =>
    cases y with
    | int k' m =>
      have := h.int_inv; subst this
      have := hy.int_inv; subst this
      intro hp
      subst hp
      exact ⟨_, by simp [Builtin.min2], rint _ _⟩
    | _ => trivial
  | _ => trivial

theorem mx_pure {v vy : Value} {x y : V} (h : Rep g w v x) (hy : Rep g w vy y) : LRes.pureOk P g w (Builtin.max2 v vy) (lmn true x y) := by
  cases x with
  | int k n =>
    cases y with
    | int k' m =>
      have := h.int_inv; subst this
      have := hy.int_inv; subst this
      intro hp
      subst hp
      exact ⟨_, by simp [Builtin.max2], rint _ _⟩
    | _ => trivial
  | _ => trivial
theorem mx3_pure {v vy vz : Value} {x y z : V} (h : Rep g w v x) (hy : Rep g w vy y) (hz : Rep g w vz z) : LRes.pureOk P g w (do Builtin.max2 (← Builtin.max2 v vy) vz) (lmx3 x y z) := by
  cases x with
  | int k n =>
    cases y with
    | int k' m =>
      cases z with
      | int k'' q =>
        have := h.int_inv; subst this
        have := hy.int_inv; subst this
        have := hz.int_inv; subst this
        rintro ⟨rfl, rfl⟩
        exact ⟨_, by simp [Builtin.max2], rint _ _⟩
      | _ => trivial
    | _ => trivial
  | _ => trivial

/-- The bounds of a slice expression. -/
theorem bound_run {v : Value} {k n} {y : Nat} {code} (hv : v = .int k n) (h0 : 0 ≤ n) (h1 : n ≤ y) : (Instr.sliceBound v y code).run P w = .ok n.toNat w := by
  subst hv
  simp [Instr.sliceBound, asIntOf, h0, h1]

theorem bounds_run {isSlice : Bool} {len cap : Nat} {lo hi : Option Value} {l h : Int}
    (hl : match lo with | none => l = 0 | some v => ∃ k, v = .int k l) (hh : match hi with | none => h = len | some v => ∃ k, v = .int k h)
    (h0 : 0 ≤ l) (h1 : l ≤ h) (h2 : h ≤ cap) : (Instr.sliceBounds isSlice len cap lo hi none).run P w = .ok (l.toNat, h.toNat, cap) w := by
  cases lo with
  | none =>
    subst hl
    cases hi with
    | none => subst hh; simp [Instr.sliceBounds]
    | some v =>
      obtain ⟨k, hv⟩ := hh
      cases isSlice <;> simp [Instr.sliceBounds, bound_run hv (by omega : 0 ≤ h) h2]
  | some u =>
    obtain ⟨k, hu⟩ := hl
    cases hi with
    | none =>
      subst hh
      simp [Instr.sliceBounds, bound_run hu h0 h1]
    | some v =>
      obtain ⟨k', hv⟩ := hh
      have e : ((h.toNat : Nat) : Int) = h := by omega
      cases isSlice <;> simp [Instr.sliceBounds, bound_run hv (by omega : 0 ≤ h) h2, bound_run hu h0 (by rw [e]; exact h1)]

theorem lo_spec (hs : SimG E g σ a w) {lo : Option Operand} {l : Int} (h : loOf σ.tm (lo.map rdOf) = some l) :
    match lo.map a.eval with | none => l = 0 | some v => ∃ k, v = .int k l := by
  cases lo with
  | none => simp [loOf] at h; exact h.symm
  | some x =>
    simp only [Option.map_some, loOf] at h ⊢
    have hx := rep_rd hs.tm x
    split at h
    · rename_i k n e; cases h; rw [e] at hx; exact ⟨k, hx.int_inv⟩
    · cases h
theorem hi_spec (hs : SimG E g σ a w) {hi : Option Operand} {n : Nat} {l : Int} (h : hiOf σ.tm n (hi.map rdOf) = some l) :
    match hi.map a.eval with | none => l = n | some v => ∃ k, v = .int k l := by
  cases hi with
  | none => simp [hiOf] at h; exact h.symm
  | some x =>
    simp only [Option.map_some, hiOf] at h ⊢
    have hx := rep_rd hs.tm x
    split at h
    · rename_i k n e; cases h; rw [e] at hx; exact ⟨k, hx.int_inv⟩
    · cases h

theorem slS_pure (hs : SimG E g σ a w) {t : TypeId} {lo hi : Option Operand} {v : Value} {x : V} (ht : P.underlying t = some .string) (h : Rep g w v x) :
    LRes.pureOk P g w (Instr.sliceAt t v (lo.map a.eval) (hi.map a.eval) none) (lslSx (loOf σ.tm (lo.map rdOf)) (fun n => hiOf σ.tm n (hi.map rdOf)) x) := by
  cases x with
  | str s =>
    have := h.str_inv; subst this
    simp only [lslSx, lsl]
    cases hl : loOf σ.tm (lo.map rdOf) with
    | none => trivial
    | some l =>
      cases hh : hiOf σ.tm s.size (hi.map rdOf) with
      | none => trivial
      | some r =>
        intro ⟨h0, h1, h2⟩
        refine ⟨_, ?_, rstr _⟩
        have := bounds_run (P := P) (w := w) (isSlice := false) (lo_spec hs hl) (hi_spec hs hh) h0 h1 h2
        simp [Instr.sliceAt, run_underlying ht, Instr.slice, this]
  | _ => trivial

theorem slV_pure (hs : SimG E g σ a w) {t e : TypeId} {s : Nat} {lo hi : Option Operand} {v : Value} {x : V} (ht : P.underlying t = some (.slice e)) (hsz : szT P e = some s) (hs0 : s ≠ 0) (h : Rep g w v x) :
    LRes.pureOk P g w (Instr.sliceAt t v (lo.map a.eval) (hi.map a.eval) none) (lslVx s (loOf σ.tm (lo.map rdOf)) (fun n => hiOf σ.tm n (hi.map rdOf)) x) := by
  unfold lslVx
  cases hn : lenV x with
  | none => trivial
  | some n =>
    simp only [lsl]
    cases hl : loOf σ.tm (lo.map rdOf) with
    | none => trivial
    | some l =>
      cases hh : hiOf σ.tm n (hi.map rdOf) with
      | none => trivial
      | some r =>
        have run : ∀ A c, n ≤ c → 0 ≤ l → l ≤ r → r ≤ n → (Instr.sliceAt t (.slice A n c) (lo.map a.eval) (hi.map a.eval) none).run P w =
            .ok (.slice (if c = l.toNat then A else A.map (·.add (l.toNat * s))) (r.toNat - l.toNat) (c - l.toNat)) w := by
          intro A c hc h0 h1 h2
          have := bounds_run (P := P) (w := w) (isSlice := true) (cap := c) (lo_spec hs hl) (hi_spec hs hh) h0 h1 (by omega)
          simp [Instr.sliceAt, run_underlying ht, Instr.slice, this, szT_run hsz]
        cases x with
        | sl m cs =>
          cases hn
          intro ⟨h0, h1, h2, h3⟩
          obtain ⟨A, c, rfl, hI, hc⟩ := h.sl_inv
          refine ⟨_, run A c hc h0 h1 h2, .imm _ _ ?_⟩
          have elo : l.toNat ≤ r.toNat := by omega
          cases hI with
          | sl0 =>
            have e1 : r.toNat - l.toNat = 0 := by omega
            rw [e1]; simpa using RepI.sl0 _ _
          | sl b off _ _ us T fz _ q1 q2 q3 q4 q5 =>
            by_cases hz : r.toNat = l.toNat
            · rw [hz, Nat.sub_self]
              have : ((cs.take (l.toNat * s)).drop (l.toNat * s)) = [] := by
                apply List.drop_eq_nil_of_le; rw [List.length_take]; omega
              rw [this]; exact .sl0 _ _
            · rw [if_neg (by omega)]
              simp only [Option.map_some, addr_add]
              refine .sl b _ _ _ us T fz _ q1 q2 ?_ (by omega) ?_
              · have : l.toNat * s ≤ r.toNat * s := Nat.mul_le_mul_right _ elo
                simp only [List.length_drop, List.length_take]; omega
              · intro j v x hv hx
                rw [List.getElem?_drop, List.getElem?_take] at hx
                split at hx
                · exact q5 _ v x (by rw [← Nat.add_assoc]; exact hv) hx
                · cases hx
        | e0 =>
          cases hn
          intro ⟨h0, h1⟩
          obtain ⟨A, rfl⟩ := h.e0_inv
          subst h0 h1
          have := run A 0 (Nat.le_refl _) (Int.le_refl _) (Int.le_refl _) (Int.le_refl _)
          exact ⟨_, this, .imm _ _ (by simpa using RepI.e0 _)⟩
        | msl k' g' o m =>
          cases hn
          intro ⟨h0, h1, h2⟩
          obtain ⟨c, A, blk, cap, rfl, q1, q2, q3, q4, q5⟩ := h.msl_inv
          refine ⟨_, run A c q3 h0 h1 h2, .msl _ _ _ _ _ _ blk cap q1 ?_ (by omega) ?_ ?_⟩
          · intro e
            have e1 : o = 0 := by omega
            have e2 : l.toNat * s = 0 := by omega
            have e3 : l.toNat = 0 := by
              rcases Nat.mul_eq_zero.1 e2 with h' | h'
              · exact h'
              · omega
            rw [e3, q2 e1]; rfl
          · intro b hb hpos
            rw [if_neg (by omega), q4 b hb (by omega)]
            simp [addr_add]
          · intro hb; have := q5 hb; omega
        | _ => trivial

theorem slA_pure (hs : SimG E g σ a w) {t e : TypeId} {n s : Nat} {lo hi : Option Operand} {v : Value} {x : V} (ht : P.underlying t = some (.array n e)) (hsz : szT P e = some s) (h : Rep g w v x) :
    LRes.pureOk P g w (Instr.sliceAt t v (lo.map a.eval) (hi.map a.eval) none) (lsl (lslA n s x) (loOf σ.tm (lo.map rdOf)) (hiOf σ.tm n (hi.map rdOf))) := by
  simp only [lsl]
  cases hl : loOf σ.tm (lo.map rdOf) with
  | none => trivial
  | some l =>
    cases hh : hiOf σ.tm n (hi.map rdOf) with
    | none => trivial
    | some r =>
      cases x with
      | ip cs off =>
        intro ⟨h0, h1, h2, h3⟩
        obtain ⟨b, o', us, T, fz, rfl, q1, q2, q3, q4⟩ := h.ip_inv
        have run := bounds_run (P := P) (w := w) (isSlice := false) (cap := n) (lo_spec hs hl) (hi_spec hs hh) h0 h1 h2
        have elo : l.toNat ≤ r.toNat := by omega
        have hm : l.toNat * s ≤ r.toNat * s := Nat.mul_le_mul_right _ elo
        have hm2 : r.toNat * s ≤ n * s := Nat.mul_le_mul_right _ (by omega)
        refine ⟨_, by simp [Instr.sliceAt, run_underlying ht, Instr.sureAddr, run, szT_run hsz]; rfl, .imm _ _ ?_⟩
        by_cases hz : r.toNat = l.toNat
        · rw [hz, Nat.sub_self]
          have : ((cs.take (off + l.toNat * s)).drop (off + l.toNat * s)) = [] := by
            apply List.drop_eq_nil_of_le; rw [List.length_take]; omega
          rw [this]; exact .sl0 _ _
        · rw [if_neg (by omega), addr_add]
          refine .sl b _ _ _ us T fz _ q1 q2 ?_ (by omega) ?_
          · simp only [List.length_drop, List.length_take]; omega
          · intro j v x hv hx
            rw [List.getElem?_drop, List.getElem?_take] at hx
            split at hx
            · exact q4 _ v x (by rw [← hv]; congr 1; omega) hx
            · cases hx
      | mp key gen off =>
        intro ⟨h0, h1, h2⟩
        obtain ⟨b, cap, q1, rfl⟩ := h.mp_inv
        have run := bounds_run (P := P) (w := w) (isSlice := false) (cap := n) (lo_spec hs hl) (hi_spec hs hh) h0 h1 h2
        refine ⟨_, by simp [Instr.sliceAt, run_underlying ht, Instr.sureAddr, run, szT_run hsz]; rfl, ?_⟩
        by_cases hz : r.toNat = l.toNat
        · exact .msv _ _ _ _ _ _ _ b cap q1 (by omega) (fun h => by omega)
        · by_cases hz2 : n - l.toNat = 0
          · omega
          · rw [if_neg (by omega), addr_add]
            exact .msv _ _ _ _ _ _ _ b cap q1 (by omega) (fun h => rfl)
      | _ => trivial

/-- Parts put into zero cells. -/
theorem fill_ok {place : Nat → Option (Nat × Nat)} (ht : ∀ t, Rep g w (slotV E a t) (σ.tm t)) : ∀ (parts : List (Nat × Operand)) (ps : List (Nat × Nat × Rd)) (us : Array Value) (cs : List V),
    ps.length = parts.length → (∀ (j i : Nat) (x : Operand) (p : Nat × Nat × Rd), parts[j]? = some (i, x) → ps[j]? = some p → place i = some (p.1, p.2.1) ∧ p.2.2 = rdOf x) →
    us.size = cs.length → (∀ (j : Nat) (u : Value) (c : V), us[j]? = some u → cs[j]? = some c → Rep g w u c) → partsOk σ.tm cs.length ps →
    ∃ us', Instr.fill place us (parts.map fun (i, x) => (i, a.eval x)) = some us' ∧ us'.size = (fillL σ.tm cs ps).length ∧
      (∀ (j : Nat) (u : Value) (c : V), us'[j]? = some u → (fillL σ.tm cs ps)[j]? = some c → Rep g w u c)
  | [], [], us, cs, _, _, hl, hr, _ => ⟨us, rfl, hl, hr⟩
  | [], _ :: _, _, _, h, _, _, _, _ => by cases h
  | _ :: _, [], _, _, h, _, _, _, _ => by cases h
  | (i, x) :: parts, (off, s, y) :: ps, us, cs, hlen, hp, hl, hr, hok => by
    obtain ⟨e1, e2⟩ := hp 0 i x _ rfl rfl
    simp only at e1 e2
    subst e2
    obtain ⟨⟨k1, k2, k3⟩, hok'⟩ := hok
    obtain ⟨c1, c2⟩ := (rep_rd ht x).cells k1
    have hset : ∀ (vs : List Value) (i0 : Nat) (us : Array Value), off + i0 + vs.length ≤ us.size →
        ((vs.zipIdx i0).foldl (fun cs (c, j) => cs.setIfInBounds (off + j) c) us).size = us.size ∧
        ∀ j, ((vs.zipIdx i0).foldl (fun cs (c, j) => cs.setIfInBounds (off + j) c) us)[j]? = if off + i0 ≤ j ∧ j < off + i0 + vs.length then vs[j - (off + i0)]? else us[j]? := by
      intro vs
      induction vs with
      | nil => intro i0 us _; exact ⟨rfl, fun j => by rw [if_neg (by simp)]; rfl⟩
      | cons v vs ih =>
        intro i0 us hb
        simp only [List.length_cons] at hb
        have := ih (i0 + 1) (us.setIfInBounds (off + i0) v) (by simp; omega)
        simp only [List.zipIdx_cons, List.foldl_cons]
        refine ⟨by rw [this.1]; simp, fun j => ?_⟩
        rw [this.2 j]
        simp only [List.length_cons]
        by_cases h1 : off + (i0 + 1) ≤ j ∧ j < off + (i0 + 1) + vs.length
        · rw [if_pos h1, if_pos (by omega), show j - (off + i0) = (j - (off + (i0 + 1))) + 1 by omega]; simp
        · rw [if_neg h1]
          by_cases h2 : j = off + i0
          · subst h2; rw [if_pos (by omega)]; simp [show off + i0 < us.size by omega]
          · rw [if_neg (by omega), Array.getElem?_setIfInBounds_ne (by omega)]
    have hsz : (a.eval x).cells.size = s := by omega
    obtain ⟨f1, f2⟩ := hset (a.eval x).cells.toList 0 us (by simp; omega)
    have harr : (a.eval x).cells.zipIdx.foldl (fun cs (c, j) => cs.setIfInBounds (off + j) c) us = ((a.eval x).cells.toList.zipIdx 0).foldl (fun cs (c, j) => cs.setIfInBounds (off + j) c) us := by
      rw [← Array.foldl_toList]; congr 1; simp
    obtain ⟨us', g1, g2, g3⟩ := fill_ok ht parts ps ((a.eval x).cells.zipIdx.foldl (fun cs (c, j) => cs.setIfInBounds (off + j) c) us) (setCells cs off ((rdOf x).get σ.tm).cells)
      (by simpa using hlen) (fun j i' x' p h1 h2 => hp (j + 1) i' x' p h1 h2) (by rw [harr, f1, setCells_length (by omega)]; exact hl)
      (by
        intro j u c hu hc
        rw [harr, f2 j] at hu
        have hc' := setCells_get (by omega) hc
        simp only [Array.length_toList, Nat.add_zero] at hu
        split at hc'
        · rename_i hin
          rw [if_pos (by omega), Array.getElem?_toList] at hu
          exact c2 _ u c hu hc'
        · rename_i hin
          rw [if_neg (by omega)] at hu
          exact hr _ u c hu hc')
      (by rw [setCells_length (by omega)]; exact hok')
    refine ⟨us', ?_, g2, g3⟩
    simp only [List.map_cons, Instr.fill, e1]
    rw [if_neg (by simp [hsz]; omega)]
    exact g1

end
end Go.Lg
