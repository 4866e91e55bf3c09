/-
  The reckoning: functions of the library that are known by their contracts.
-/
import Derived.Test.YtgpeaibhhonikaaGreatDoorEh
import Derived.Lib.IndexMore
set_option linter.unusedSimpArgs false
set_option linter.unusedVariables false
namespace Go.Lg
open Go Go.RowKit

section
variable {P : Program} {E : Env} {g : Gh} {σ : St} {a : Act} {w : World}
theorem two_args {vs : Array Value} {x y : V} (hsz : vs.size = [x, y].length) (h : ∀ (j : Nat) (u : Value) (c : V), vs[j]? = some u → ([x, y] : List V)[j]? = some c → Rep g w u c) : ∃ u v, vs = #[u, v] ∧ Rep g w u x ∧ Rep g w v y := by
  have hsz : vs.size = 2 := hsz
  refine ⟨vs[0], vs[1], ?_, h 0 _ _ (Array.getElem?_eq_getElem (by omega)) rfl, h 1 _ _ (Array.getElem?_eq_getElem (by omega)) rfl⟩
  apply Array.ext
  · simpa using hsz
  · intro i h1 h2
    have : i = 0 ∨ i = 1 := by omega
    rcases this with rfl | rfl <;> rfl

/-! strings.Contains, strings.Cut. -/
noncomputable def shortS (l : List UInt8) : Bool := Nat.blt (lenA l 0) 4294967281
theorem shortS_ok {l : List UInt8} (h : shortS l = true) : (ByteArray.mk ⟨l⟩).size < 4294967281 := by
  unfold shortS at h
  rw [nblt, lenA_eq, decide_eq_true_eq] at h
  exact h
noncomputable def xCon (args : List V) (h : Hq) : Rc := match args with
  | [x, y] => S6.rec (motive := fun _ => Rc) (.err 20) (fun l => S6.rec (motive := fun _ => Rc) (.err 20) (fun m => Bool.rec (motive := fun _ => Rc) (.err 20) (Bool.rec (motive := fun _ => Rc) (.ok (.bool false) h) (.ok (.bool true) h) (Lib.contains l m)) (shortS l)) (asS y)) (asS x)
  | _ => .err 20
noncomputable def xCut (args : List V) (h : Hq) : Rc := match args with
  | [x, y] => S6.rec (motive := fun _ => Rc) (.err 21) (fun l => S6.rec (motive := fun _ => Rc) (.err 21) (fun m => Bool.rec (motive := fun _ => Rc) (.err 21) (.ok (.tup [.str ⟨(Lib.cut l m).1.toArray⟩, .str ⟨(Lib.cut l m).2.1.toArray⟩, .bool (Lib.cut l m).2.2]) h) (shortS l)) (asS y)) (asS x)
  | _ => .err 21
theorem rBool {b : Bool} {x : Rc} {n : Nat} {v : V} {h : Hq} (e : Bool.rec (motive := fun _ => Rc) (.err n) x b = .ok v h) : b = true ∧ x = .ok v h := fBool e
theorem strs_of {x y : V} {l m : List UInt8} {u v : Value} (hx : asS x = .ok l) (hy : asS y = .ok m) (hu : Rep g w u x) (hv : Rep g w v y) : u = .string ⟨⟨l⟩⟩ ∧ v = .string ⟨⟨m⟩⟩ := by
  rw [asS_ok hx] at hu
  rw [asS_ok hy] at hv
  exact ⟨hu.str_inv, hv.str_inv⟩
theorem fx_con {f : FuncId} (hen : entersOk P f = true) (hc : ∀ (s sub : ByteArray) (w : World), GOk P w → s.size < 4294967281 → Calls P f #[.string s, .string sub] w fun e w' => e = .returned (.bool (Lib.contains s.data.toList sub.data.toList)) ∧ w' = w) : FxOk P f (.ext xCon) := by
  intro args h v h' e tm
  match args, e with
  | [x, y], e =>
    have e : S6.rec (motive := fun _ => Rc) (.err 20) (fun l => S6.rec (motive := fun _ => Rc) (.err 20) (fun m => Bool.rec (motive := fun _ => Rc) (.err 20) (Bool.rec (motive := fun _ => Rc) (.ok (.bool false) h) (.ok (.bool true) h) (Lib.contains l m)) (shortS l)) (asS y)) (asS x) = .ok v h' := e
    cases hx : asS x with
    | no => rw [hx] at e; cases e
    | ok l =>
      cases hy : asS y with
      | no => rw [hx, hy] at e; cases e
      | ok m =>
        rw [hx, hy] at e
        obtain ⟨hs, e⟩ := rBool e
        have e : v = .bool (Lib.contains l m) ∧ h' = h := by
          cases hb : Lib.contains l m with
          | false => rw [hb] at e; cases e; exact ⟨rfl, rfl⟩
          | true => rw [hb] at e; cases e; exact ⟨rfl, rfl⟩
        obtain ⟨rfl, rfl⟩ := e
        refine ⟨hen, fun E hE g a w vs hsim hsz hrep => ?_⟩
        obtain ⟨u1, u2, rfl, r1, r2⟩ := two_args hsz hrep
        obtain ⟨rfl, rfl⟩ := strs_of hx hy r1 r2
        refine (hc _ _ w (EOk.gok hsim) (shortS_ok hs)).mono ?_
        rintro e w' ⟨rfl, rfl⟩
        exact ⟨_, _, _, g, rfl, hsim, .imm _ _ (.bool _), rfl, rfl⟩
theorem fx_cut {f : FuncId} (hen : entersOk P f = true) (hc : ∀ (s sep : ByteArray) (w : World), GOk P w → s.size < 4294967281 → Calls P f #[.string s, .string sep] w fun e w' => e = .returned (.tuple #[.string ⟨(Lib.cut s.data.toList sep.data.toList).1.toArray⟩, .string ⟨(Lib.cut s.data.toList sep.data.toList).2.1.toArray⟩, .bool (Lib.cut s.data.toList sep.data.toList).2.2]) ∧ ∃ n, w' = w.drewN n) : FxOk P f (.ext xCut) := by
  intro args h v h' e tm
  match args, e with
  | [x, y], e =>
    have e : S6.rec (motive := fun _ => Rc) (.err 21) (fun l => S6.rec (motive := fun _ => Rc) (.err 21) (fun m => Bool.rec (motive := fun _ => Rc) (.err 21) (.ok (.tup [.str ⟨(Lib.cut l m).1.toArray⟩, .str ⟨(Lib.cut l m).2.1.toArray⟩, .bool (Lib.cut l m).2.2]) h) (shortS l)) (asS y)) (asS x) = .ok v h' := e
    cases hx : asS x with
    | no => rw [hx] at e; cases e
    | ok l =>
      cases hy : asS y with
      | no => rw [hx, hy] at e; cases e
      | ok m =>
        rw [hx, hy] at e
        obtain ⟨hs, e⟩ := rBool e
        cases e
        refine ⟨hen, fun E hE g a w vs hsim hsz hrep => ?_⟩
        obtain ⟨u1, u2, rfl, r1, r2⟩ := two_args hsz hrep
        obtain ⟨rfl, rfl⟩ := strs_of hx hy r1 r2
        refine (hc _ _ w (EOk.gok hsim) (shortS_ok hs)).mono ?_
        rintro e w' ⟨rfl, n, rfl⟩
        have hb : BelowD w.heap.size w (w.drewN n) := ⟨⟨rfl, rfl, rfl, Nat.le_refl _, fun _ _ => rfl⟩, Nat.le_add_right _ _⟩
        refine ⟨_, _, _, g, rfl, hsim.grow_same hb, .imm _ _ (.tup _ _ rfl fun j u c hu hcj => ?_), rfl, rfl⟩
        match j, hu, hcj with
        | 0, hu, hcj => simp at hu hcj; subst hu hcj; exact .str _
        | 1, hu, hcj => simp at hu hcj; subst hu hcj; exact .str _
        | 2, hu, hcj => simp at hu hcj; subst hu hcj; exact .bool _
        | j + 3, hu, _ => simp at hu

/-! errors.As, where what is looked for is of one pointer type. -/
noncomputable def xAs (tF tPF : TypeId) (args : List V) (h : Hq) : Rc := match args with
  | [x, y] => C6.rec (motive := fun _ => Rc) (.err 22) (.ok (.bool false) h) (fun t p => Bool.rec (motive := fun _ => Rc) (.err 22) (P6.rec (motive := fun _ => Rc) (.err 22) (fun _ _ => C6.rec (motive := fun _ => Rc) (.err 22) (.err 22) (fun t' q => Bool.rec (motive := fun _ => Rc) (.err 22) (Option.rec (motive := fun _ => Rc) (.err 22) (fun h' => .ok (.bool true) h') (qStore 1 h q p)) (Nat.beq t' tPF)) (asC y)) (fun _ _ _ => C6.rec (motive := fun _ => Rc) (.err 22) (.err 22) (fun t' q => Bool.rec (motive := fun _ => Rc) (.err 22) (Option.rec (motive := fun _ => Rc) (.err 22) (fun h' => .ok (.bool true) h') (qStore 1 h q p)) (Nat.beq t' tPF)) (asC y)) (asP p)) (Nat.beq t tF)) (asC x)
  | _ => .err 22
theorem ptr_of {v : Value} {p : V} (h : Rep g w v p) (hp : (∃ cs off, asP p = .ip cs off) ∨ ∃ k n off, asP p = .mp k n off) : ∃ e, v = .pointer (some e) := by
  rcases hp with ⟨cs, off, hp⟩ | ⟨k, n, off, hp⟩
  · rw [asP_ip hp] at h
    obtain ⟨b, o, us, T, fz, rfl, _⟩ := h.ip_inv
    exact ⟨_, rfl⟩
  · rw [asP_mp hp] at h
    obtain ⟨b, cap, _, rfl⟩ := h.mp_inv
    exact ⟨_, rfl⟩
theorem fx_as {f : FuncId} {tF tPF : TypeId} (hen : entersOk P f = true) (hsz1 : szT P tF = some 1) (hnil : ∀ (t : Value) (w : World), Calls P f #[.nilIface, t] w fun e w' => e = .returned (.bool false) ∧ w' = w)
    (hhit : ∀ (e t : Addr) (old : Value) (w : World), GOk P w → w.cell? t = some old → w.frozen? t = false → Calls P f #[.iface tF (.pointer (some e)), .iface tPF (.pointer (some t))] w fun ev w' => ev = .returned (.bool true) ∧ ∃ o1 o2 o3 o4, w' = ((((w.alloc o1).alloc o2).alloc o3).alloc o4).setCell t (.pointer (some e))) :
    FxOk P f (.ext (xAs tF tPF)) := by
  intro args h v h' e tm
  match args, e with
  | [x, y], e =>
    have e : C6.rec (motive := fun _ => Rc) (.err 22) (.ok (.bool false) h) (fun t p => Bool.rec (motive := fun _ => Rc) (.err 22) (P6.rec (motive := fun _ => Rc) (.err 22) (fun _ _ => C6.rec (motive := fun _ => Rc) (.err 22) (.err 22) (fun t' q => Bool.rec (motive := fun _ => Rc) (.err 22) (Option.rec (motive := fun _ => Rc) (.err 22) (fun h' => .ok (.bool true) h') (qStore 1 h q p)) (Nat.beq t' tPF)) (asC y)) (fun _ _ _ => C6.rec (motive := fun _ => Rc) (.err 22) (.err 22) (fun t' q => Bool.rec (motive := fun _ => Rc) (.err 22) (Option.rec (motive := fun _ => Rc) (.err 22) (fun h' => .ok (.bool true) h') (qStore 1 h q p)) (Nat.beq t' tPF)) (asC y)) (asP p)) (Nat.beq t tF)) (asC x) = .ok v h' := e
    cases hx : asC x with
    | no => rw [hx] at e; cases e
    | nil =>
      rw [hx] at e
      cases e
      refine ⟨hen, fun E hE g a w vs hsim hsz hrep => ?_⟩
      obtain ⟨u1, u2, rfl, r1, r2⟩ := two_args hsz hrep
      rw [asC_nil hx] at r1
      rw [r1.nili_inv]
      refine (hnil u2 w).mono ?_
      rintro e w' ⟨rfl, rfl⟩
      exact ⟨_, _, _, g, rfl, hsim, .imm _ _ (.bool _), rfl, rfl⟩
    | ifc t p =>
      rw [hx] at e
      obtain ⟨ht, e2⟩ := rBool e
      clear e
      have ht := Nat.eq_of_beq_eq_true ht
      subst ht
      have key : ((∃ cs off, asP p = .ip cs off) ∨ ∃ k n off, asP p = .mp k n off) ∧ ∃ q, asC y = .ifc tPF q ∧ qStore 1 h q p = some h' ∧ v = .bool true := by
        have fin : C6.rec (motive := fun _ => Rc) (.err 22) (.err 22) (fun t' q => Bool.rec (motive := fun _ => Rc) (.err 22) (Option.rec (motive := fun _ => Rc) (.err 22) (fun h' => .ok (.bool true) h') (qStore 1 h q p)) (Nat.beq t' tPF)) (asC y) = .ok v h' → ∃ q, asC y = .ifc tPF q ∧ qStore 1 h q p = some h' ∧ v = .bool true := by
          intro e
          cases hy : asC y with
          | no => rw [hy] at e; cases e
          | nil => rw [hy] at e; cases e
          | ifc t' q =>
            rw [hy] at e
            obtain ⟨ht, e3⟩ := rBool e
            clear e
            have ht := Nat.eq_of_beq_eq_true ht
            subst ht
            cases hq : qStore 1 h q p with
            | none => rw [hq] at e3; cases e3
            | some h1 => rw [hq] at e3; cases e3; exact ⟨q, rfl, hq, rfl⟩
        cases hp : asP p with
        | no => rw [hp] at e2; cases e2
        | ip cs off => rw [hp] at e2; exact ⟨.inl ⟨cs, off, rfl⟩, fin e2⟩
        | mp k n off => rw [hp] at e2; exact ⟨.inr ⟨k, n, off, rfl⟩, fin e2⟩
      obtain ⟨hp, q, hy, hq, rfl⟩ := key
      obtain ⟨pre, H', s1, s2, s3, s4⟩ := qStore_ok hq
      refine ⟨hen, fun E hE g a w vs hsim hsz hrep => ?_⟩
      obtain ⟨u1, u2, rfl, r1, r2⟩ := two_args hsz hrep
      rw [asC_ifc hx] at r1
      rw [asC_ifc hy] at r2
      obtain ⟨v1, rfl, k1⟩ := r1.ifc_inv
      obtain ⟨v2, rfl, k2⟩ := r2.ifc_inv
      obtain ⟨ad, rfl⟩ := ptr_of k1 hp
      -- the target: an object's cell
      have hs1 : ∀ w1, SimG E g ⟨tm, h.H, h.c⟩ a w1 → Rep g w1 (.pointer (some ad)) p → Rep g w1 v2 q → ∃ t old, v2 = .pointer (some t) ∧ w1.cell? t = some old ∧ w1.frozen? t = false ∧ t.block < w1.heap.size ∧ ∃ g', SimG E g' ⟨tm, H', h.c⟩ a (w1.setCell t (.pointer (some ad))) := by
        intro w1 hsim1 q1 q2
        have hst := store_ok (P := P) (s := 0) hsim1 hsz1 q2 q1
        rw [s1] at hst
        obtain ⟨n, w2, g', e1, _, e3⟩ := hst s2
        cases hqq : q <;> rw [hqq] at s1 <;> simp only [lstore] at s1 <;> try (cases s1; done)
        rename_i k gn off
        rw [hqq] at q2
        obtain ⟨b, cap, hb, rfl⟩ := q2.mp_inv
        cases hk : h.H k with
        | none => rw [hk] at s1; cases s1
        | some o =>
          cases o with
          | map es => rw [hk] at s1; cases s1
          | row g0 esz cs =>
            rw [hk] at s1
            simp only [] at s1
            by_cases hg : g0 = gn
            case neg => rw [if_neg hg] at s1; cases s1
            rw [if_pos hg] at s1
            subst hg
            cases s1
            obtain ⟨c1, c2, c3⟩ := s2
            obtain ⟨blk, cap', z1, z2, z3⟩ := hsim1.obj k _ hk
            rw [hb] at z1; cases z1
            obtain ⟨p1, p2, p3, us, T, fz, y1, y2, y3, y4, y5⟩ := z3
            have hoff : off < us.size := by omega
            have hc : w1.cell? ⟨b, off, none⟩ = some us[off] := by rw [cell_at y1]; exact Array.getElem?_eq_getElem hoff
            have hf : w1.frozen? ⟨b, off, none⟩ = false := frozen_at y1 (y2.1 off hoff)
            refine ⟨⟨b, off, none⟩, us[off], rfl, hc, hf, p2, g', ?_⟩
            have hrun : (do Instr.storeAt t (.pointer (some ⟨b, off, none⟩)) (.pointer (some ad)); pure .skip : Sem Next).run P w1 = .ok .skip (w1.setCell ⟨b, off, none⟩ (.pointer (some ad))) := by
              have hst1 := run_store P w1 ⟨b, off, none⟩ (.pointer (some ad)) .plain rfl
              rw [hc] at hst1
              simp only [hf] at hst1
              simp only [Instr.storeAt, Instr.sureAddr, storeVar]
              simp [szT_run hsz1, Value.cells, storeCells, Addr.add, hst1]
            rw [hrun] at e1
            cases e1
            exact e3
      obtain ⟨t0, old, e1, e2, e3, e4, _⟩ := hs1 w hsim k1 k2
      subst e1
      refine (hhit ad t0 old w (EOk.gok hsim) e2 e3).mono ?_
      rintro ev w' ⟨rfl, o1, o2, o3, o4, rfl⟩
      have hb : BelowD w.heap.size w ((((w.alloc o1).alloc o2).alloc o3).alloc o4) := ((((BelowD.refl _ _).alloc (Nat.le_refl _) _).alloc (by simp) _).alloc (by simp; omega) _).alloc (by simp; omega) _
      have hmono : ∀ v x, Rep g w v x → Rep g ((((w.alloc o1).alloc o2).alloc o3).alloc o4) v x := fun v x h => h.mono (fun _ h => h) (fun b hm => hb.block b (hsim.immlt b hm)) (fun _ _ _ h => h)
      obtain ⟨t1, _, f1, _, _, _, g', f5⟩ := hs1 _ (hsim.grow_same hb) (hmono _ _ k1) (hmono _ _ k2)
      cases f1
      refine ⟨_, _, ⟨tm, h'.H, h'.c⟩, g', rfl, ?_, .imm _ _ (.bool _), rfl, rfl⟩
      rw [s3, s4]
      exact f5
end
end Go.Lg
