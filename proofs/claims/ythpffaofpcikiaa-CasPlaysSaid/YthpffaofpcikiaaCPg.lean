/-
  Bih Vb: put together.
-/
import Derived.Test.YthpffaofpcikiaaCPf
import Derived.Test.YthpffaofpcikiaaCPe
set_option linter.unusedSimpArgs false
set_option linter.unusedVariables false
namespace Go.Lg
open Go Go.RowKit
section
variable {P : Program}
theorem evP_g {s : Nat} {d : Option Nat} {op : IOp} {g : Option (Nat × Bool)} {tm : Nat → V} {R : List (Key × LObj)} {v : V} (hg : gd tm g = some true) (h : evP P s ⟨d, op, none⟩ tm R v) : evP P s ⟨d, op, g⟩ tm R v := by
  intro σ t1 t2 K hK
  have h1 := h σ (fun t ht => t1 t (List.mem_append.2 (.inr ((List.mem_append.1 ht).elim (fun h => (by cases h)) id)))) t2 K hK
  show (match gd σ.tm g with | some true => _ | some false => _ | none => _ : Prop)
  rw [gd_congr (o := ⟨d, op, g⟩) t1, hg]
  exact h1
theorem evB_g {s : Nat} {d : Option Nat} {op : IOp} {g : Option (Nat × Bool)} {tm : Nat → V} {H : Heap} {c : Nat → Nat} {H1 : Heap} {c1 : Nat → Nat} {v : V} (hg : gd tm g = some true) (h : evB P s ⟨d, op, none⟩ tm H c H1 c1 v) : evB P s ⟨d, op, g⟩ tm H c H1 c1 v := by
  intro tm' t1 K hK
  have h1 := h tm' (fun t ht => t1 t (List.mem_append.2 (.inr ((List.mem_append.1 ht).elim (fun h => (by cases h)) id)))) K hK
  show (match gd tm' g with | some true => _ | some false => _ | none => _ : Prop)
  rw [gd_congr (o := ⟨d, op, g⟩) t1, hg]
  exact h1
theorem evP_skip {s : Nat} {d : Option Nat} {op : IOp} {g : Option (Nat × Bool)} {tm : Nat → V} (hg : gd tm g = some false) : evP P s ⟨d, op, g⟩ tm [] (.tup []) := by
  intro σ t1 t2 K hK
  show (match gd σ.tm g with | some true => _ | some false => _ | none => _ : Prop)
  rw [gd_congr (o := ⟨d, op, g⟩) t1, hg]
  exact hK
theorem walkD_g {rid i : Nat} {kp : List (Key × LObj)} {fin : List Fd → Prop} {fs : List Fd} {K : St → Prop} {σ : St} {d : Option Nat} {op : IOp} {g : Option (Nat × Bool)} {os : List LOp} (hg : gd σ.tm g = some true) (h : walkD P rid kp fin (⟨d, op, none⟩ :: os) i fs K σ) : walkD P rid kp fin (⟨d, op, g⟩ :: os) i fs K σ := by
  rcases h with ⟨R, v, h1, h2, h3⟩ | ⟨H1, c1, v, h1, h2, h3⟩ | ⟨h0, H1, c1, v, h1, h2, h3⟩
  · exact .inl ⟨R, v, evP_g hg h1, h2, h3⟩
  · exact .inr (.inl ⟨H1, c1, v, evB_g hg h1, h2, h3⟩)
  · exact .inr (.inr ⟨h0, H1, c1, v, evB_g hg h1, h2, h3⟩)
theorem walkD_skip {rid i : Nat} {kp : List (Key × LObj)} {fin : List Fd → Prop} {fs : List Fd} {K : St → Prop} {σ : St} {d : Option Nat} {op : IOp} {g : Option (Nat × Bool)} {os : List LOp} (hg : gd σ.tm g = some false) (h : walkD P rid kp fin os (i + 1) (fs ++ [.rd []]) K (σ.put d (.tup []))) : walkD P rid kp fin (⟨d, op, g⟩ :: os) i fs K σ :=
  .inl ⟨[], .tup [], evP_skip hg, fun p h => (by cases h), h⟩
def freeG : IOp → Bool
  | .mov _ | .nilchk _ | .fad .. | .bin .. | .un .. | .slV .. | .bsl .. | .ext .. | .len .. | .eqa .. | .eqb .. | .pick .. => true
  | _ => false
theorem freeG_H {op : IOp} (h : freeG op = true) (tm : Nat → V) (H H' : Heap) : lop op tm H = lop op tm H' := by
  cases op <;> first | rfl | cases h
def wgd (g : Option Bool) (a b : Prop) : Prop := match g with
  | some true => a
  | some false => b
  | none => False
def stepG (s : Nat) (kp : List (Key × LObj)) (σ : St) (d : Option Nat) (kk : Fd → St → Prop) (lst : St → Prop) (cl : FuncId → List Rd → Prop) : IOp → Prop
  | .load agg n a => wsL σ.H agg n (fun ks v => kk (.rd ks) (σ.put d v)) (a.get σ.tm)
  | .b2s x => wsB σ.H (fun v => kk (.rd []) (σ.put d v)) (x.get σ.tm)
  | .app e b x y => wsW s kp σ d (kk .big) (lop (.app e b x y) σ.tm σ.H)
  | .appE e b x y => wsW s kp σ d (kk .big) (lop (.appE e b x y) σ.tm σ.H)
  | .store n a x => wsF σ d lst (lop (.store n a x) σ.tm σ.H)
  | .call f a => cl f a
  | op => freeG op = true ∧ wsA (lop op σ.tm σ.H) (fun v => kk (.rd []) (σ.put d v))
def walkG (P : Program) (rid : Nat) (kp : List (Key × LObj)) (fin : List Fd → Prop) : List LOp → Nat → List Fd → (St → Prop) → St → Prop
  | [], _, fs, K, σ => fin fs ∧ K σ
  | o :: os, i, fs, K, σ => wgd (gd σ.tm o.guard) (stepG (siteOf rid i) kp σ o.dst (fun f σ' => walkG P rid kp fin os (i + 1) (fs ++ [f]) K σ') (fun σ' => os = [] ∧ fin (fs ++ [.any]) ∧ K σ')
      (fun f a => walkD P rid kp fin (⟨o.dst, .call f a, none⟩ :: os) i fs K σ) o.op) (walkG P rid kp fin os (i + 1) (fs ++ [.rd []]) K (σ.put o.dst (.tup [])))
theorem walkG_D {rid : Nat} {kp : List (Key × LObj)} {fin : List Fd → Prop} {K : St → Prop} : ∀ (os : List LOp) (i : Nat) (fs : List Fd) (σ : St), walkG P rid kp fin os i fs K σ → walkD P rid kp fin os i fs K σ
  | [], _, _, _, h => h
  | ⟨d, op, g⟩ :: os, i, fs, σ, h => by
    have ih := fun i fs σ => walkG_D (rid := rid) (kp := kp) (fin := fin) (K := K) os i fs σ
    have h : wgd (gd σ.tm g) (stepG (siteOf rid i) kp σ d (fun f σ' => walkG P rid kp fin os (i + 1) (fs ++ [f]) K σ') (fun σ' => os = [] ∧ fin (fs ++ [.any]) ∧ K σ')
      (fun f a => walkD P rid kp fin (⟨d, .call f a, none⟩ :: os) i fs K σ) op) (walkG P rid kp fin os (i + 1) (fs ++ [.rd []]) K (σ.put d (.tup []))) := h
    cases hg : gd σ.tm g with
    | none => rw [hg] at h; exact h.elim
    | some b =>
    cases b with
    | false => rw [hg] at h; exact walkD_skip hg (ih _ _ _ h)
    | true =>
    rw [hg] at h
    refine walkD_g hg ?_
    have free : freeG op = true ∧ wsA (lop op σ.tm σ.H) (fun v => walkG P rid kp fin os (i + 1) (fs ++ [.rd []]) K (σ.put d v)) → walkD P rid kp fin (⟨d, op, none⟩ :: os) i fs K σ := by
      rintro ⟨h1, h2⟩
      obtain ⟨pre, v, e, hp, hk⟩ := wsA_iff h2
      exact walkD_A [] (fun _ h => by cases h) (fun H _ => by rw [freeG_H h1 σ.tm H σ.H]; exact e) hp (ih _ _ _ hk)
    have wr : wsW (siteOf rid i) kp σ d (fun σ' => walkG P rid kp fin os (i + 1) (fs ++ [.big]) K σ') (lop op σ.tm σ.H) → walkD P rid kp fin (⟨d, op, none⟩ :: os) i fs K σ := by
      intro h
      cases e : lop op σ.tm σ.H with
      | C pre o mk =>
        rw [e] at h
        obtain ⟨h1, h2, h3⟩ := h
        exact .inr (.inl ⟨_, _, _, evB_of_C e h1, kpOk_iff h2, ih _ _ _ h3⟩)
      | D pre v H1 =>
        rw [e] at h
        obtain ⟨h1, h2, h3⟩ := h
        exact .inr (.inl ⟨_, _, _, evB_of_D e h1, kpOk_iff h2, ih _ _ _ h3⟩)
      | A pre v => rw [e] at h; exact h.elim
      | call pre f a b => rw [e] at h; exact h.elim
      | bad => rw [e] at h; exact h.elim
    cases op with
    | load agg n a =>
      have h : wsL σ.H agg n (fun ks v => walkG P rid kp fin os (i + 1) (fs ++ [.rd ks]) K (σ.put d v)) (a.get σ.tm) := h
      generalize hx : a.get σ.tm = x at h
      cases x with
      | mp key g o =>
        obtain ⟨pre, v, e, hp, hk⟩ := wsA_iff h
        obtain ⟨ob, h1, h2⟩ := lload_mp e
        refine walkD_A [(key, ob)] (fun q hq => by rw [List.mem_singleton.1 hq]; exact h1) (fun H hH => ?_) hp (ih _ _ _ hk)
        show lload agg n H (a.get σ.tm) = _
        rw [hx]
        exact h2 H (hH _ (List.mem_singleton.2 rfl))
      | ip cs o =>
        obtain ⟨pre, v, e, hp, hk⟩ := wsA_iff h
        refine walkD_A [] (fun _ h => by cases h) (fun H _ => ?_) hp (ih _ _ _ hk)
        show lload agg n H (a.get σ.tm) = _
        rw [hx]; exact e
      | _ => exact h.elim
    | b2s x =>
      have h : wsB σ.H (fun v => walkG P rid kp fin os (i + 1) (fs ++ [.rd []]) K (σ.put d v)) (x.get σ.tm) := h
      generalize hx : x.get σ.tm = y at h
      cases y with
      | sl n cs =>
        obtain ⟨pre, v, e, hp, hk⟩ := wsA_iff h
        refine walkD_A [] (fun _ h => by cases h) (fun H _ => ?_) hp (ih _ _ _ hk)
        show lb2s H (x.get σ.tm) = _
        rw [hx]; exact e
      | _ => exact h.elim
    | app => exact wr h
    | appE => exact wr h
    | store n a x =>
      have h : wsF σ d (fun σ' => os = [] ∧ fin (fs ++ [.any]) ∧ K σ') (lop (.store n a x) σ.tm σ.H) := h
      cases e : lop (.store n a x) σ.tm σ.H with
      | D pre v H1 =>
        rw [e] at h
        obtain ⟨h1, h0, h2, h3⟩ := h
        subst h0
        exact .inr (.inr ⟨rfl, _, _, _, evB_of_D e h1, h2, h3⟩)
      | A pre v => rw [e] at h; exact h.elim
      | C pre o mk => rw [e] at h; exact h.elim
      | call pre f a b => rw [e] at h; exact h.elim
      | bad => rw [e] at h; exact h.elim
    | call f a => exact h
    | _ => exact free h
theorem vcg_rege_G {rid : Nat} {bs : List Nat} {los : List LOp} {Q : Exit → St → Prop} {σ : St} (kp : List (Key × LObj)) (hkp : kpOk σ.H kp) (h : walkG P rid kp (fun fs => bdOk bs los (kp.map (·.1)) fs = true) los 0 [] (Q .normal) σ) : vcg P (.rege rid bs los) Q σ :=
  vcg_rege_of kp (kpOk_iff hkp) (walkG_D _ _ _ _ h)
theorem walkG_nil {rid i : Nat} {kp : List (Key × LObj)} {fin : List Fd → Prop} {fs : List Fd} {K : St → Prop} {σ : St} : walkG P rid kp fin [] i fs K σ = (fin fs ∧ K σ) := rfl
end
/-- What comes behind is looked at later. -/
theorem walkG_K {P : Program} {rid i : Nat} {kp : List (Key × LObj)} {fin : List Fd → Prop} {fs : List Fd} {K : St → Prop} {σ : St} {os : List LOp} (h : ∀ K' : St → Prop, K' = K → walkG P rid kp fin os i fs K' σ) : walkG P rid kp fin os i fs K σ := h K rfl
section
variable {s : Nat} {kp : List (Key × LObj)} {σ : St} {d : Option Nat} {kk : Fd → St → Prop} {lst : St → Prop} {cl : FuncId → List Rd → Prop}
section
variable {P : Program} {rid i : Nat} {fin : List Fd → Prop} {fs : List Fd} {K : St → Prop} {os : List LOp}
theorem walkG_mov {x : Rd} : walkG P rid kp fin (⟨d, .mov x, none⟩ :: os) i fs K σ = walkG P rid kp fin os (i + 1) (fs ++ [.rd []]) K (σ.put d (x.get σ.tm)) := propext ⟨fun h => h.2.2, fun h => ⟨rfl, trivial, h⟩⟩
theorem walkG_load {agg : Bool} {n : Nat} {a : Rd} : walkG P rid kp fin (⟨d, .load agg n a, none⟩ :: os) i fs K σ = wsL σ.H agg n (fun ks v => walkG P rid kp fin os (i + 1) (fs ++ [.rd ks]) K (σ.put d v)) (a.get σ.tm) := rfl
theorem walkG_fad {o : Nat} {x : Rd} : walkG P rid kp fin (⟨d, .fad o x, none⟩ :: os) i fs K σ = wsA (lfad o (x.get σ.tm)) (fun v => walkG P rid kp fin os (i + 1) (fs ++ [.rd []]) K (σ.put d v)) := propext ⟨fun h => h.2, fun h => ⟨rfl, h⟩⟩
theorem walkG_un {o : UnOp} {x : Rd} : walkG P rid kp fin (⟨d, .un o x, none⟩ :: os) i fs K σ = wsA (lop (.un o x) σ.tm σ.H) (fun v => walkG P rid kp fin os (i + 1) (fs ++ [.rd []]) K (σ.put d v)) := propext ⟨fun h => h.2, fun h => ⟨rfl, h⟩⟩
theorem walkG_call {f : FuncId} {a : List Rd} : walkG P rid kp fin (⟨d, .call f a, none⟩ :: os) i fs K σ = walkD P rid kp fin (⟨d, .call f a, none⟩ :: os) i fs K σ := rfl
end
end
/-! Behind a call that was walked into the caller's slots are what they were. -/
theorem back_upd {f : Nat → V} {k : Nat} {v : V} (h : k < 100000) : backTm (tupd f k v) = backTm f := by
  funext t
  simp only [backTm_app, tupd_app]
  by_cases ht : t < 100000
  · rw [if_pos ht, if_pos ht, if_neg (by omega)]
  · rw [if_neg ht, if_neg ht, if_neg (by omega)]
theorem back_call {args : List V} {tm : Nat → V} : backTm (callTm args tm) = tm := by
  funext t
  rw [backTm_app]
  by_cases ht : t < 100000
  · rw [if_pos ht, callTm_app, if_neg (by omega), if_pos (by omega), if_pos (by omega)]
    congr 1; omega
  · rw [if_neg ht, callTm_app, if_neg (by omega), if_neg (by omega)]
    congr 1; omega
theorem kput {K : St → Prop} {tm : Nat → V} {H : Heap} {c : Nat → Nat} {d : Nat} {v : V} (h : K (St.put ⟨tm, H, c⟩ (some d) v)) : K ⟨tupd tm d v, H, c⟩ := h
end Go.Lg

set_option linter.unusedSimpArgs false
set_option linter.unusedVariables false
namespace Go.Lg
theorem VCA : type_of% (And.intro VC0 (And.intro VC1 (And.intro VC2 (And.intro VC3 (And.intro VC4 (And.intro VC5 (And.intro VC6 (And.intro VC7 (And.intro VC8 VC9))))))))) := And.intro VC0 (And.intro VC1 (And.intro VC2 (And.intro VC3 (And.intro VC4 (And.intro VC5 (And.intro VC6 (And.intro VC7 (And.intro VC8 VC9))))))))
end Go.Lg
