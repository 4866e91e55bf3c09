/-
  Rules for use: loops with a family of states; states written as short lists.
-/
import Derived.Test.YtgpeaibhhonikaaGreatDoorLgP
set_option linter.unusedSimpArgs false
set_option linter.unusedVariables false
namespace Go.Lg
open Go Go.RowKit

def hmk : List (Key × LObj) → Heap
  | [], _ => none
  | (k, o) :: r, x => if x = k then some o else hmk r x

theorem tmk_nil (t : Nat) : tmk [] t = .junk := rfl
theorem tmk_cons (d : Nat) (v : V) (r : List (Nat × V)) (t : Nat) : tmk ((d, v) :: r) t = if t = d then v else tmk r t := rfl
theorem hmk_nil (k : Key) : hmk [] k = none := rfl
theorem hmk_cons (k : Key) (o : LObj) (r : List (Key × LObj)) (x : Key) : hmk ((k, o) :: r) x = if x = k then some o else hmk r x := rfl
theorem tupd_app (f : Nat → V) (d : Nat) (v : V) (t : Nat) : tupd f d v t = if t = d then v else f t := rfl
theorem hupd_app (H : Heap) (k : Key) (o : LObj) (x : Key) : hupd H k o x = if x = k then some o else H x := rfl
theorem cupd_app (c : Nat → Nat) (s x : Nat) : cupd c s x = if x = s then c s + 1 else c x := rfl
theorem callTm_app (args : List V) (tm : Nat → V) (t : Nat) : callTm args tm t = if t < 100000 then args.getD t .junk else if (t - 100000) % 2 = 0 then (if (t - 100000) / 2 < 100000 then tm ((t - 100000) / 2) else .junk) else tm (100000 + (t - 100000) / 2) := rfl
theorem backTm_app (tm : Nat → V) (t : Nat) : backTm tm t = if t < 100000 then tm (100000 + 2 * t) else tm (100000 + (2 * (t - 100000) + 1)) := rfl
theorem argTm_app (args : List V) (t : Nat) : argTm args t = args.getD t .junk := rfl
theorem noH_app (k : Key) : noH k = none := rfl
theorem noC_app (s : Nat) : noC s = 0 := rfl
theorem dput_some (f : Nat → V) (d : Nat) (v : V) : dput f (some d) v = tupd f d v := rfl
theorem dput_none (f : Nat → V) (v : V) : dput f none v = f := rfl

section
variable {P : Program} {σ : St} {s : Nat} {d : Option Nat} {K X Y : St → Prop}
theorem vres_A {pre : Prop} {v : V} : vres P σ s d K (.A pre v) = (pre ∧ K (σ.put d v)) := rfl
theorem vres_C {pre : Prop} {o : LObj} {mk : Key → V} : vres P σ s d K (.C pre o mk) = (pre ∧ K (St.put ⟨σ.tm, hupd σ.H (s, σ.cnt s) o, cupd σ.cnt s⟩ d (mk (s, σ.cnt s)))) := rfl
theorem vres_D {pre : Prop} {v : V} {H : Heap} : vres P σ s d K (.D pre v H) = (pre ∧ K (St.put ⟨σ.tm, H, σ.cnt⟩ d v)) := rfl
theorem vres_call {pre : Prop} {f : FuncId} {a b : List V} : vres P σ s d K (.call pre f a b) = (pre ∧ callV P f a b d K σ) := rfl
theorem vres_bad : vres P σ s d K .bad = False := rfl
/-- A guarded operation. -/
def gdV (P : Program) (s : Nat) (d : Option Nat) (op : IOp) (b : Bool) (K : St → Prop) (σ : St) : Prop :=
  match b with
  | true => vres P σ s d K (lop op σ.tm σ.H)
  | false => K (σ.put d (.tup []))
theorem gdV_true {op : IOp} : gdV P s d op true K σ = vres P σ s d K (lop op σ.tm σ.H) := rfl
theorem gdV_false {op : IOp} : gdV P s d op false K σ = K (σ.put d (.tup [])) := rfl
theorem gdV_of {op : IOp} {b : Bool} (h1 : b = true → vres P σ s d K (lop op σ.tm σ.H)) (h2 : b = false → K (σ.put d (.tup []))) : gdV P s d op b K σ := by
  cases b
  · exact h2 rfl
  · exact h1 rfl
def vguard (P : Program) (s : Nat) (d : Option Nat) (op : IOp) (want : Bool) (K : St → Prop) (σ : St) (v : V) : Prop :=
  match v with
  | .bool b => gdV P s d op (b == want) K σ
  | .tup [] => K (σ.put d (.tup []))
  | _ => False
theorem vguard_bool {op : IOp} {want b : Bool} : vguard P s d op want K σ (.bool b) = gdV P s d op (b == want) K σ := rfl
theorem vguard_skip {op : IOp} {want : Bool} : vguard P s d op want K σ (.tup []) = K (σ.put d (.tup [])) := rfl
theorem vstep_none {op : IOp} : vstep P s ⟨d, op, none⟩ K σ = vres P σ s d K (lop op σ.tm σ.H) := rfl
theorem vstep_some {op : IOp} {t : Nat} {want : Bool} : vstep P s ⟨d, op, some (t, want)⟩ K σ = vguard P s d op want K σ (σ.tm t) := by
  simp only [vstep, gd, vguard]
  cases σ.tm t with
  | bool b => simp only [gdV]; cases b <;> cases want <;> rfl
  | tup l => cases l <;> rfl
  | _ => rfl
theorem vresM_A {pre : Prop} {v : V} : vresM P σ s d K (.A pre v) = (pre ∧ K (σ.put d v)) := rfl
theorem vresM_C {pre : Prop} {o : LObj} {mk : Key → V} : vresM P σ s d K (.C pre o mk) = (pre ∧ K (St.put ⟨σ.tm, hupd σ.H (s, σ.cnt s) o, cupd σ.cnt s⟩ d (mk (s, σ.cnt s)))) := rfl
theorem vresM_D {pre : Prop} {v : V} {H : Heap} : vresM P σ s d K (.D pre v H) = (pre ∧ K (St.put ⟨σ.tm, H, σ.cnt⟩ d v)) := rfl
theorem vresM_call {pre : Prop} {f : FuncId} {a b : List V} : vresM P σ s d K (.call pre f a b) = (pre ∧ callX P s f a b d K σ) := rfl
theorem vresM_bad : vresM P σ s d K .bad = False := rfl
def gdVM (P : Program) (s : Nat) (d : Option Nat) (op : IOp) (b : Bool) (K : St → Prop) (σ : St) : Prop :=
  match b with
  | true => vresM P σ s d K (lop op σ.tm σ.H)
  | false => K (σ.put d (.tup []))
theorem gdVM_true {op : IOp} : gdVM P s d op true K σ = vresM P σ s d K (lop op σ.tm σ.H) := rfl
theorem gdVM_false {op : IOp} : gdVM P s d op false K σ = K (σ.put d (.tup [])) := rfl
theorem gdVM_of {op : IOp} {b : Bool} (h1 : b = true → vresM P σ s d K (lop op σ.tm σ.H)) (h2 : b = false → K (σ.put d (.tup []))) : gdVM P s d op b K σ := by
  cases b
  · exact h2 rfl
  · exact h1 rfl
theorem gdVMn_of {op : IOp} {b : Bool} (h1 : b = false → vresM P σ s d K (lop op σ.tm σ.H)) (h2 : b = true → K (σ.put d (.tup []))) : gdVM P s d op (!b) K σ := by
  cases b
  · exact h1 rfl
  · exact h2 rfl
theorem gdVn_of {op : IOp} {b : Bool} (h1 : b = false → vres P σ s d K (lop op σ.tm σ.H)) (h2 : b = true → K (σ.put d (.tup []))) : gdV P s d op (!b) K σ := by
  cases b
  · exact h1 rfl
  · exact h2 rfl
def vguardM (P : Program) (s : Nat) (d : Option Nat) (op : IOp) (want : Bool) (K : St → Prop) (σ : St) (v : V) : Prop :=
  match v with
  | .bool b => gdVM P s d op (b == want) K σ
  | .tup [] => K (σ.put d (.tup []))
  | _ => False
theorem vguardM_bool {op : IOp} {want b : Bool} : vguardM P s d op want K σ (.bool b) = gdVM P s d op (b == want) K σ := rfl
theorem vguardM_skip {op : IOp} {want : Bool} : vguardM P s d op want K σ (.tup []) = K (σ.put d (.tup [])) := rfl
theorem vstepM_none {op : IOp} : vstepM P s ⟨d, op, none⟩ K σ = vresM P σ s d K (lop op σ.tm σ.H) := rfl
theorem vstepM_some {op : IOp} {t : Nat} {want : Bool} : vstepM P s ⟨d, op, some (t, want)⟩ K σ = vguardM P s d op want K σ (σ.tm t) := by
  simp only [vstepM, gd, vguardM]
  cases σ.tm t with
  | bool b => simp only [gdVM]; cases b <;> cases want <;> rfl
  | tup l => cases l <;> rfl
  | _ => rfl
theorem gdD_of {op : IOp} {p : Prop} [Decidable p] (h1 : p → vresM P σ s d K (lop op σ.tm σ.H)) (h2 : ¬ p → K (σ.put d (.tup []))) : gdVM P s d op (decide p) K σ :=
  gdVM_of (fun h => h1 (of_decide_eq_true h)) (fun h => h2 (of_decide_eq_false h))
theorem gdDn_of {op : IOp} {p : Prop} [Decidable p] (h1 : ¬ p → vresM P σ s d K (lop op σ.tm σ.H)) (h2 : p → K (σ.put d (.tup []))) : gdVM P s d op (!decide p) K σ :=
  gdVMn_of (fun h => h1 (of_decide_eq_false h)) (fun h => h2 (of_decide_eq_true h))
theorem gpD_of {op : IOp} {p : Prop} [Decidable p] (h1 : p → vres P σ s d K (lop op σ.tm σ.H)) (h2 : ¬ p → K (σ.put d (.tup []))) : gdV P s d op (decide p) K σ :=
  gdV_of (fun h => h1 (of_decide_eq_true h)) (fun h => h2 (of_decide_eq_false h))
theorem gpDn_of {op : IOp} {p : Prop} [Decidable p] (h1 : ¬ p → vres P σ s d K (lop op σ.tm σ.H)) (h2 : p → K (σ.put d (.tup []))) : gdV P s d op (!decide p) K σ :=
  gdVn_of (fun h => h1 (of_decide_eq_false h)) (fun h => h2 (of_decide_eq_true h))
theorem condVn_of {b : Bool} (h1 : b = false → X σ) (h2 : b = true → Y σ) : condV (.bool (!b)) X Y σ := by
  cases b
  · exact h1 rfl
  · exact h2 rfl
theorem condD_of {p : Prop} [Decidable p] (h1 : p → X σ) (h2 : ¬ p → Y σ) : condV (.bool (decide p)) X Y σ :=
  condV_of (fun h => h1 (of_decide_eq_true h)) (fun h => h2 (of_decide_eq_false h))
theorem condDn_of {p : Prop} [Decidable p] (h1 : ¬ p → X σ) (h2 : p → Y σ) : condV (.bool (!decide p)) X Y σ :=
  condVn_of (fun h => h1 (of_decide_eq_false h)) (fun h => h2 (of_decide_eq_true h))
theorem intBeq (a b : Int) : (a == b) = decide (a = b) := by
  by_cases h : a = b <;> simp [h]
theorem intBne (a b : Int) : (a != b) = !decide (a = b) := by
  by_cases h : a = b <;> simp [h]
theorem condV_true : condV (.bool true) X Y σ = X σ := rfl
theorem condV_false : condV (.bool false) X Y σ = Y σ := rfl
end
section
variable {P : Program} {σ : St} {Q : Exit → St → Prop} {K : St → Prop} {x y : LC}
/-- What is to be shown of a loop, its body not opened. -/
def loopW (P : Program) (x : LC) (Q : Exit → St → Prop) (σ : St) : Prop := loopV (vcg P x) Q σ
theorem vcg_skip : vcg P .skip Q σ = Q .normal σ := rfl
theorem vcg_reg {rid : Nat} {ops : List LOp} : vcg P (.reg rid ops) Q σ = vops P rid ops 0 (Q .normal) σ := rfl
theorem vcg_regg {rid : Nat} {bs : List Nat} {ops : List LOp} : vcg P (.regg rid bs ops) Q σ = (lastB bs ops.length = true ∧ vopsL P rid ops 0 (Q .normal) σ) := rfl
theorem vopsL_one {rid i : Nat} {o : LOp} : vopsL P rid [o] i K σ = vstepM P (siteOf rid i) o K σ := rfl
theorem vopsL_cons {rid i : Nat} {o o' : LOp} {os : List LOp} : vopsL P rid (o :: o' :: os) i K σ = vstep P (siteOf rid i) o (vopsL P rid (o' :: os) (i + 1) K) σ := rfl
theorem vcg_regf {rid : Nat} {bs : List Nat} {ops : List LOp} : vcg P (.regf rid bs ops) Q σ = vops P rid ops 0 (Q .normal) σ := rfl
theorem vcg_rego {rid : Nat} {ops : List LOp} : vcg P (.rego rid ops) Q σ = vopsM P rid ops 0 (Q .normal) σ := rfl
theorem vcg_seq : vcg P (.seq x y) Q σ = vcg P x (thenQ (vcg P y Q) Q) σ := rfl
theorem vcg_cond {c : Rd} : vcg P (.cond c x y) Q σ = condV (c.get σ.tm) (vcg P x Q) (vcg P y Q) σ := rfl
theorem vcg_block {id : Nat} : vcg P (.block id x) Q σ = vcg P x (blockQ id Q) σ := rfl
theorem vcg_loop : vcg P (.loop x) Q σ = loopW P x Q σ := rfl
theorem vcg_exit {id : Nat} : vcg P (.exit id) Q σ = Q (.exit id) σ := rfl
theorem vcg_ret : vcg P .ret Q σ = Q .ret σ := rfl
theorem vcg_bad : vcg P .bad Q σ = False := rfl
def joinW (P : Program) (x y : LC) (Q : Exit → St → Prop) (σ : St) : Prop := vcg P (.join x y) Q σ
theorem vcg_join : vcg P (.join x y) Q σ = joinW P x y Q σ := rfl
theorem vcg_keep {ls : List Nat} : vcg P (.keep ls x) Q σ = vcg P x Q (σ.keep ls) := rfl
theorem vops_nil {rid i : Nat} : vops P rid [] i K σ = K σ := rfl
theorem vops_cons {rid i : Nat} {o : LOp} {os : List LOp} : vops P rid (o :: os) i K σ = vstep P (siteOf rid i) o (vops P rid os (i + 1) K) σ := rfl
theorem vopsM_nil {rid i : Nat} : vopsM P rid [] i K σ = K σ := rfl
theorem vopsM_cons {rid i : Nat} {o : LOp} {os : List LOp} : vopsM P rid (o :: os) i K σ = vstepM P (siteOf rid i) o (vopsM P rid os (i + 1) K) σ := rfl
theorem vcg_regb {rid : Nat} {ops : List (Bool × LOp)} : vcg P (.regb rid ops) Q σ = vopsB P rid ops 0 (Q .normal) σ := rfl
theorem vopsB_nil {rid i : Nat} : vopsB P rid [] i K σ = K σ := rfl
theorem vopsB_consF {rid i : Nat} {o : LOp} {os : List (Bool × LOp)} : vopsB P rid ((false, o) :: os) i K σ = vstepM P (siteOf rid i) o (vopsB P rid os (i + 1) K) σ := rfl
theorem vopsB_consT {rid i : Nat} {o : LOp} {os : List (Bool × LOp)} : vopsB P rid ((true, o) :: os) i K σ = vstepL P (siteOf rid i) o (vopsB P rid os (i + 1) K) σ := rfl
theorem vstepL_none {s : Nat} {d : Option Nat} {op : IOp} : vstepL P s ⟨d, op, none⟩ K σ = vres P σ s d K (litR op σ.tm) := rfl
theorem litR_bsl {n : Nat} {zs : List V} {ps : List (Nat × Nat × Rd)} {tm : Nat → V} : litR (.bsl n zs ps) tm = if n = 0 then .bad else .C (partsOk tm zs.length ps) (.row 0 (zs.length / n) (fillL tm zs ps)) fun k => .msl k 0 0 n := rfl
theorem thenQ_normal : thenQ K Q .normal σ = K σ := rfl
theorem thenQ_exit {id : Nat} : thenQ K Q (.exit id) σ = Q (.exit id) σ := rfl
theorem thenQ_ret : thenQ K Q .ret σ = Q .ret σ := rfl
theorem blockQ_normal {id : Nat} : blockQ id Q .normal σ = Q .normal σ := rfl
theorem blockQ_exit {id i : Nat} : blockQ id Q (.exit i) σ = if i = id then Q .normal σ else Q (.exit i) σ := rfl
theorem blockQ_ret {id : Nat} : blockQ id Q .ret σ = Q .ret σ := rfl
theorem retK_normal {rs : List LRV} {R : V → St → Prop} : retK rs R .normal σ = ∃ v, rvals σ rs = some v ∧ R v σ := rfl
theorem retK_ret {rs : List LRV} {R : V → St → Prop} : retK rs R .ret σ = ∃ v, rvals σ rs = some v ∧ R v σ := rfl
theorem some_ex {v : V} {R : V → Prop} : (∃ u, some v = some u ∧ R u) = R v := propext ⟨fun ⟨_, e, h⟩ => by cases e; exact h, fun h => ⟨v, rfl, h⟩⟩
end
theorem ofOpt_some (v : V) : LRes.ofOpt (some v) = .A True v := rfl

def tmOk (σ : St) : List (Nat × V) → Prop
  | [] => True
  | (d, v) :: r => σ.tm d = v ∧ tmOk σ r
def hOk (σ : St) : List (Key × LObj) → Prop
  | [] => True
  | (k, o) :: r => σ.H k = some o ∧ hOk σ r

theorem le_mk {σ : St} {l : List (Nat × V)} {hl : List (Key × LObj)} {c : Nat → Nat} (h1 : tmOk σ l) (h2 : hOk σ hl) (h3 : ∀ s, σ.cnt s ≤ c s) : Ent σ ⟨tmk l, hmk hl, c⟩ := Ent.of_le {
  tm := by
    intro t
    simp only []
    induction l with
    | nil => exact .inr rfl
    | cons p l ih =>
      obtain ⟨d, v⟩ := p
      simp only [tmk]
      split
      · rename_i e; subst e; exact .inl h1.1.symm
      · exact ih h1.2
  H := by
    intro k o h
    simp only [] at h
    induction hl with
    | nil => cases h
    | cons p l ih =>
      obtain ⟨k', o'⟩ := p
      simp only [hmk] at h
      split at h
      · rename_i e; subst e; cases h; exact h2.1
      · exact ih h2.2 h
  cnt := h3 }

theorem loop_intro {ι : Type} (I : ι → St) (C : ι → Prop) (m : ι → Nat) {body : (Exit → St → Prop) → St → Prop} {Q : Exit → St → Prop} {σ : St} (x0 : ι) (h0 : C x0) (hle : Ent σ (I x0))
    (hr : ∀ x, C x → body (thenQ (fun σ2 => ∃ y, C y ∧ m y < m x ∧ Ent σ2 (I y)) Q) (I x)) (hmono : ∀ (Q1 Q2 : Exit → St → Prop) σ, (∀ e σ, Q1 e σ → Q2 e σ) → body Q1 σ → body Q2 σ) : loopV body Q σ := by
  refine ⟨fun n σ => ∃ x, C x ∧ m x = n ∧ σ = I x, ⟨m x0, I x0, hle, x0, h0, rfl, rfl⟩, ?_⟩
  rintro n σ1 ⟨x, hx, rfl, rfl⟩
  refine hmono _ _ _ ?_ (hr x hx)
  intro e σ2 h
  cases e with
  | normal =>
    obtain ⟨y, hy, hlt, hle⟩ := h
    exact ⟨m y, I y, hlt, hle, y, hy, rfl, rfl⟩
  | _ => exact h

section
variable {P : Program}
theorem vstep_mono {s : Nat} {o : LOp} {K K' : St → Prop} {σ : St} (hk : ∀ σ, K σ → K' σ) (h : vstep P s o K σ) : vstep P s o K' σ := by
  rw [vstep_iff] at h ⊢
  obtain ⟨σ', h1, h2⟩ := h
  exact ⟨σ', h1, hk _ h2⟩
theorem vops_mono {rid : Nat} : ∀ {os : List LOp} {i : Nat} {K K' : St → Prop} {σ : St}, (∀ σ, K σ → K' σ) → vops P rid os i K σ → vops P rid os i K' σ
  | [], _, _, _, _, hk, h => hk _ h
  | _ :: _, _, _, _, _, hk, h => vstep_mono (fun _ h => vops_mono hk h) h
theorem vresM_mono {s : Nat} {d : Option Nat} {r : LRes} {K K' : St → Prop} {σ : St} (hk : ∀ σ, K σ → K' σ) (h : vresM P σ s d K r) : vresM P σ s d K' r := by
  cases r with
  | A pre v => exact ⟨h.1, hk _ h.2⟩
  | C pre o mk => exact ⟨h.1, hk _ h.2⟩
  | D pre v H' => exact ⟨h.1, hk _ h.2⟩
  | call pre f a b =>
    obtain ⟨hp, ⟨r, h1, h2, h3⟩ | ⟨e, n, cs, h1, h2, h3⟩ | ⟨k, g, n, ex, e, cs, rt, cs', h1, h2, h3, h4, h5, h6⟩ | ⟨R, h1, h2⟩⟩ := h
    · exact ⟨hp, .inl ⟨r, h1, h2, hk _ h3⟩⟩
    · exact ⟨hp, .inr (.inl ⟨e, n, cs, h1, h2, hk _ h3⟩)⟩
    · exact ⟨hp, .inr (.inr (.inl ⟨k, g, n, ex, e, cs, rt, cs', h1, h2, h3, h4, h5, hk _ h6⟩))⟩
    · exact ⟨hp, .inr (.inr (.inr ⟨R, h1, fun v σ' h => hk _ (h2 v σ' h)⟩))⟩
  | bad => exact h
theorem vstepM_mono {s : Nat} {o : LOp} {K K' : St → Prop} {σ : St} (hk : ∀ σ, K σ → K' σ) (h : vstepM P s o K σ) : vstepM P s o K' σ := by
  unfold vstepM at h ⊢
  split at h
  · exact vresM_mono hk h
  · exact hk _ h
  · exact h
theorem vopsM_mono {rid : Nat} : ∀ {os : List LOp} {i : Nat} {K K' : St → Prop} {σ : St}, (∀ σ, K σ → K' σ) → vopsM P rid os i K σ → vopsM P rid os i K' σ
  | [], _, _, _, _, hk, h => hk _ h
  | _ :: _, _, _, _, _, hk, h => vstepM_mono (fun _ h => vopsM_mono hk h) h
theorem vres_mono {s : Nat} {d : Option Nat} {r : LRes} {K K' : St → Prop} {σ : St} (hk : ∀ σ, K σ → K' σ) (h : vres P σ s d K r) : vres P σ s d K' r := by
  rw [vres_iff] at h ⊢
  obtain ⟨v, σ', h1, h2⟩ := h
  exact ⟨v, σ', h1, hk _ h2⟩
theorem vstepL_mono {s : Nat} {o : LOp} {K K' : St → Prop} {σ : St} (hk : ∀ σ, K σ → K' σ) (h : vstepL P s o K σ) : vstepL P s o K' σ := by
  unfold vstepL at h ⊢
  split at h
  · exact vres_mono hk h
  · exact h.elim
theorem vopsB_mono {rid : Nat} : ∀ {os : List (Bool × LOp)} {i : Nat} {K K' : St → Prop} {σ : St}, (∀ σ, K σ → K' σ) → vopsB P rid os i K σ → vopsB P rid os i K' σ
  | [], _, _, _, _, hk, h => hk _ h
  | (false, _) :: _, _, _, _, _, hk, h => vstepM_mono (fun _ h => vopsB_mono hk h) h
  | (true, _) :: _, _, _, _, _, hk, h => vstepL_mono (fun _ h => vopsB_mono hk h) h
theorem instV_mono {f : FuncId} {args : List V} {d : Option Nat} {K K' : St → Prop} {σ : St} (hk : ∀ σ, K σ → K' σ) (h : instV P f args d K σ) : instV P f args d K' σ := by
  obtain ⟨R, h1, h2⟩ := h
  exact ⟨R, h1, fun v σ' h => hk _ (h2 v σ' h)⟩
theorem vstepC_mono {s : Nat} {o : LOp} {K K' : St → Prop} {σ : St} (hk : ∀ σ, K σ → K' σ) (h : vstepC P s o K σ) : vstepC P s o K' σ := by
  obtain ⟨σ', he, h | ⟨hg, pre, f, args, sargs, hl, h⟩ | h⟩ := h
  · exact ⟨σ', he, .inl (vstepM_mono hk h)⟩
  · exact ⟨σ', he, .inr (.inl ⟨hg, pre, f, args, sargs, hl, instV_mono hk h⟩)⟩
  · exact ⟨σ', he, .inr (.inr (vstepL_mono hk h))⟩
theorem vopsC_mono {rid : Nat} : ∀ {os : List (Nat × LOp)} {i : Nat} {K K' : St → Prop} {σ : St}, (∀ σ, K σ → K' σ) → vopsC P rid os i K σ → vopsC P rid os i K' σ
  | [], _, _, _, _, hk, h => hk _ h
  | (0, _) :: _, _, _, _, _, hk, h => vstepM_mono (fun _ h => vopsC_mono hk h) h
  | (1, _) :: _, _, _, _, _, hk, h => vstepL_mono (fun _ h => vopsC_mono hk h) h
  | (_ + 2, _) :: _, _, _, _, _, hk, h => vstepC_mono (fun _ h => vopsC_mono hk h) h
theorem vopsL_mono {rid : Nat} : ∀ {os : List LOp} {i : Nat} {K K' : St → Prop} {σ : St}, (∀ σ, K σ → K' σ) → vopsL P rid os i K σ → vopsL P rid os i K' σ
  | [], _, _, _, _, _, h => h
  | [o], _, _, _, _, hk, h => vstepM_mono hk h
  | o :: o' :: os, i, _, _, _, hk, h => vstep_mono (fun _ h => vopsL_mono (os := o' :: os) hk h) h
theorem vcg_mono : ∀ {c : LC} {Q Q' : Exit → St → Prop} {σ : St}, (∀ e σ, Q e σ → Q' e σ) → vcg P c Q σ → vcg P c Q' σ
  | .skip, _, _, _, hq, h => hq _ _ h
  | .reg _ _, _, _, _, hq, h => vops_mono (fun _ h => hq _ _ h) h
  | .rego _ _, _, _, _, hq, h => vopsM_mono (fun _ h => hq _ _ h) h
  | .seq x y, _, _, _, hq, h => vcg_mono (c := x) (fun e σ h => by
      cases e with
      | normal => exact vcg_mono (c := y) hq h
      | _ => exact hq _ _ h) h
  | .cond c x y, _, _, σ, hq, h => by
      simp only [vcg] at h ⊢
      generalize c.get σ.tm = C at h
      cases C with
      | bool b =>
        cases b
        · exact vcg_mono (c := y) hq h
        · exact vcg_mono (c := x) hq h
      | _ => exact h
  | .block id x, _, _, _, hq, h => vcg_mono (c := x) (fun e σ h => by
      cases e with
      | exit i => simp only [blockQ] at h ⊢; split <;> (rename_i e; simp only [e, if_true, if_false] at h; exact hq _ _ h)
      | _ => exact hq _ _ h) h
  | .loop x, _, _, _, hq, h => by
      obtain ⟨I, h0, hr⟩ := h
      refine ⟨I, h0, fun n σ1 hI => vcg_mono (c := x) (fun e σ h => ?_) (hr n σ1 hI)⟩
      cases e with
      | normal => exact h
      | _ => exact hq _ _ h
  | .exit _, _, _, _, hq, h => hq _ _ h
  | .ret, _, _, _, hq, h => hq _ _ h
  | .bad, _, _, _, _, h => h
  | .keep _ x, _, _, _, hq, h => vcg_mono (c := x) hq h
  | .regb _ _, _, _, _, hq, h => vopsB_mono (fun _ h => hq _ _ h) h
  | .regc _ _, _, _, _, hq, h => vopsC_mono (fun _ h => hq _ _ h) h
  | .regd _ _ _, _, _, _, hq, h => vregd_mono (fun _ h => hq _ _ h) h
  | .rege _ _ _, _, _, _, hq, h => vregd_mono (fun _ h => hq _ _ h) h
  | .regf _ _ _, _, _, _, hq, h => vops_mono (fun _ h => hq _ _ h) h
  | .regg _ _ _, _, _, _, hq, h => ⟨h.1, vopsL_mono (fun _ h => hq _ _ h) h.2⟩
  | .join x y, _, _, _, hq, h => by
      obtain ⟨I, h1, h2⟩ := h
      refine ⟨I, vcg_mono (c := x) (fun e σ h => ?_) h1, fun σ2 hI => vcg_mono (c := y) hq (h2 σ2 hI)⟩
      cases e with
      | normal => exact h
      | _ => exact hq _ _ h

/-- Behind a round: some state of the family stands there again, with a smaller number. -/
def backTo {ι : Type} (I : ι → St) (C : ι → Prop) (m : ι → Nat) (n : Nat) (σ : St) : Prop := ∃ y, C y ∧ m y < n ∧ Ent σ (I y)
theorem backTo_of {ι : Type} {I : ι → St} {C : ι → Prop} {m : ι → Nat} {n : Nat} {σ : St} (y : ι) (h1 : C y) (h2 : m y < n) (h3 : Ent σ (I y)) : backTo I C m n σ := ⟨y, h1, h2, h3⟩
/-- A loop: a family of states, one of which stands at each round's head. -/
theorem loop_vcg {ι : Type} (I : ι → St) (C : ι → Prop) (m : ι → Nat) {c : LC} {Q : Exit → St → Prop} {σ : St} (x0 : ι) (h0 : C x0) (hle : Ent σ (I x0))
    (hr : ∀ x, C x → vcg P c (thenQ (backTo I C m (m x)) Q) (I x)) : loopW P c Q σ :=
  loop_intro I C m x0 h0 hle hr fun _ _ _ hq h => vcg_mono hq h
/-- Behind a part that branches: some state of a family. -/
def joinTo {ι : Type} (I : ι → St) (C : ι → Prop) (σ : St) : Prop := ∃ y, C y ∧ Ent σ (I y)
theorem joinTo_of {ι : Type} {I : ι → St} {C : ι → Prop} {σ : St} (y : ι) (h1 : C y) (h3 : Ent σ (I y)) : joinTo I C σ := ⟨y, h1, h3⟩
theorem join_vcg {ι : Type} (I : ι → St) (C : ι → Prop) {x y : LC} {Q : Exit → St → Prop} {σ : St} (h1 : vcg P x (thenQ (joinTo I C) Q) σ) (h2 : ∀ z, C z → vcg P y Q (I z)) : joinW P x y Q σ :=
  ⟨fun s => ∃ z, C z ∧ s = I z, vcg_mono (fun e σ h => by
    cases e with
    | normal => obtain ⟨z, hz, he⟩ := h; exact ⟨I z, he, z, hz, rfl⟩
    | _ => exact h) h1, fun s ⟨z, hz, e⟩ => e ▸ h2 z hz⟩
end

theorem callV_of {P : Program} {f : FuncId} {args sargs : List V} {d : Option Nat} {K : St → Prop} {σ : St} {r : V} (h : PRet P f sargs r) (h1 : args = sargs ∨ flat 4 r = true) (h2 : K (σ.put d r)) : callV P f args sargs d K σ := ⟨r, h, .inl h1, h2⟩

theorem callX_of {P : Program} {f : FuncId} {args sargs : List V} {s : Nat} {d : Option Nat} {K : St → Prop} {σ : St} {r : V} (h : PRet P f sargs r) (h1 : args = sargs ∨ flat 4 r = true) (h2 : K (σ.put d r)) : callX P s f args sargs d K σ := .inl ⟨r, h, .inl h1, h2⟩
theorem callV_new {P : Program} {f : FuncId} {args sargs : List V} {d : Option Nat} {K : St → Prop} {σ : St} {r : V} (h : PRetF P f sargs r) (h2 : K (σ.put d r)) : callV P f args sargs d K σ := ⟨r, h.ret, .inr h, h2⟩
theorem callX_new {P : Program} {f : FuncId} {args sargs : List V} {s : Nat} {d : Option Nat} {K : St → Prop} {σ : St} {r : V} (h : PRetF P f sargs r) (h2 : K (σ.put d r)) : callX P s f args sargs d K σ := .inl ⟨r, h.ret, .inr h, h2⟩
theorem callX_own {P : Program} {f : FuncId} {args sargs : List V} {s : Nat} {d : Option Nat} {K : St → Prop} {σ : St} {esz n : Nat} {cs : List V} (h : PRetM P f sargs esz n cs) (h1 : args = sargs ∨ cs.all (flat 4) = true)
    (h2 : K (St.put ⟨σ.tm, hupd σ.H (s, σ.cnt s) (.row 0 esz cs), cupd σ.cnt s⟩ d (.msl (s, σ.cnt s) 0 0 n))) : callX P s f args sargs d K σ := .inr (.inl ⟨esz, n, cs, h, h1, h2⟩)
theorem callX_mut {P : Program} {f : FuncId} {ext sargs : List V} {s : Nat} {d : Option Nat} {K : St → Prop} {σ : St} {key : Key} {g n esz : Nat} {cs cs' : List V} {ret : Option Nat} (h : PMut P f ext esz n cs ret cs') (hk : σ.H key = some (.row g esz cs))
    (h1 : cs.map (snap σ.H 8) = cs) (h2 : ext.map (snap σ.H 8) = ext) (hK : K (St.put ⟨σ.tm, hupd σ.H key (.row g esz cs'), σ.cnt⟩ d (rmut key g ret))) : callX P s f (.msl key g 0 n :: ext) sargs d K σ := .inr (.inr (.inl ⟨key, g, n, ext, esz, cs, ret, cs', rfl, hk, h1, h2, h, hK⟩))
theorem callX_inl {P : Program} {f : FuncId} {args sargs : List V} {s : Nat} {d : Option Nat} {K : St → Prop} {σ : St} {N : Nat} {lc : LC} {rs : List LRV} (hf : fnData P f = some (N, lc.erase, rs)) (hn : args.length ≤ N)
    (h : vcg P lc (retK rs fun v σ1 => K (St.put σ1.back d v)) (σ.call args)) : callX P s f args sargs d K σ := .inr (.inr (.inr ⟨fun v σ' => K (σ'.put d v), pst_intro hf hn h, fun _ _ h => h⟩))

theorem one_int (k : IntKind) (n : Int) : V.one (.int k n) = true := rfl
theorem one_bool (b : Bool) : V.one (.bool b) = true := rfl
theorem one_str (s : ByteArray) : V.one (.str s) = true := rfl
theorem one_sl (n : Nat) (cs : List V) : V.one (.sl n cs) = true := rfl
theorem one_e0 : V.one .e0 = true := rfl
theorem one_msl (k : Key) (g o n : Nat) : V.one (.msl k g o n) = true := rfl
theorem one_mp (k : Key) (g o : Nat) : V.one (.mp k g o) = true := rfl
theorem one_ip (cs : List V) (o : Nat) : V.one (.ip cs o) = true := rfl
theorem one_nilp : V.one .nilp = true := rfl
theorem one_fn (f : FuncId) (c : List V) : V.one (.fn f c) = true := rfl
theorem one_ifc (t : TypeId) (v : V) : V.one (.ifc t v) = true := rfl
theorem one_mm (k : Key) : V.one (.mm k) = true := rfl
theorem one_im (es : List (V × V)) : V.one (.im es) = true := rfl
theorem one_nili : V.one .nili = true := rfl
/-! Encodings. -/
def encInts (k : IntKind) (l : List Int) : List V := l.map (.int k)
def encU8 (l : List UInt8) : List V := l.map fun b => .int .u8 b.toNat

end Go.Lg
