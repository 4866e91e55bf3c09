/-
  The plain logic's rules for code, in one function 'vcg': what is to be shown of a body; and that it suffices.
-/
import Derived.Test.YtgpeaibhhonikaaGreatDoorLgNe
set_option linter.unusedSimpArgs false
set_option linter.unusedVariables false
namespace Go.Lg
open Go Go.RowKit

inductive LC where
  | skip
  | reg (rid : Nat) (ops : List LOp)
  | rego (rid : Nat) (ops : List LOp)
  | seq (x y : LC)
  | cond (c : Rd) (x y : LC)
  | block (id : Nat) (x : LC)
  | loop (x : LC)
  | exit (id : Nat)
  | ret
  | bad
  | keep (ls : List Nat) (x : LC)
  | join (x y : LC)
  | regb (rid : Nat) (ops : List (Bool × LOp))
  | regc (rid : Nat) (ops : List (Nat × LOp))
  | regd (rid : Nat) (bs : List Nat) (ops : List LOp)
  | regf (rid : Nat) (bs : List Nat) (ops : List LOp)
  | rege (rid : Nat) (bs : List Nat) (ops : List LOp)
  | regg (rid : Nat) (bs : List Nat) (ops : List LOp)

/-- A body without the notes on which slots still count. -/
def LC.erase : LC → LC
  | .seq x y => .seq x.erase y.erase
  | .join x y => .seq x.erase y.erase
  | .cond c x y => .cond c x.erase y.erase
  | .block id x => .block id x.erase
  | .loop x => .loop x.erase
  | .keep _ x => x.erase
  | .regb rid ops => .rego rid (ops.map (·.2))
  | .regc rid ops => .rego rid (ops.map (·.2))
  | .rege rid bs ops => .regf rid bs ops
  | .regg rid bs ops => .regf rid bs ops
  | c => c

def tmk : List (Nat × V) → Nat → V
  | [], _ => .junk
  | (d, v) :: r, t => if t = d then v else tmk r t
def keepL (tm : Nat → V) : List Nat → List (Nat × V)
  | [] => []
  | d :: r => (d, tm d) :: keepL tm r
def St.keep (σ : St) (ls : List Nat) : St := ⟨tmk (keepL σ.tm ls), σ.H, σ.cnt⟩
theorem keep_le (σ : St) (ls : List Nat) : St.le (σ.keep ls) σ := ⟨fun t => by
  simp only [St.keep]
  induction ls with
  | nil => exact .inr rfl
  | cons d r ih =>
    simp only [keepL, tmk]
    split
    · rename_i e; subst e; exact .inl rfl
    · exact ih, fun _ _ h => h, fun _ => Nat.le_refl _⟩

/-- Does a call stand among them? -/
def hasCall (os : List LOp) : Bool := os.any fun o => match o.op with
  | .call .. | .callv .. => true
  | .bsl n _ _ => !(n == 0)
  | _ => false
def trC (P : Program) : Code → LC
  | .skip => .skip
  | .region rid ops draw => if draw then (if drawOk ops (ops.toList.map (trO P ops)) (befs ops.toList) then (if hasCall (ops.toList.map (trO P ops)) then .regf rid (befs ops.toList) (ops.toList.map (trO P ops)) else .reg rid (ops.toList.map (trO P ops))) else .regd rid (befs ops.toList) (ops.toList.map (trO P ops))) else .rego rid (ops.toList.map (trO P ops))
  | .seq x y => .seq (trC P x) (trC P y)
  | .cond c x y => .cond (rdOf c) (trC P x) (trC P y)
  | .block id x => .block id (trC P x)
  | .loop x => .loop (trC P x)
  | .exit id => .exit id
  | .ret => .ret
  | _ => .bad

/-- The closed checks of a body: slots; that order does not matter. -/
def codeOk (P : Program) (N : Nat) : Code → LC → Bool
  | .region _ ops draw, .reg _ los => ops.toList.all (opOk N ops) && (draw && (P.follows .mixedOrders && drawOk ops los (befs ops.toList)))
  | .region _ ops draw, .rego _ _ => ops.toList.all (opOk N ops) && !draw
  | .region _ ops draw, .regf _ _ los => ops.toList.all (opOk N ops) && (draw && (P.follows .mixedOrders && (drawOk ops los (befs ops.toList) && depsChk ops (befs ops.toList))))
  | .region _ ops draw, .regd _ _ _ => ops.toList.all (opOk N ops) && (draw && (P.follows .mixedOrders && depsChk ops (befs ops.toList)))
  | .seq x y, .seq x' y' => codeOk P N x x' && codeOk P N y y'
  | .cond _ x y, .cond _ x' y' => codeOk P N x x' && codeOk P N y y'
  | .block _ x, .block _ x' => codeOk P N x x'
  | .loop x, .loop x' => codeOk P N x x'
  | .skip, .skip | .exit _, .exit _ | .ret, .ret => true
  | _, _ => false

def vops (P : Program) (rid : Nat) : List LOp → Nat → (St → Prop) → St → Prop
  | [], _, K, σ => K σ
  | o :: os, i, K, σ => vstep P (siteOf rid i) o (vops P rid os (i + 1) K) σ

def vopsM (P : Program) (rid : Nat) : List LOp → Nat → (St → Prop) → St → Prop
  | [], _, K, σ => K σ
  | o :: os, i, K, σ => vstepM P (siteOf rid i) o (vopsM P rid os (i + 1) K) σ

def vopsB (P : Program) (rid : Nat) : List (Bool × LOp) → Nat → (St → Prop) → St → Prop
  | [], _, K, σ => K σ
  | (false, o) :: os, i, K, σ => vstepM P (siteOf rid i) o (vopsB P rid os (i + 1) K) σ
  | (true, o) :: os, i, K, σ => vstepL P (siteOf rid i) o (vopsB P rid os (i + 1) K) σ

/-- 0: a plain step; 1: a literal of the call's own; 2: a step that may say less, a call that is walked into. -/
def vopsC (P : Program) (rid : Nat) : List (Nat × LOp) → Nat → (St → Prop) → St → Prop
  | [], _, K, σ => K σ
  | (0, o) :: os, i, K, σ => vstepM P (siteOf rid i) o (vopsC P rid os (i + 1) K) σ
  | (1, o) :: os, i, K, σ => vstepL P (siteOf rid i) o (vopsC P rid os (i + 1) K) σ
  | (_ + 2, o) :: os, i, K, σ => vstepC P (siteOf rid i) o (vopsC P rid os (i + 1) K) σ

/-- The last one waits for all the others, and is walked into. -/
def vopsL (P : Program) (rid : Nat) : List LOp → Nat → (St → Prop) → St → Prop
  | [], _, _, _ => False
  | [o], i, K, σ => vstepM P (siteOf rid i) o K σ
  | o :: o' :: os, i, K, σ => vstep P (siteOf rid i) o (vopsL P rid (o' :: os) (i + 1) K) σ
/-- Does the last one wait for all the others? -/
def lastB (bs : List Nat) (n : Nat) : Bool := (List.range (n - 1)).all fun j => (bs.getD (n - 1) 0).testBit j

def thenQ (K : St → Prop) (Q : Exit → St → Prop) : Exit → St → Prop
  | .normal, σ => K σ
  | e, σ => Q e σ
def blockQ (id : Nat) (Q : Exit → St → Prop) : Exit → St → Prop
  | .exit i, σ => if i = id then Q .normal σ else Q (.exit i) σ
  | e, σ => Q e σ
def condV (v : V) (X Y : St → Prop) (σ : St) : Prop := match v with
  | .bool true => X σ
  | .bool false => Y σ
  | _ => False
theorem condV_of {b : Bool} {X Y : St → Prop} {σ : St} (h1 : b = true → X σ) (h2 : b = false → Y σ) : condV (.bool b) X Y σ := by
  cases b
  · exact h2 rfl
  · exact h1 rfl
/-- A loop: what holds at each round's head, with a number that goes down. -/
def loopV (body : (Exit → St → Prop) → St → Prop) (Q : Exit → St → Prop) (σ : St) : Prop :=
  ∃ I : Nat → St → Prop, (∃ n σ0, Ent σ σ0 ∧ I n σ0) ∧ ∀ n σ1, I n σ1 → body (thenQ (fun σ2 => ∃ m σ3, m < n ∧ Ent σ2 σ3 ∧ I m σ3) Q) σ1

def vcg (P : Program) : LC → (Exit → St → Prop) → St → Prop
  | .skip, Q, σ => Q .normal σ
  | .reg rid ops, Q, σ => vops P rid ops 0 (Q .normal) σ
  | .rego rid ops, Q, σ => vopsM P rid ops 0 (Q .normal) σ
  | .seq x y, Q, σ => vcg P x (thenQ (vcg P y Q) Q) σ
  | .cond c x y, Q, σ => condV (c.get σ.tm) (vcg P x Q) (vcg P y Q) σ
  | .block id x, Q, σ => vcg P x (blockQ id Q) σ
  | .loop x, Q, σ => loopV (vcg P x) Q σ
  | .exit id, Q, σ => Q (.exit id) σ
  | .ret, Q, σ => Q .ret σ
  | .bad, _, _ => False
  | .keep ls x, Q, σ => vcg P x Q (σ.keep ls)
  | .regb rid ops, Q, σ => vopsB P rid ops 0 (Q .normal) σ
  | .regc rid ops, Q, σ => vopsC P rid ops 0 (Q .normal) σ
  | .regd rid bs ops, Q, σ => vregd P rid bs ops (Q .normal) σ
  | .regf rid _ ops, Q, σ => vops P rid ops 0 (Q .normal) σ
  | .rege rid bs ops, Q, σ => vregd P rid bs ops (Q .normal) σ
  | .regg rid bs ops, Q, σ => lastB bs ops.length = true ∧ vopsL P rid ops 0 (Q .normal) σ
  | .join x y, Q, σ => ∃ I : St → Prop, vcg P x (thenQ (fun σ1 => ∃ σ2, Ent σ1 σ2 ∧ I σ2) Q) σ ∧ ∀ σ2, I σ2 → vcg P y Q σ2

section
variable {P : Program} {E : Env} {σ : St} {a : Act} {w : World}

theorem vops_run {rid : Nat} {ops : Array Oper} {K : St → Prop} : ∀ (n i : Nat) (σ : St), i + n = ops.size →
    vops P rid ((ops.toList.map (trO P ops)).drop i) i K σ → ∃ σe, Run P rid (fun i => trO P ops (ops.getD i default)) (List.range' i n) σ σe ∧ K σe
  | 0, i, σ, hn, h => by
    have : (ops.toList.map (trO P ops)).drop i = [] := List.drop_eq_nil_of_le (by simp; omega)
    rw [this] at h
    exact ⟨σ, rfl, h⟩
  | n + 1, i, σ, hn, h => by
    have hlt : i < ops.size := by omega
    have hd : (ops.toList.map (trO P ops)).drop i = trO P ops ops[i] :: (ops.toList.map (trO P ops)).drop (i + 1) := by
      rw [List.drop_eq_getElem_cons (by simpa using hlt)]
      simp
    rw [hd] at h
    obtain ⟨σ1, h1, h2⟩ := vstep_iff.1 h
    obtain ⟨σe, h3, h4⟩ := vops_run n (i + 1) σ1 (by omega) h2
    refine ⟨σe, ⟨σ1, ?_, h3⟩, h4⟩
    have : ops.getD i default = ops[i] := by simp [hlt]
    simp only [this]
    exact h1

theorem vopsL_run {rid : Nat} {ops : Array Oper} {K : St → Prop} : ∀ (n i : Nat) (σ : St), i + (n + 1) = ops.size →
    vopsL P rid ((ops.toList.map (trO P ops)).drop i) i K σ → ∃ σe, Run P rid (fun i => trO P ops (ops.getD i default)) (List.range' i n) σ σe ∧ vstepM P (siteOf rid (i + n)) (trO P ops (ops.getD (i + n) default)) K σe
  | 0, i, σ, hn, h => by
    have hlt : i < ops.size := by omega
    have hd : (ops.toList.map (trO P ops)).drop i = [trO P ops ops[i]] := by
      rw [List.drop_eq_getElem_cons (by simpa using hlt), List.drop_eq_nil_of_le (by simp; omega)]
      simp
    rw [hd] at h
    refine ⟨σ, rfl, ?_⟩
    have : ops.getD i default = ops[i] := by simp [hlt]
    rw [Nat.add_zero, this]
    exact h
  | n + 1, i, σ, hn, h => by
    have hlt : i < ops.size := by omega
    have hlt2 : i + 1 < ops.size := by omega
    have hd2 : (ops.toList.map (trO P ops)).drop (i + 1) = trO P ops ops[i + 1] :: (ops.toList.map (trO P ops)).drop (i + 2) := by
      rw [List.drop_eq_getElem_cons (by simpa using hlt2)]
      simp
    have hd : (ops.toList.map (trO P ops)).drop i = trO P ops ops[i] :: (ops.toList.map (trO P ops)).drop (i + 1) := by
      rw [List.drop_eq_getElem_cons (by simpa using hlt)]
      simp
    rw [hd, hd2] at h
    obtain ⟨σ1, h1, h2⟩ := vstep_iff.1 h
    rw [← hd2] at h2
    obtain ⟨σe, h3, h4⟩ := vopsL_run n (i + 1) σ1 (by omega) h2
    refine ⟨σe, ⟨σ1, ?_, h3⟩, ?_⟩
    · have : ops.getD i default = ops[i] := by simp [hlt]
      simp only [this]
      exact h1
    · rw [show i + (n + 1) = i + 1 + n by omega]; exact h4

theorem ordered_sound [EOk P E] {rid : Nat} {ops : Array Oper} {KL : St → Prop} {Q : Exit → Act → World → Prop} (hall : ops.toList.all (opOk E.N ops) = true) (hQ : ∀ σ' a' w', KL σ' → Sim E σ' a' w' → Q .normal a' w') :
    ∀ (n i : Nat) (σ : St) (a : Act) (w : World), i + n = ops.size → vopsM P rid ((ops.toList.map (trO P ops)).drop i) i KL σ → Sim E σ a w → wpOps P ops Q (List.range' i n) a w
  | 0, i, σ, a, w, hn, h, hs => by
    have : (ops.toList.map (trO P ops)).drop i = [] := List.drop_eq_nil_of_le (by simp; omega)
    rw [this] at h
    exact hQ _ _ _ h hs
  | n + 1, i, σ, a, w, hn, h, hs => by
    have hlt : i < ops.size := by omega
    have hd : (ops.toList.map (trO P ops)).drop i = trO P ops ops[i] :: (ops.toList.map (trO P ops)).drop (i + 1) := by
      rw [List.drop_eq_getElem_cons (by simpa using hlt)]
      simp
    rw [hd] at h
    rw [List.range'_succ, wpOps_cons]
    have hok : opOk E.N ops ops[i] = true := List.all_eq_true.1 hall _ (by simp)
    exact wpOp_of_vstepM (Array.getElem?_eq_getElem hlt) hok hs h fun σ' a' w' h' hs' => ordered_sound hall hQ n (i + 1) σ' a' w' (by omega) h' hs'

theorem orderedB_sound [EOk P E] {rid : Nat} {ops : Array Oper} {KL : St → Prop} {Q : Exit → Act → World → Prop} (hall : ops.toList.all (opOk E.N ops) = true) (hQ : ∀ σ' a' w', KL σ' → Sim E σ' a' w' → Q .normal a' w') :
    ∀ (los : List (Bool × LOp)) (n i : Nat) (σ : St) (a : Act) (w : World), i + n = ops.size → los.map (·.2) = (ops.toList.map (trO P ops)).drop i → vopsB P rid los i KL σ → Sim E σ a w → wpOps P ops Q (List.range' i n) a w
  | los, 0, i, σ, a, w, hn, he, h, hs => by
    have : (ops.toList.map (trO P ops)).drop i = [] := List.drop_eq_nil_of_le (by simp; omega)
    rw [this] at he
    cases los with
    | nil => exact hQ _ _ _ h hs
    | cons _ _ => cases he
  | los, n + 1, i, σ, a, w, hn, he, h, hs => by
    have hlt : i < ops.size := by omega
    have hd : (ops.toList.map (trO P ops)).drop i = trO P ops ops[i] :: (ops.toList.map (trO P ops)).drop (i + 1) := by
      rw [List.drop_eq_getElem_cons (by simpa using hlt)]
      simp
    rw [hd] at he
    rw [List.range'_succ, wpOps_cons]
    have hok : opOk E.N ops ops[i] = true := List.all_eq_true.1 hall _ (by simp)
    cases los with
    | nil => cases he
    | cons p los =>
      obtain ⟨b, o⟩ := p
      simp only [List.map_cons, List.cons.injEq] at he
      obtain ⟨rfl, he⟩ := he
      cases b with
      | false => exact wpOp_of_vstepM (Array.getElem?_eq_getElem hlt) hok hs h fun σ' a' w' h' hs' => orderedB_sound hall hQ los n (i + 1) σ' a' w' (by omega) he h' hs'
      | true => exact wpOp_of_vstepL (Array.getElem?_eq_getElem hlt) hok hs h fun σ' a' w' h' hs' => orderedB_sound hall hQ los n (i + 1) σ' a' w' (by omega) he h' hs'

theorem orderedC_sound [EOk P E] {rid : Nat} {ops : Array Oper} {KL : St → Prop} {Q : Exit → Act → World → Prop} (hall : ops.toList.all (opOk E.N ops) = true) (hQ : ∀ σ' a' w', KL σ' → Sim E σ' a' w' → Q .normal a' w') :
    ∀ (los : List (Nat × LOp)) (n i : Nat) (σ : St) (a : Act) (w : World), i + n = ops.size → los.map (·.2) = (ops.toList.map (trO P ops)).drop i → vopsC P rid los i KL σ → Sim E σ a w → wpOps P ops Q (List.range' i n) a w
  | los, 0, i, σ, a, w, hn, he, h, hs => by
    have : (ops.toList.map (trO P ops)).drop i = [] := List.drop_eq_nil_of_le (by simp; omega)
    rw [this] at he
    cases los with
    | nil => exact hQ _ _ _ h hs
    | cons _ _ => cases he
  | los, n + 1, i, σ, a, w, hn, he, h, hs => by
    have hlt : i < ops.size := by omega
    have hd : (ops.toList.map (trO P ops)).drop i = trO P ops ops[i] :: (ops.toList.map (trO P ops)).drop (i + 1) := by
      rw [List.drop_eq_getElem_cons (by simpa using hlt)]
      simp
    rw [hd] at he
    rw [List.range'_succ, wpOps_cons]
    have hok : opOk E.N ops ops[i] = true := List.all_eq_true.1 hall _ (by simp)
    cases los with
    | nil => cases he
    | cons p los =>
      obtain ⟨b, o⟩ := p
      simp only [List.map_cons, List.cons.injEq] at he
      obtain ⟨rfl, he⟩ := he
      match b, h with
      | 0, h => exact wpOp_of_vstepM (Array.getElem?_eq_getElem hlt) hok hs h fun σ' a' w' h' hs' => orderedC_sound hall hQ los n (i + 1) σ' a' w' (by omega) he h' hs'
      | 1, h => exact wpOp_of_vstepL (Array.getElem?_eq_getElem hlt) hok hs h fun σ' a' w' h' hs' => orderedC_sound hall hQ los n (i + 1) σ' a' w' (by omega) he h' hs'
      | _ + 2, h => exact wpOp_of_vstepC (Array.getElem?_eq_getElem hlt) hok hs h fun σ' a' w' h' hs' => orderedC_sound hall hQ los n (i + 1) σ' a' w' (by omega) he h' hs'

/-- What the logic says of an exit, said of the model. -/
def simQ (E : Env) (Q : Exit → St → Prop) : Exit → Act → World → Prop := fun e a w => ∃ σ, Sim E σ a w ∧ Q e σ

theorem draw_sound [EOk P E] {rid : Nat} {ops : Array Oper} {Q : Exit → St → Prop} {σ : St} {a : Act} {w : World} (hall : ops.toList.all (opOk E.N ops) = true) (hm : P.follows .mixedOrders = true) (hd : drawOk ops (ops.toList.map (trO P ops)) (befs ops.toList) = true)
    (h : vops P rid (ops.toList.map (trO P ops)) 0 (Q .normal) σ) (hs : Sim E σ a w) : (Code.region rid ops true).wp P (simQ E Q) a w := by
  obtain ⟨σe, hrun, hq⟩ := vops_run (ops := ops) ops.size 0 σ (by omega) (by simpa using h)
  refine wp_region_any hm ?_
  refine any_sound (lo := fun i => trO P ops (ops.getD i default)) rfl (fun i x hx => ?_) hall hd (fun a' w' hs' => ⟨σe, hs', hq⟩) ops.size _ (List.range' 0 ops.size) σ a _ (by simp) ?_ hrun hs.drew
  · rw [List.getElem?_map, Option.map_eq_some_iff] at hx
    obtain ⟨o, ho, rfl⟩ := hx
    rw [Array.getElem?_toList] at ho
    simp [Array.getD_eq_getD_getElem?, ho]
  · refine ⟨by simp, by rw [← List.range_eq_range']; exact List.pairwise_lt_range, fun k => ?_, fun k hk hl => ?_⟩
    · rw [← List.range_eq_range', List.mem_range]
      simp only [Array.getD_eq_getD_getElem?]
      constructor
      · intro hk; exact ⟨hk, by simp [hk]⟩
      · exact fun h => h.1
    · simp only [Array.getD_eq_getD_getElem?] at hl
      simp [hk] at hl
theorem dyn_sound [EOk P E] {rid : Nat} {ops : Array Oper} {Q : Exit → St → Prop} {σ : St} {a : Act} {w : World} (hall : ops.toList.all (opOk E.N ops) = true) (hm : P.follows .mixedOrders = true) (hd : depsChk ops (befs ops.toList) = true)
    (h : vregd P rid (befs ops.toList) (ops.toList.map (trO P ops)) (Q .normal) σ) (hs : Sim E σ a w) : (Code.region rid ops true).wp P (simQ E Q) a w := by
  obtain ⟨ev, hev, hcmp, σe, hrun, hq⟩ := h
  have hlen : (ops.toList.map (trO P ops)).length = ops.size := by simp
  rw [hlen] at hev hcmp hrun
  refine wp_region_any hm ?_
  refine any_soundE (lo := loAt (ops.toList.map (trO P ops))) (ev := ev) (bs := befs ops.toList) (fun i o ho => ?_) hall hd hev hcmp (fun a' w' hs' => ⟨σe, hs', hq⟩) ops.size _ (List.range ops.size) σ a _ (by simp) ?_ hrun hs.drew
  · simp [loAt, List.getD_eq_getElem?_getD, ho]
  · refine ⟨by simp, List.pairwise_lt_range, fun k => ?_, fun k hk hl => ?_⟩
    · rw [List.mem_range]
      simp only [Array.getD_eq_getD_getElem?]
      constructor
      · intro hk; exact ⟨hk, by simp [hk]⟩
      · exact fun h => h.1
    · simp only [Array.getD_eq_getD_getElem?] at hl
      simp [hk] at hl

theorem last_sound [EOk P E] {rid : Nat} {ops : Array Oper} {Q : Exit → St → Prop} {σ : St} {a : Act} {w : World} (hall : ops.toList.all (opOk E.N ops) = true) (hm : P.follows .mixedOrders = true) (hd : drawOk ops (ops.toList.map (trO P ops)) (befs ops.toList) = true) (hchk : depsChk ops (befs ops.toList) = true)
    (hl : lastB (befs ops.toList) ops.size = true) (h : vopsL P rid (ops.toList.map (trO P ops)) 0 (Q .normal) σ) (hs : Sim E σ a w) : (Code.region rid ops true).wp P (simQ E Q) a w := by
  obtain ⟨n, hn⟩ : ∃ n, ops.size = n + 1 := by
    cases hsz : ops.size with
    | succ n => exact ⟨n, rfl⟩
    | zero =>
      have : ops.toList.map (trO P ops) = [] := by
        rw [List.map_eq_nil_iff]; exact List.eq_nil_of_length_eq_zero (by simpa using hsz)
      rw [this] at h; exact h.elim
  obtain ⟨σe, hrun, hst⟩ := vopsL_run (ops := ops) n 0 σ (by omega) (by simpa using h)
  rw [Nat.zero_add] at hst
  refine wp_region_any hm ?_
  rw [hn]
  refine any_soundS (lo := fun i => trO P ops (ops.getD i default)) (bs := befs ops.toList) (K := Q .normal) rfl (fun i x hx => ?_) hall hd hchk hn (fun j hj => ?_) hst (fun σ' a' w' hk hs' => ⟨σ', hs', hk⟩) n _ (List.range' 0 n) σ a _ (by simp) ?_ hrun hs.drew
  · rw [List.getElem?_map, Option.map_eq_some_iff] at hx
    obtain ⟨o, ho, rfl⟩ := hx
    rw [Array.getElem?_toList] at ho
    simp [Array.getD_eq_getD_getElem?, ho]
  · rw [lastB, hn] at hl
    have := List.all_eq_true.1 hl j (List.mem_range.2 (by omega))
    simpa using this
  · have e : List.range' 0 n ++ [n] = List.range (n + 1) := by rw [← List.range_eq_range', List.range_succ]
    rw [e, ← hn]
    refine ⟨by simp, List.pairwise_lt_range, fun k => ?_, fun k hk hl => ?_⟩
    · rw [List.mem_range]
      simp only [Array.getD_eq_getD_getElem?]
      constructor
      · intro hk; exact ⟨hk, by simp [hk]⟩
      · exact fun h => h.1
    · simp only [Array.getD_eq_getD_getElem?] at hl
      simp [hk] at hl

theorem vcg_sound0 [EOk P E] : ∀ (c : Code) (Q : Exit → St → Prop) (σ : St) (a : Act) (w : World), codeOk P E.N c (trC P c) = true → vcg P (trC P c) Q σ → Sim E σ a w → c.wp P (simQ E Q) a w
  | .skip, Q, σ, a, w, _, h, hs => wp_skip ⟨σ, hs, h⟩
  | .region rid ops draw, Q, σ, a, w, hok, h, hs => by
    cases draw with
    | false =>
      simp only [trC, codeOk, Bool.and_eq_true, Bool.false_eq_true, if_false] at hok
      refine wp_region ?_
      rw [List.range_eq_range']
      exact ordered_sound (KL := Q .normal) hok.1 (fun σ' a' w' h' hs' => ⟨σ', hs', h'⟩) ops.size 0 σ a w (by omega) (by simpa [vcg, trC] using h) hs
    | true =>
     by_cases hdr : drawOk ops (ops.toList.map (trO P ops)) (befs ops.toList) = true
     · by_cases hca : hasCall (ops.toList.map (trO P ops)) = true
       · have htr : trC P (.region rid ops true) = .regf rid (befs ops.toList) (ops.toList.map (trO P ops)) := by simp only [trC, if_true, hdr, hca]
         rw [htr] at hok h
         simp only [codeOk, Bool.and_eq_true] at hok
         exact draw_sound hok.1 hok.2.2.1 hok.2.2.2.1 h hs
       · have htr : trC P (.region rid ops true) = .reg rid (ops.toList.map (trO P ops)) := by simp only [trC, if_true, hdr, hca]; rfl
         rw [htr] at hok h
         simp only [codeOk, Bool.and_eq_true] at hok
         exact draw_sound hok.1 hok.2.2.1 hok.2.2.2 h hs
     · have htr : trC P (.region rid ops true) = .regd rid (befs ops.toList) (ops.toList.map (trO P ops)) := by simp only [trC, if_true, hdr]; rfl
       rw [htr] at hok h
       simp only [codeOk, Bool.and_eq_true] at hok
       exact dyn_sound hok.1 hok.2.2.1 hok.2.2.2 h hs
  | .seq x y, Q, σ, a, w, hok, h, hs => by
    simp only [trC, codeOk, Bool.and_eq_true] at hok
    refine wp_seq (wp_mono (vcg_sound0 x _ σ a w hok.1 h hs) ?_)
    rintro e a' w' ⟨σ', hs', hq⟩
    cases e with
    | normal => exact vcg_sound0 y Q σ' a' w' hok.2 hq hs'
    | _ => exact ⟨σ', hs', hq⟩
  | .cond c x y, Q, σ, a, w, hok, h, hs => by
    simp only [trC, codeOk, Bool.and_eq_true] at hok
    have hc : ∃ b, a.eval c = .bool b ∧ (b = true → vcg P (trC P x) Q σ) ∧ (b = false → vcg P (trC P y) Q σ) := by
      obtain ⟨g, hs⟩ := hs
      have hr := rep_rd hs.tm c
      simp only [trC, vcg, condV] at h
      generalize (rdOf c).get σ.tm = C at hr h
      cases C with
      | bool b => exact ⟨b, hr.bool_inv, (fun e => by subst e; exact h), (fun e => by subst e; exact h)⟩
      | _ => exact h.elim
    obtain ⟨b, hb, h1, h2⟩ := hc
    exact wp_cond_split hb (fun e => vcg_sound0 x Q σ a w hok.1 (h1 e) hs) (fun e => vcg_sound0 y Q σ a w hok.2 (h2 e) hs)
  | .block id x, Q, σ, a, w, hok, h, hs => by
    simp only [trC, codeOk] at hok
    refine wp_block (wp_mono (vcg_sound0 x _ σ a w hok h hs) ?_)
    rintro e a' w' ⟨σ', hs', hq⟩
    cases e with
    | exit i =>
      simp only [blockQ] at hq
      simp only [Exit.inBlock]
      split
      · rename_i e; rw [if_pos e] at hq; exact ⟨σ', hs', hq⟩
      · rename_i e; rw [if_neg e] at hq; exact ⟨σ', hs', hq⟩
    | _ => exact ⟨σ', hs', hq⟩
  | .loop x, Q, σ, a, w, hok, h, hs => by
    simp only [trC, codeOk] at hok
    obtain ⟨I, ⟨n, σ0, hle, h0⟩, hround⟩ := h
    intro b k cs
    have key : ∀ n (a : Act) (w : World), (∃ σ, Sim E σ a w ∧ I n σ) →
        ∃ e a' w', simQ E Q e a' w' ∧ Arrives P (lone (b.at a (.code x :: .inLoop x :: k)) cs w) b k cs e a' w' := by
      intro n
      induction n using Nat.strongRecOn with
      | _ n ih =>
        rintro a w ⟨σ1, hs1, hI⟩
        obtain ⟨e, a₁, w₁, ⟨σ2, hs2, hq⟩, harr⟩ := vcg_sound0 x _ σ1 a w hok (hround n σ1 hI) hs1 b (.inLoop x :: k) cs
        cases e with
        | normal =>
          obtain ⟨m, σ3, hlt, hle3, hI3⟩ := hq
          obtain ⟨e₂, a₂, w₂, hq₂, harr₂⟩ := ih m hlt a₁ w₁ ⟨σ3, hle3 _ _ _ hs2, hI3⟩
          exact ⟨e₂, a₂, w₂, hq₂, .of_steps (Steps.trans harr (.one step_inLoop)) harr₂⟩
        | exit id => exact ⟨_, a₁, w₁, ⟨σ2, hs2, hq⟩, .pass (x := .inLoop x) rfl (fun _ _ => .inl (by simp)) harr⟩
        | goto l => exact ⟨_, a₁, w₁, ⟨σ2, hs2, hq⟩, .pass (x := .inLoop x) rfl (fun _ _ => .inl (by simp)) harr⟩
        | ret => exact ⟨_, a₁, w₁, ⟨σ2, hs2, hq⟩, .pass (x := .inLoop x) rfl (fun _ _ => .inl (by simp)) harr⟩
        | panic ch => exact ⟨_, a₁, w₁, ⟨σ2, hs2, hq⟩, .pass (x := .inLoop x) rfl (fun _ _ => .inl (by simp)) harr⟩
        | outgrown => exact ⟨_, a₁, w₁, ⟨σ2, hs2, hq⟩, .pass (x := .inLoop x) rfl (fun _ _ => .inl (by simp)) harr⟩
    obtain ⟨e, a', w', hq, harr⟩ := key n a w ⟨σ0, hle _ _ _ hs, h0⟩
    exact ⟨e, a', w', hq, .of_steps (.one step_loop) harr⟩
  | .exit id, Q, σ, a, w, _, h, hs => wp_exit ⟨σ, hs, h⟩
  | .ret, Q, σ, a, w, _, h, hs => wp_ret ⟨σ, hs, h⟩
  | .rangeFunc .., Q, σ, a, w, hok, h, hs => by cases hok
  | .scope _, Q, σ, a, w, hok, h, hs => by cases hok
  | .label _, Q, σ, a, w, hok, h, hs => by cases hok
  | .goto _, Q, σ, a, w, hok, h, hs => by cases hok
  | .refuse _, Q, σ, a, w, hok, h, hs => by cases hok


theorem trC_seq {x y : LC} {c : Code} (h : LC.seq x y = trC P c) : ∃ cx cy, c = .seq cx cy ∧ x = trC P cx ∧ y = trC P cy := by
  cases c with
  | seq cx cy => simp only [trC, LC.seq.injEq] at h; exact ⟨cx, cy, rfl, h.1, h.2⟩
  | region rid ops draw => simp only [trC] at h; split at h <;> first | (cases h; done) | (split at h <;> first | (cases h; done) | (split at h <;> cases h))
  | _ => cases h
theorem trC_cond {r : Rd} {x y : LC} {c : Code} (h : LC.cond r x y = trC P c) : ∃ co cx cy, c = .cond co cx cy ∧ r = rdOf co ∧ x = trC P cx ∧ y = trC P cy := by
  cases c with
  | cond co cx cy => simp only [trC, LC.cond.injEq] at h; exact ⟨co, cx, cy, rfl, h.1, h.2.1, h.2.2⟩
  | region rid ops draw => simp only [trC] at h; split at h <;> first | (cases h; done) | (split at h <;> first | (cases h; done) | (split at h <;> cases h))
  | _ => cases h
theorem trC_block {id : Nat} {x : LC} {c : Code} (h : LC.block id x = trC P c) : ∃ cx, c = .block id cx ∧ x = trC P cx := by
  cases c with
  | block i cx => simp only [trC, LC.block.injEq] at h; obtain ⟨rfl, h⟩ := h; exact ⟨cx, rfl, h⟩
  | region rid ops draw => simp only [trC] at h; split at h <;> first | (cases h; done) | (split at h <;> first | (cases h; done) | (split at h <;> cases h))
  | _ => cases h
theorem trC_loop {x : LC} {c : Code} (h : LC.loop x = trC P c) : ∃ cx, c = .loop cx ∧ x = trC P cx := by
  cases c with
  | loop cx => simp only [trC, LC.loop.injEq] at h; exact ⟨cx, rfl, h⟩
  | region rid ops draw => simp only [trC] at h; split at h <;> first | (cases h; done) | (split at h <;> first | (cases h; done) | (split at h <;> cases h))
  | _ => cases h

theorem trC_rego {rid : Nat} {os : List LOp} {c : Code} (h : LC.rego rid os = trC P c) : ∃ ops : Array Oper, c = .region rid ops false ∧ os = ops.toList.map (trO P ops) := by
  cases c with
  | region r ops draw =>
    simp only [trC] at h
    cases draw with
    | true => simp only [if_true] at h; split at h <;> first | (cases h; done) | (split at h <;> cases h)
    | false =>
      simp only [Bool.false_eq_true, if_false, LC.rego.injEq] at h
      obtain ⟨rfl, h⟩ := h
      exact ⟨ops, rfl, h⟩
  | _ => cases h

theorem trC_regf {rid : Nat} {bs : List Nat} {os : List LOp} {c : Code} (h : LC.regf rid bs os = trC P c) : ∃ ops : Array Oper, c = .region rid ops true ∧ bs = befs ops.toList ∧ os = ops.toList.map (trO P ops) := by
  cases c with
  | region r ops draw =>
    simp only [trC] at h
    cases draw with
    | false => cases h
    | true =>
      simp only [if_true] at h
      split at h
      · split at h
        · cases h; exact ⟨ops, rfl, rfl, rfl⟩
        · cases h
      · cases h
  | _ => cases h
theorem vcg_sound [EOk P E] : ∀ (lc : LC) (c : Code) (Q : Exit → St → Prop) (σ : St) (a : Act) (w : World), lc.erase = trC P c → codeOk P E.N c (trC P c) = true → vcg P lc Q σ → Sim E σ a w → c.wp P (simQ E Q) a w
  | .keep ls x, c, Q, σ, a, w, he, hok, h, hs => vcg_sound x c Q (σ.keep ls) a w he hok h (hs.le (keep_le σ ls))
  | .skip, c, Q, σ, a, w, he, hok, h, hs => vcg_sound0 c Q σ a w hok (he ▸ h) hs
  | .reg .., c, Q, σ, a, w, he, hok, h, hs => vcg_sound0 c Q σ a w hok (he ▸ h) hs
  | .regd .., c, Q, σ, a, w, he, hok, h, hs => vcg_sound0 c Q σ a w hok (he ▸ h) hs
  | .regf .., c, Q, σ, a, w, he, hok, h, hs => vcg_sound0 c Q σ a w hok (he ▸ h) hs
  | .rege rid bs os, c, Q, σ, a, w, he, hok, h, hs => by
    obtain ⟨ops, rfl, rfl, rfl⟩ := trC_regf he
    have htr := he.symm
    have he' : LC.regf rid (befs ops.toList) (ops.toList.map (trO P ops)) = trC P (.region rid ops true) := he
    rw [← he'] at hok
    simp only [codeOk, Bool.and_eq_true] at hok
    exact dyn_sound hok.1 hok.2.2.1 hok.2.2.2.2 h hs
  | .regg rid bs os, c, Q, σ, a, w, he, hok, h, hs => by
    obtain ⟨ops, rfl, rfl, rfl⟩ := trC_regf he
    have he' : LC.regf rid (befs ops.toList) (ops.toList.map (trO P ops)) = trC P (.region rid ops true) := he
    rw [← he'] at hok
    simp only [codeOk, Bool.and_eq_true] at hok
    exact last_sound hok.1 hok.2.2.1 hok.2.2.2.1 hok.2.2.2.2 (by simpa using h.1) h.2 hs
  | .rego .., c, Q, σ, a, w, he, hok, h, hs => vcg_sound0 c Q σ a w hok (he ▸ h) hs
  | .regb rid os, c, Q, σ, a, w, he, hok, h, hs => by
    obtain ⟨ops, rfl, ho⟩ := trC_rego he
    simp only [trC, codeOk, Bool.and_eq_true, Bool.false_eq_true, if_false] at hok
    refine wp_region ?_
    rw [List.range_eq_range']
    exact orderedB_sound (KL := Q .normal) hok.1 (fun σ' a' w' h' hs' => ⟨σ', hs', h'⟩) os ops.size 0 σ a w (by omega) (by simpa using ho) h hs
  | .regc rid os, c, Q, σ, a, w, he, hok, h, hs => by
    obtain ⟨ops, rfl, ho⟩ := trC_rego he
    simp only [trC, codeOk, Bool.and_eq_true, Bool.false_eq_true, if_false] at hok
    refine wp_region ?_
    rw [List.range_eq_range']
    exact orderedC_sound (KL := Q .normal) hok.1 (fun σ' a' w' h' hs' => ⟨σ', hs', h'⟩) os ops.size 0 σ a w (by omega) (by simpa using ho) h hs
  | .exit _, c, Q, σ, a, w, he, hok, h, hs => vcg_sound0 c Q σ a w hok (he ▸ h) hs
  | .ret, c, Q, σ, a, w, he, hok, h, hs => vcg_sound0 c Q σ a w hok (he ▸ h) hs
  | .bad, c, Q, σ, a, w, he, hok, h, hs => h.elim
  | .seq lx ly, c, Q, σ, a, w, he, hok, h, hs => by
    obtain ⟨x, y, rfl, ex, ey⟩ := trC_seq he
    simp only [trC, codeOk, Bool.and_eq_true] at hok
    refine wp_seq (wp_mono (vcg_sound lx x _ σ a w ex hok.1 h hs) ?_)
    rintro e a' w' ⟨σ', hs', hq⟩
    cases e with
    | normal => exact vcg_sound ly y Q σ' a' w' ey hok.2 hq hs'
    | _ => exact ⟨σ', hs', hq⟩
  | .join lx ly, c, Q, σ, a, w, he, hok, h, hs => by
    obtain ⟨x, y, rfl, ex, ey⟩ := trC_seq he
    simp only [trC, codeOk, Bool.and_eq_true] at hok
    obtain ⟨I, h1, h2⟩ := h
    refine wp_seq (wp_mono (vcg_sound lx x _ σ a w ex hok.1 h1 hs) ?_)
    rintro e a' w' ⟨σ', hs', hq⟩
    cases e with
    | normal =>
      obtain ⟨σ2, he2, hI⟩ := hq
      exact vcg_sound ly y Q σ2 a' w' ey hok.2 (h2 σ2 hI) (he2 _ _ _ hs')
    | _ => exact ⟨σ', hs', hq⟩
  | .cond r lx ly, c0, Q, σ, a, w, he, hok, h, hs => by
    obtain ⟨c, x, y, rfl, rfl, ex, ey⟩ := trC_cond he
    simp only [trC, codeOk, Bool.and_eq_true] at hok
    have hc : ∃ b, a.eval c = .bool b ∧ (b = true → vcg P lx Q σ) ∧ (b = false → vcg P ly Q σ) := by
      obtain ⟨g, hs⟩ := hs
      have hr := rep_rd hs.tm c
      simp only [vcg, condV] at h
      generalize (rdOf c).get σ.tm = C at hr h
      cases C with
      | bool b => exact ⟨b, hr.bool_inv, (fun e => by subst e; exact h), (fun e => by subst e; exact h)⟩
      | _ => exact h.elim
    obtain ⟨b, hb, h1, h2⟩ := hc
    exact wp_cond_split hb (fun e => vcg_sound lx x Q σ a w ex hok.1 (h1 e) hs) (fun e => vcg_sound ly y Q σ a w ey hok.2 (h2 e) hs)
  | .block id lx, c0, Q, σ, a, w, he, hok, h, hs => by
    obtain ⟨x, rfl, ex⟩ := trC_block he
    simp only [trC, codeOk] at hok
    refine wp_block (wp_mono (vcg_sound lx x _ σ a w ex hok h hs) ?_)
    rintro e a' w' ⟨σ', hs', hq⟩
    cases e with
    | exit i =>
      simp only [blockQ] at hq
      simp only [Exit.inBlock]
      split
      · rename_i e; rw [if_pos e] at hq; exact ⟨σ', hs', hq⟩
      · rename_i e; rw [if_neg e] at hq; exact ⟨σ', hs', hq⟩
    | _ => exact ⟨σ', hs', hq⟩
  | .loop lx, c0, Q, σ, a, w, he, hok, h, hs => by
    obtain ⟨x, rfl, ex⟩ := trC_loop he
    simp only [trC, codeOk] at hok
    obtain ⟨I, ⟨n, σ0, hle, h0⟩, hround⟩ := h
    intro b k cs
    have key : ∀ n (a : Act) (w : World), (∃ σ, Sim E σ a w ∧ I n σ) →
        ∃ e a' w', simQ E Q e a' w' ∧ Arrives P (lone (b.at a (.code x :: .inLoop x :: k)) cs w) b k cs e a' w' := by
      intro n
      induction n using Nat.strongRecOn with
      | _ n ih =>
        rintro a w ⟨σ1, hs1, hI⟩
        obtain ⟨e, a₁, w₁, ⟨σ2, hs2, hq⟩, harr⟩ := vcg_sound lx x _ σ1 a w ex hok (hround n σ1 hI) hs1 b (.inLoop x :: k) cs
        cases e with
        | normal =>
          obtain ⟨m, σ3, hlt, hle3, hI3⟩ := hq
          obtain ⟨e₂, a₂, w₂, hq₂, harr₂⟩ := ih m hlt a₁ w₁ ⟨σ3, hle3 _ _ _ hs2, hI3⟩
          exact ⟨e₂, a₂, w₂, hq₂, .of_steps (Steps.trans harr (.one step_inLoop)) harr₂⟩
        | exit id => exact ⟨_, a₁, w₁, ⟨σ2, hs2, hq⟩, .pass (x := .inLoop x) rfl (fun _ _ => .inl (by simp)) harr⟩
        | goto l => exact ⟨_, a₁, w₁, ⟨σ2, hs2, hq⟩, .pass (x := .inLoop x) rfl (fun _ _ => .inl (by simp)) harr⟩
        | ret => exact ⟨_, a₁, w₁, ⟨σ2, hs2, hq⟩, .pass (x := .inLoop x) rfl (fun _ _ => .inl (by simp)) harr⟩
        | panic ch => exact ⟨_, a₁, w₁, ⟨σ2, hs2, hq⟩, .pass (x := .inLoop x) rfl (fun _ _ => .inl (by simp)) harr⟩
        | outgrown => exact ⟨_, a₁, w₁, ⟨σ2, hs2, hq⟩, .pass (x := .inLoop x) rfl (fun _ _ => .inl (by simp)) harr⟩
    obtain ⟨e, a', w', hq, harr⟩ := key n a w ⟨σ0, hle _ _ _ hs, h0⟩
    exact ⟨e, a', w', hq, .of_steps (.one step_loop) harr⟩

end
end Go.Lg
