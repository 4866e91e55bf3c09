/-
  Regions that draw their order: the walk in the text's order serves every order.
-/
import Derived.Test.YtgpeaibhhonikaaGreatDoorLgKa
set_option linter.unusedSimpArgs false
set_option linter.unusedVariables false
namespace Go.Lg
open Go Go.RowKit

inductive Cls where
  | A | B | L | C | E | D
  deriving DecidableEq

def IOp.cls : IOp → Cls
  | .load .. | .mlk .. | .mlen .. | .b2s .. | .msb .. => .L
  | .call .. | .callv .. => .B
  | .new .. | .box .. | .mksl .. | .mkmap | .s2b .. | .bslo .. => .C
  | .appE .. => .E
  | .store .. | .app .. | .cpy .. | .mset .. | .bad => .D
  | _ => .A

def Rd.slots : Rd → List Nat
  | .tmp t => [t]
  | .con _ => []
def oslots : Option Rd → List Nat
  | none => []
  | some x => x.slots
def pslots : List (Nat × Nat × Rd) → List Nat
  | [] => []
  | (_, _, x) :: r => x.slots ++ pslots r
def lslots : List Rd → List Nat
  | [] => []
  | x :: r => x.slots ++ lslots r

def IOp.slots : IOp → List Nat
  | .mov x | .mvs x | .box x | .load _ _ x | .nilchk x | .un _ x | .convI _ x | .mkifc _ x | .fad _ x | .fld _ _ _ x | .tas _ _ x | .ext x _ | .len _ x | .mlen x | .s2b x | .b2s x | .msb x => x.slots
  | .pick c a b | .mset _ c a b | .mx3 c a b => c.slots ++ (a.slots ++ b.slots)
  | .new _ | .mkmap | .bad => []
  | .build _ ps | .bsl _ _ ps | .bslo _ _ ps => pslots ps
  | .store _ a x | .bin _ a x | .eqb _ a x | .eqp _ a x | .eqf _ a x | .eqi _ _ a x | .iaA _ _ a x | .iaS _ a x | .ixS a x | .ixA _ _ _ a x | .app _ _ a x | .appE _ _ a x | .cpy _ a x | .mn _ a x | .mksl _ _ _ a x | .mlk _ _ _ a x | .eqa _ _ _ a x => a.slots ++ x.slots
  | .mkfn _ xs | .call _ xs => lslots xs
  | .callv f xs => f.slots ++ lslots xs
  | .slS x lo hi | .slV _ x lo hi | .slA _ _ x lo hi => x.slots ++ (oslots lo ++ oslots hi)

def LOp.slots (o : LOp) : List Nat := (match o.guard with | none => [] | some (t, _) => [t]) ++ o.op.slots

section
variable {tm tm' : Nat → V}
theorem Rd.get_congr {x : Rd} (h : ∀ t ∈ x.slots, tm' t = tm t) : x.get tm' = x.get tm := by
  cases x with
  | tmp t => exact h t (by simp [Rd.slots])
  | con v => rfl
theorem lo_congr {x : Option Rd} (h : ∀ t ∈ oslots x, tm' t = tm t) : loOf tm' x = loOf tm x := by
  cases x with
  | none => rfl
  | some x => simp only [loOf]; rw [Rd.get_congr h]
theorem hi_congr {x : Option Rd} {n : Nat} (h : ∀ t ∈ oslots x, tm' t = tm t) : hiOf tm' n x = hiOf tm n x := by
  cases x with
  | none => rfl
  | some x => simp only [hiOf]; rw [Rd.get_congr h]
theorem list_congr : ∀ {xs : List Rd}, (∀ t ∈ lslots xs, tm' t = tm t) → xs.map (Rd.get tm') = xs.map (Rd.get tm)
  | [], _ => rfl
  | x :: r, h => by
    simp only [List.map_cons]
    rw [Rd.get_congr fun t ht => h t (by simp [lslots, ht]), list_congr fun t ht => h t (by simp [lslots, ht])]
theorem parts_congr : ∀ {ps : List (Nat × Nat × Rd)} {cs : List V} {n : Nat}, (∀ t ∈ pslots ps, tm' t = tm t) → fillL tm' cs ps = fillL tm cs ps ∧ partsOk tm' n ps = partsOk tm n ps
  | [], _, _, _ => ⟨rfl, rfl⟩
  | (o, s, x) :: r, cs, n, h => by
    have hx := Rd.get_congr (tm := tm) (tm' := tm') (x := x) fun t ht => h t (by simp [pslots, ht])
    have ih := fun cs => parts_congr (ps := r) (cs := cs) (n := n) fun t ht => h t (by simp [pslots, ht])
    constructor
    · simp only [fillL, hx]; exact (ih _).1
    · simp only [partsOk, hx, (ih cs).2]

theorem lop_congr {op : IOp} {H : Heap} (h : ∀ t ∈ op.slots, tm' t = tm t) : lop op tm' H = lop op tm H := by
  cases op <;> simp only [IOp.slots, List.mem_append] at h <;> simp only [lop]
  case pick c a b => rw [Rd.get_congr fun t ht => h t (.inl ht), Rd.get_congr fun t ht => h t (.inr (.inl ht)), Rd.get_congr fun t ht => h t (.inr (.inr ht))]
  case mset kt x i v => rw [Rd.get_congr fun t ht => h t (.inl ht), Rd.get_congr fun t ht => h t (.inr (.inl ht)), Rd.get_congr fun t ht => h t (.inr (.inr ht))]
  case mx3 x y z => rw [Rd.get_congr fun t ht => h t (.inl ht), Rd.get_congr fun t ht => h t (.inr (.inl ht)), Rd.get_congr fun t ht => h t (.inr (.inr ht))]
  case build zs ps => rw [(parts_congr (cs := zs) (n := 0) h).1, (parts_congr (cs := zs) (n := zs.length) h).2]
  case bsl n zs ps => rw [(parts_congr (cs := zs) (n := 0) h).1, (parts_congr (cs := zs) (n := zs.length) h).2]
  case bslo n zs ps => rw [(parts_congr (cs := zs) (n := 0) h).1, (parts_congr (cs := zs) (n := zs.length) h).2]
  case mkfn f xs => rw [list_congr h]
  case call f xs => rw [list_congr h]
  case callv f xs => rw [Rd.get_congr fun t ht => h t (.inl ht), list_congr fun t ht => h t (.inr ht)]
  case slS x lo hi => rw [Rd.get_congr fun t ht => h t (.inl ht), lo_congr fun t ht => h t (.inr (.inl ht))]; congr 1; funext n; exact hi_congr fun t ht => h t (.inr (.inr ht))
  case slV s x lo hi => rw [Rd.get_congr fun t ht => h t (.inl ht), lo_congr fun t ht => h t (.inr (.inl ht))]; congr 1; funext n; exact hi_congr fun t ht => h t (.inr (.inr ht))
  case slA n s x lo hi => rw [Rd.get_congr fun t ht => h t (.inl ht), lo_congr fun t ht => h t (.inr (.inl ht)), hi_congr fun t ht => h t (.inr (.inr ht))]
  all_goals first
    | rfl
    | rw [Rd.get_congr h]
    | rw [Rd.get_congr fun t ht => h t (.inl ht), Rd.get_congr fun t ht => h t (.inr ht)]
end

/-- A heap that has all of another one. -/
def Heap.sub (H H' : Heap) : Prop := ∀ k o, H k = some o → H' k = some o

theorem sok_mono {H H' : Heap} (hs : Heap.sub H H') : ∀ (d : Nat) (v : V), sok H d v = true → sok H' d v = true ∧ snap H' d v = snap H d v := by
  intro d
  induction d with
  | zero => intro v h; cases h
  | succ d ih =>
    intro v h
    have all : ∀ cs : List V, cs.all (sok H d) = true → cs.all (sok H' d) = true ∧ cs.map (snap H' d) = cs.map (snap H d) := by
      intro cs hc
      rw [List.all_eq_true] at hc
      exact ⟨List.all_eq_true.2 fun x hx => (ih x (hc x hx)).1, List.map_congr_left fun x hx => (ih x (hc x hx)).2⟩
    cases v with
    | msl key g off n =>
      simp only [sok, snap] at h ⊢
      cases hk : H key with
      | none => simp [hk] at h
      | some o =>
        rw [hs key o hk]
        cases o with
        | map es => simp [hk] at h
        | row g' esz cs =>
          simp only [hk, Bool.and_eq_true] at h ⊢
          obtain ⟨⟨h1, h2⟩, h3⟩ := h
          obtain ⟨a1, a2⟩ := all _ h3
          exact ⟨⟨⟨h1, h2⟩, a1⟩, by rw [a2]⟩
    | msv key g off n e =>
      simp only [sok, snap] at h ⊢
      cases hk : H key with
      | none => simp [hk] at h
      | some o =>
        rw [hs key o hk]
        cases o with
        | map es => simp [hk] at h
        | row g' esz cs =>
          simp only [hk, Bool.and_eq_true] at h ⊢
          obtain ⟨⟨h1, h2⟩, h3⟩ := h
          obtain ⟨a1, a2⟩ := all _ h3
          exact ⟨⟨⟨h1, h2⟩, a1⟩, by rw [a2]⟩
    | mp key g off =>
      simp only [sok, snap] at h ⊢
      cases hk : H key with
      | none => simp [hk] at h
      | some o =>
        rw [hs key o hk]
        cases o with
        | map es => simp [hk] at h
        | row g' esz cs =>
          simp only [hk, Bool.and_eq_true] at h ⊢
          obtain ⟨h1, h3⟩ := h
          obtain ⟨a1, a2⟩ := all _ h3
          exact ⟨⟨h1, a1⟩, by rw [a2]⟩
    | agg cs => obtain ⟨a1, a2⟩ := all cs h; exact ⟨a1, by simp only [snap, a2]⟩
    | tup cs => obtain ⟨a1, a2⟩ := all cs h; exact ⟨a1, by simp only [snap, a2]⟩
    | fn f cs => obtain ⟨a1, a2⟩ := all cs h; exact ⟨a1, by simp only [snap, a2]⟩
    | ifc t x => obtain ⟨a1, a2⟩ := ih x h; exact ⟨a1, by simp only [snap, a2]⟩
    | mm key =>
      simp only [sok, snap] at h ⊢
      cases hk : H key with
      | none => simp [hk] at h
      | some o =>
        rw [hs key o hk]
        cases o with
        | row => simp [hk] at h
        | map es =>
          simp only [hk, List.all_eq_true, Bool.and_eq_true] at h ⊢
          refine ⟨fun e he => ⟨(ih _ (h e he).1).1, (ih _ (h e he).2).1⟩, ?_⟩
          congr 1
          exact List.map_congr_left fun e he => by rw [(ih _ (h e he).1).2, (ih _ (h e he).2).2]
    | _ => exact ⟨h, rfl⟩

theorem soks_mono {H H' : Heap} (hs : Heap.sub H H') {xs : List V} {d : Nat} (h : xs.all (sok H d) = true) : xs.all (sok H' d) = true ∧ xs.map (snap H' d) = xs.map (snap H d) := by
  rw [List.all_eq_true] at h
  exact ⟨List.all_eq_true.2 fun x hx => (sok_mono hs d x (h x hx)).1, List.map_congr_left fun x hx => (sok_mono hs d x (h x hx)).2⟩

/-- The heap after a step. -/
def LRes.heap (σ : St) (s : Nat) : LRes → Heap
  | .C _ o _ => hupd σ.H (s, σ.cnt s) o
  | .D _ _ H' => H'
  | _ => σ.H

/-- One step, its outcome named. -/
def RStep (P : Program) (σ : St) (s : Nat) (r : LRes) (v : V) (σ' : St) : Prop :=
  match r with
  | .A pre u => pre ∧ v = u ∧ σ' = σ
  | .C pre o mk => pre ∧ v = mk (s, σ.cnt s) ∧ σ' = ⟨σ.tm, hupd σ.H (s, σ.cnt s) o, cupd σ.cnt s⟩
  | .D pre u H' => pre ∧ v = u ∧ σ' = ⟨σ.tm, H', σ.cnt⟩
  | .call pre f args sargs => pre ∧ PRet P f sargs v ∧ resOk P f args sargs v ∧ σ' = σ
  | .bad => False

theorem vres_iff {P : Program} {σ : St} {s : Nat} {d : Option Nat} {K : St → Prop} {r : LRes} : vres P σ s d K r ↔ ∃ v σ', RStep P σ s r v σ' ∧ K (σ'.put d v) := by
  cases r with
  | A pre u => exact ⟨fun ⟨h, k⟩ => ⟨u, σ, ⟨h, rfl, rfl⟩, k⟩, fun ⟨v, σ', ⟨h, e1, e2⟩, k⟩ => ⟨h, by rw [e1, e2] at k; exact k⟩⟩
  | C pre o mk => exact ⟨fun ⟨h, k⟩ => ⟨_, _, ⟨h, rfl, rfl⟩, k⟩, fun ⟨v, σ', ⟨h, e1, e2⟩, k⟩ => ⟨h, by rw [e1, e2] at k; exact k⟩⟩
  | D pre u H' => exact ⟨fun ⟨h, k⟩ => ⟨_, _, ⟨h, rfl, rfl⟩, k⟩, fun ⟨v, σ', ⟨h, e1, e2⟩, k⟩ => ⟨h, by rw [e1, e2] at k; exact k⟩⟩
  | call pre f args sargs => exact ⟨fun ⟨h, r, h1, h2, k⟩ => ⟨r, σ, ⟨h, h1, h2, rfl⟩, k⟩, fun ⟨v, σ', ⟨h, h1, h2, e⟩, k⟩ => ⟨h, v, h1, h2, by rw [e] at k; exact k⟩⟩
  | bad => exact ⟨fun h => h.elim, fun ⟨_, _, h, _⟩ => h.elim⟩

/-- One operation with its guard. -/
def LStep (P : Program) (s : Nat) (o : LOp) (σ σ' : St) : Prop :=
  (gd σ.tm o.guard = some true ∧ ∃ v σ1, RStep P σ s (lop o.op σ.tm σ.H) v σ1 ∧ σ' = σ1.put o.dst v) ∨ (gd σ.tm o.guard = some false ∧ σ' = σ.put o.dst (.tup []))

theorem vstep_iff {P : Program} {s : Nat} {o : LOp} {K : St → Prop} {σ : St} : vstep P s o K σ ↔ ∃ σ', LStep P s o σ σ' ∧ K σ' := by
  unfold vstep LStep
  cases hg : gd σ.tm o.guard with
  | none => exact ⟨fun h => h.elim, fun ⟨_, h, _⟩ => by rcases h with ⟨h, _⟩ | ⟨h, _⟩ <;> cases h⟩
  | some b =>
    cases b with
    | true =>
      simp only [vres_iff]
      constructor
      · rintro ⟨v, σ1, h, k⟩; exact ⟨_, .inl ⟨trivial, v, σ1, h, rfl⟩, k⟩
      · rintro ⟨σ', ⟨_, v, σ1, h, e⟩ | ⟨h, _⟩, k⟩
        · exact ⟨v, σ1, h, by rw [e] at k; exact k⟩
        · cases h
    | false =>
      constructor
      · intro k; exact ⟨_, .inr ⟨rfl, rfl⟩, k⟩
      · rintro ⟨σ', ⟨h, _⟩ | ⟨_, e⟩, k⟩
        · cases h
        · rw [e] at k; exact k

/-- No object is there that has not been made. -/
def WF (σ : St) : Prop := ∀ s n, σ.cnt s ≤ n → σ.H (s, n) = none

section
variable {P : Program} {σ σ1 σ2 : St}

theorem WF.put (h : WF σ) {d v} : WF (σ.put d v) := h

def isA : LRes → Bool | .A .. | .bad => true | _ => false
def isC : LRes → Bool | .C .. | .bad => true | _ => false
def isB : LRes → Bool | .A .. | .call .. | .bad => true | _ => false
def isD : LRes → Bool | .D .. | .C .. | .bad => true | _ => false

theorem isA_lbin (op : BinOp) (x y : V) : isA (lbin op x y) = true := by
  cases x <;> cases y <;> (try rfl) <;> cases op <;> simp only [lbin] <;> (try split) <;> rfl
theorem isA_leqp (n : Bool) (x y : V) : isA (leqp n x y) = true := by cases x <;> cases y <;> rfl
theorem isA_leqi (n l : Bool) (x y : V) : isA (leqi n l x y) = true := by cases x <;> cases y <;> rfl
theorem isA_leqb (n : Bool) (x y : V) : isA (leqb n x y) = true := by cases x <;> cases y <;> rfl
theorem isA_leqf (n : Bool) (x y : V) : isA (leqf n x y) = true := by
  cases x <;> cases y <;> (try rfl)
  simp only [leqf]; split <;> rfl
theorem isA_leqa (m : Nat) (q : IntKind) (n : Bool) (x y : V) : isA (leqa m q n x y) = true := by cases x <;> cases y <;> rfl
theorem isA_lun (op : UnOp) (x : V) : isA (lun op x) = true := by
  cases op <;> cases x <;> simp only [lun] <;> (try split) <;> rfl
theorem isA_ofOpt (x : Option V) : isA (.ofOpt x) = true := by cases x <;> rfl
theorem isA_lsl {f : Int → Int → LRes} (h : ∀ l r, isA (f l r) = true) (x y : Option Int) : isA (lsl f x y) = true := by
  cases x <;> cases y <;> first | rfl | exact h _ _
theorem isA_lslV (s : Nat) (x : V) (l r : Int) : isA (lslV s x l r) = true := by cases x <;> rfl
theorem isA_lslA (n s : Nat) (x : V) (l r : Int) : isA (lslA n s x l r) = true := by cases x <;> rfl

theorem cls_A {op : IOp} (h : op.cls = .A) (tm : Nat → V) (H H' : Heap) : lop op tm H' = lop op tm H ∧ isA (lop op tm H) = true := by
  cases op <;> first | (cases h; done) | skip
  all_goals first
    | exact ⟨rfl, rfl⟩
    | exact ⟨rfl, isA_lbin _ _ _⟩
    | exact ⟨rfl, isA_leqp _ _ _⟩
    | exact ⟨rfl, isA_leqi _ _ _ _⟩
    | exact ⟨rfl, isA_leqb _ _ _⟩
    | exact ⟨rfl, isA_leqf _ _ _⟩
    | exact ⟨rfl, isA_leqa _ _ _ _ _⟩
    | exact ⟨rfl, isA_lun _ _⟩
    | skip
  case mvs x => refine ⟨rfl, ?_⟩; simp only [lop, lmvs]; split <;> rfl
  case pick c x y => refine ⟨rfl, ?_⟩; simp only [lop, lpick]; split <;> rfl
  case bsl n zs ps => refine ⟨rfl, ?_⟩; simp only [lop]; split <;> rfl
  case nilchk x => refine ⟨rfl, ?_⟩; simp only [lop, lnil]; split <;> rfl
  case convI k x => refine ⟨rfl, ?_⟩; simp only [lop, lconvI]; split <;> rfl
  case slS x lo hi =>
    refine ⟨rfl, ?_⟩
    simp only [lop, lslSx]
    split
    · exact isA_lsl (fun _ _ => rfl) _ _
    · rfl
  case slV s x lo hi =>
    refine ⟨rfl, ?_⟩
    simp only [lop, lslVx]
    split
    · exact isA_lsl (isA_lslV _ _) _ _
    · rfl
  case slA n s x lo hi => exact ⟨rfl, isA_lsl (isA_lslA _ _ _) _ _⟩
  case fad o x => refine ⟨rfl, ?_⟩; simp only [lop, lfad]; split <;> rfl
  case fld b n o x =>
    refine ⟨rfl, ?_⟩; simp only [lop, lfld]
    split
    · exact isA_ofOpt _
    · rfl
  case iaA n s x i =>
    refine ⟨rfl, ?_⟩
    simp only [lop, liaA]
    repeat' split
    all_goals rfl
  case iaS s x i =>
    refine ⟨rfl, ?_⟩
    simp only [lop, liaS]
    repeat' split
    all_goals rfl
  case ixS x i =>
    refine ⟨rfl, ?_⟩
    simp only [lop, lixS]
    repeat' split
    all_goals rfl
  case ixA b n s x i =>
    refine ⟨rfl, ?_⟩
    simp only [lop, lixA]
    repeat' split
    all_goals rfl
  case tas t z x => refine ⟨rfl, ?_⟩; simp only [lop, ltas]; split <;> rfl
  case ext x i =>
    refine ⟨rfl, ?_⟩; simp only [lop, lext]
    split
    · exact isA_ofOpt _
    · rfl
  case len b x => refine ⟨rfl, ?_⟩; simp only [lop, llen]; split <;> (try split) <;> rfl
  case mn b x y => refine ⟨rfl, ?_⟩; simp only [lop, lmn]; split <;> rfl
  case mx3 x y z => refine ⟨rfl, ?_⟩; simp only [lop, lmx3]; split <;> rfl

theorem cls_C {op : IOp} (h : op.cls = .C) (tm : Nat → V) (H H' : Heap) : lop op tm H' = lop op tm H ∧ isC (lop op tm H) = true := by
  cases op <;> first | (cases h; done) | skip
  case new zs => exact ⟨rfl, rfl⟩
  case box x => exact ⟨rfl, rfl⟩
  case mksl e b zs l c => refine ⟨rfl, ?_⟩; simp only [lop, lmksl]; split <;> rfl
  case mkmap => exact ⟨rfl, rfl⟩
  case s2b x => refine ⟨rfl, ?_⟩; simp only [lop, ls2b]; split <;> rfl
  case bslo n zs ps => refine ⟨rfl, ?_⟩; simp only [lop]; split <;> rfl

theorem src_sub {H H' : Heap} (hs : Heap.sub H H') {esz : Nat} {Y : V} {src : Nat × List V} (h : srcOf H esz Y = some src) : srcOf H' esz Y = some src := by
  cases Y with
  | msl key g off n =>
    simp only [srcOf] at h ⊢
    cases hkey : H key with
    | none => simp [hkey] at h
    | some ob => rw [hs key ob hkey]; rw [hkey] at h; exact h
  | _ => exact h
theorem cls_B {op : IOp} (h : op.cls = .B ∨ op.cls = .L) (tm : Nat → V) {H H' : Heap} (hs : Heap.sub H H') :
    (∃ pre v, lop op tm H = .A pre v ∧ lop op tm H' = .A pre v) ∨ (∃ pre pre' f args sargs, lop op tm H = .call pre f args sargs ∧ (pre → pre' ∧ lop op tm H' = .call pre' f args sargs)) ∨ lop op tm H = .bad := by
  cases op <;> first | (rcases h with h | h <;> cases h; done) | skip
  case load agg n x =>
    simp only [lop]
    generalize x.get tm = X
    cases X with
    | ip cs off =>
      simp only [lload, LRes.ofOpt]
      cases ldV agg n cs off with
      | none => exact .inr (.inr (by trivial))
      | some v => exact .inl ⟨_, _, rfl, rfl⟩
    | mp key g off =>
      simp only [lload]
      cases hk : H key with
      | none => exact .inr (.inr (by trivial))
      | some o =>
        rw [hs key o hk]
        cases o with
        | map es => exact .inr (.inr (by trivial))
        | row g' esz cs =>
          simp only []
          by_cases e : g' = g
          · simp only [if_pos e, LRes.ofOpt]
            cases ldV agg n cs off with
            | none => exact .inr (.inr (by trivial))
            | some v => exact .inl ⟨_, _, rfl, rfl⟩
          · simp only [if_neg e]; exact .inr (.inr (by trivial))
    | _ => exact .inr (.inr (by trivial))
  case mlk kt ok z x i =>
    simp only [lop]
    generalize x.get tm = X
    cases X with
    | mm key =>
      simp only [lmlk]
      cases hk : H key with
      | none => exact .inr (.inr (by trivial))
      | some o =>
        rw [hs key o hk]
        cases o with
        | map es => exact .inl ⟨_, _, rfl, rfl⟩
        | row => exact .inr (.inr (by trivial))
    | im es => exact .inl ⟨_, _, rfl, rfl⟩
    | _ => exact .inr (.inr (by trivial))
  case mlen x =>
    simp only [lop]
    generalize x.get tm = X
    cases X with
    | mm key =>
      simp only [lmlen]
      cases hk : H key with
      | none => exact .inr (.inr (by trivial))
      | some o =>
        rw [hs key o hk]
        cases o with
        | map es => exact .inl ⟨_, _, rfl, rfl⟩
        | row => exact .inr (.inr (by trivial))
    | nilm => exact .inl ⟨_, _, rfl, rfl⟩
    | im es => exact .inl ⟨_, _, rfl, rfl⟩
    | _ => exact .inr (.inr (by trivial))
  case msb x =>
    simp only [lop]
    generalize x.get tm = X
    cases X with
    | msl key g off n =>
      simp only [lmsb]
      cases hk : H key with
      | none => exact .inr (.inr (by trivial))
      | some o =>
        rw [hs key o hk]
        cases o with
        | row => exact .inl ⟨_, _, rfl, rfl⟩
        | map es => exact .inr (.inr (by trivial))
    | _ => exact .inr (.inr (by trivial))
  case b2s x =>
    simp only [lop, lb2s]
    cases hsrc : srcOf H 1 (x.get tm) with
    | none => exact .inr (.inr (by trivial))
    | some src =>
      rw [src_sub hs hsrc]
      exact .inl ⟨_, _, rfl, rfl⟩
  case call f xs =>
    refine .inr (.inl ⟨_, (xs.map (Rd.get tm)).all (sok H' 8) = true, f, _, _, rfl, fun hp => ?_⟩)
    obtain ⟨h1, h2⟩ := soks_mono hs hp
    exact ⟨h1, by simp only [lop, h2]⟩
  case callv f xs =>
    simp only [lop, lcallv]
    generalize f.get tm = F
    cases F with
    | fn f cap =>
      refine .inr (.inl ⟨_, (xs.map (Rd.get tm) ++ cap).all (sok H' 8) = true, f, _, _, rfl, fun hp => ?_⟩)
      obtain ⟨h1, h2⟩ := soks_mono hs hp
      exact ⟨h1, by simp only [h2]⟩
    | _ => exact .inr (.inr (by trivial))

theorem hupd_comm {H : Heap} {k k' : Key} {o o' : LObj} (h : k ≠ k') : hupd (hupd H k o) k' o' = hupd (hupd H k' o') k o := by
  funext x
  simp only [hupd]
  split <;> split <;> simp_all
theorem cupd_comm {c : Nat → Nat} {s s' : Nat} (h : s ≠ s') : cupd (cupd c s) s' = cupd (cupd c s') s := by
  funext x
  simp only [cupd]
  split <;> split <;> simp_all
theorem cupd_ne {c : Nat → Nat} {s s' : Nat} (h : s' ≠ s) : cupd c s s' = c s' := by simp [cupd, h]

theorem hupd_sub {H : Heap} {k : Key} {o : LObj} (hk : H k = none) : Heap.sub H (hupd H k o) := by
  intro x y hx
  simp only [hupd]
  rw [if_neg]
  · exact hx
  · rintro rfl; rw [hk] at hx; cases hx

/-- An object that a value leads to has been made. -/
def okm (cnt : Nat → Nat) : V → Prop
  | .mp k _ _ => k.2 < cnt k.1
  | .msl k _ _ _ => k.2 < cnt k.1
  | .mm k => k.2 < cnt k.1
  | _ => True
/-- What an operation reads has been made. -/
def mdOp (op : IOp) (tm : Nat → V) (cnt : Nat → Nat) : Prop := match op with
  | .load _ _ x => okm cnt (x.get tm)
  | .mlk _ _ _ x _ => okm cnt (x.get tm)
  | .mlen x => okm cnt (x.get tm)
  | .b2s x => okm cnt (x.get tm)
  | .msb x => okm cnt (x.get tm)
  | .appE _ _ _ y => okm cnt (y.get tm)
  | _ => True

theorem cls_L_made {op : IOp} (h : op.cls = .L) (tm : Nat → V) {cnt : Nat → Nat} {H : Heap} (hm : mdOp op tm cnt) (s : Nat) (o : LObj) : lop op tm (hupd H (s, cnt s) o) = lop op tm H := by
  cases op <;> first | (cases h; done) | skip
  case load agg n x =>
    simp only [mdOp] at hm
    simp only [lop]
    generalize x.get tm = X at hm
    cases X with
    | mp k g off =>
      have hne : ¬ k = (s, cnt s) := by rintro rfl; simp only [okm] at hm; omega
      simp only [lload, hupd, if_neg hne]
    | _ => rfl
  case mlk kt ok z x i =>
    simp only [mdOp] at hm
    simp only [lop]
    generalize x.get tm = X at hm
    cases X with
    | mm k =>
      have hne : ¬ k = (s, cnt s) := by rintro rfl; simp only [okm] at hm; omega
      simp only [lmlk, hupd, if_neg hne]
    | _ => rfl
  case mlen x =>
    simp only [mdOp] at hm
    simp only [lop]
    generalize x.get tm = X at hm
    cases X with
    | mm k =>
      have hne : ¬ k = (s, cnt s) := by rintro rfl; simp only [okm] at hm; omega
      simp only [lmlen, hupd, if_neg hne]
    | _ => rfl
  case b2s x =>
    simp only [mdOp] at hm
    simp only [lop, lb2s]
    generalize x.get tm = X at hm
    have : srcOf (hupd H (s, cnt s) o) 1 X = srcOf H 1 X := by
      cases X with
      | msl k g off n =>
        have hne : ¬ k = (s, cnt s) := by rintro rfl; simp only [okm] at hm; omega
        simp only [srcOf, hupd, if_neg hne]
      | _ => rfl
    rw [this]
  case msb x =>
    simp only [mdOp] at hm
    simp only [lop]
    generalize x.get tm = X at hm
    cases X with
    | msl k g off n =>
      have hne : ¬ k = (s, cnt s) := by rintro rfl; simp only [okm] at hm; omega
      simp only [lmsb, hupd, if_neg hne]
    | _ => rfl
theorem cls_E {op : IOp} (h : op.cls = .E) (tm : Nat → V) {H H' : Heap} (hs : Heap.sub H H') :
    (∃ pre ob mk, lop op tm H = .C pre ob mk ∧ lop op tm H' = .C pre ob mk) ∨ lop op tm H = .bad := by
  cases op <;> first | (cases h; done) | skip
  case appE esz by_ x y =>
    simp only [lop, lappE]
    generalize x.get tm = X
    generalize y.get tm = Y
    cases X with
    | e0 =>
      simp only [lappx]
      cases hsrc : srcOf H esz Y with
      | none => exact .inr rfl
      | some src =>
        rw [src_sub hs hsrc]
        exact .inl ⟨_, _, _, rfl, rfl⟩
    | _ => exact .inr rfl
theorem cls_E_made {op : IOp} (h : op.cls = .E) (tm : Nat → V) {cnt : Nat → Nat} {H : Heap} (hm : mdOp op tm cnt) (s : Nat) (o : LObj) : lop op tm (hupd H (s, cnt s) o) = lop op tm H := by
  cases op <;> first | (cases h; done) | skip
  case appE esz by_ x y =>
    simp only [mdOp] at hm
    simp only [lop, lappE]
    generalize x.get tm = X
    generalize y.get tm = Y at hm
    cases X with
    | e0 =>
      have : srcOf (hupd H (s, cnt s) o) esz Y = srcOf H esz Y := by
        cases Y with
        | msl k g off n =>
          have hne : ¬ k = (s, cnt s) := by rintro rfl; simp only [okm] at hm; omega
          simp only [srcOf, hupd, if_neg hne]
        | _ => rfl
      simp only [lappx, this, lapp]
    | _ => rfl
theorem cls_mk {op : IOp} (h : op.cls = .C ∨ op.cls = .E) (tm : Nat → V) {H H' : Heap} (hs : Heap.sub H H') :
    (∃ pre ob mk, lop op tm H = .C pre ob mk ∧ lop op tm H' = .C pre ob mk) ∨ lop op tm H = .bad := by
  rcases h with h | h
  · obtain ⟨e1, e2⟩ := cls_C h tm H H'
    rw [e1]
    cases hr : lop op tm H with
    | C pre ob mk => exact .inl ⟨_, _, _, rfl, rfl⟩
    | bad => exact .inr rfl
    | _ => rw [hr] at e2; cases e2
  · exact cls_E h tm hs

/-- A new object elsewhere turns nothing of what an operation does. -/
theorem cls_D {op : IOp} (h : op.cls = .D) (tm : Nat → V) {H : Heap} {k : Key} {o : LObj} (hk : H k = none) :
    (∃ pre v H', lop op tm H = .D pre v H' ∧ lop op tm (hupd H k o) = .D pre v (hupd H' k o) ∧ (∀ x, H' x = none ↔ H x = none)) ∨ (∃ pre ob mk, lop op tm H = .C pre ob mk ∧ lop op tm (hupd H k o) = .C pre ob mk) ∨ lop op tm H = .bad := by
  have sub : Heap.sub H (hupd H k o) := by
    intro x y hx
    simp only [hupd]
    rw [if_neg]
    · exact hx
    · rintro rfl; rw [hk] at hx; cases hx
  have dom : ∀ key (ob ob' : LObj), H key = some ob → ∀ x, hupd H key ob' x = none ↔ H x = none := by
    intro key ob ob' hkey x
    simp only [hupd]
    split
    · rename_i e; subst e; rw [hkey]; simp
    · rfl
  cases op <;> first | (cases h; done) | skip
  case store n x y =>
    simp only [lop]
    generalize x.get tm = X
    generalize y.get tm = Y
    cases X with
    | mp key g off =>
      simp only [lstore]
      cases hkey : H key with
      | none => exact .inr (.inr (by trivial))
      | some ob =>
        rw [sub key ob hkey]
        cases ob with
        | map es => exact .inr (.inr (by trivial))
        | row g' esz cs =>
          simp only []
          by_cases e : g' = g
          · simp only [if_pos e]
            have hne : key ≠ k := by rintro rfl; rw [hk] at hkey; cases hkey
            exact .inl ⟨_, _, _, rfl, by rw [hupd_comm (Ne.symm hne)], dom _ _ _ hkey⟩
          · simp only [if_neg e]; exact .inr (.inr (by trivial))
    | _ => exact .inr (.inr (by trivial))
  case app esz by_ x y =>
    simp only [lop, lappx]
    generalize x.get tm = X
    generalize y.get tm = Y
    have hsrc : ∀ src, srcOf H esz Y = some src → srcOf (hupd H k o) esz Y = some src := by
      intro src hs
      cases Y with
      | msl key g off n =>
        simp only [srcOf] at hs ⊢
        cases hkey : H key with
        | none => simp [hkey] at hs
        | some ob => rw [sub key ob hkey]; rw [hkey] at hs; exact hs
      | _ => exact hs
    cases hs : srcOf H esz Y with
    | none => exact .inr (.inr (by trivial))
    | some src =>
      rw [hsrc src hs]
      simp only []
      cases X with
      | e0 => exact .inr (.inl ⟨_, _, _, rfl, rfl⟩)
      | msl key g off n =>
        simp only [lapp]
        cases hkey : H key with
        | none => exact .inr (.inr (by trivial))
        | some ob =>
          rw [sub key ob hkey]
          cases ob with
          | map es => exact .inr (.inr (by trivial))
          | row g' esz' cs =>
            have hne : key ≠ k := by rintro rfl; rw [hk] at hkey; cases hkey
            exact .inl ⟨_, _, _, rfl, by simp only []; rw [hupd_comm (Ne.symm hne)], dom _ _ _ hkey⟩
      | _ => exact .inr (.inr (by trivial))
  case cpy => exact .inr (.inr (by trivial))
  case mset kt x i v =>
    simp only [lop]
    generalize x.get tm = X
    cases X with
    | mm key =>
      simp only [lmset]
      cases hkey : H key with
      | none => exact .inr (.inr (by trivial))
      | some ob =>
        rw [sub key ob hkey]
        cases ob with
        | row => exact .inr (.inr (by trivial))
        | map es =>
          have hne : key ≠ k := by rintro rfl; rw [hk] at hkey; cases hkey
          exact .inl ⟨_, _, _, rfl, by simp only []; rw [hupd_comm (Ne.symm hne)], dom _ _ _ hkey⟩
    | _ => exact .inr (.inr (by trivial))
  case bad => exact .inr (.inr (by trivial))

end
end Go.Lg
