/-
  Each operation of the plain logic is borne out by the model's own: the operations that leave the world alone.
-/
import Derived.Test.YtgpeaibhhonikaaGreatDoorLgB
import Derived.WalkLawsBesides
set_option linter.unusedSimpArgs false
set_option linter.unusedVariables false
namespace Go.Lg
open Go Go.RowKit

section
variable {P : Program} {imm : Nat → Prop} {w : World}

theorem repI_ofVal0 (v : Value) : RepI imm w v (ofVal0 v) := by
  unfold ofVal0
  split <;> constructor

theorem repI_ofVal1 (v : Value) : RepI imm w v (ofVal1 v) := by
  unfold ofVal1
  split
  · exact .ifc _ _ _ (repI_ofVal0 _)
  · exact repI_ofVal0 _

theorem repI_ofVal (v : Value) : RepI imm w v (ofVal v) := by
  unfold ofVal
  split
  · refine .agg _ _ (by simp) fun j v c h1 h2 => ?_
    simp only [List.getElem?_map, Option.map_eq_some_iff] at h2
    obtain ⟨u, h2, rfl⟩ := h2
    rw [Array.getElem?_toList, h1] at h2
    cases h2
    exact repI_ofVal1 _
  · exact repI_ofVal1 _

theorem cells_ofVal0 (v : Value) : (ofVal0 v).cells = [ofVal0 v] := by
  unfold ofVal0; split <;> rfl
theorem cells_ofVal1 (v : Value) : (ofVal1 v).cells = [ofVal1 v] := by
  unfold ofVal1
  split
  · rfl
  · exact cells_ofVal0 _
end

theorem ofVal_cells (v : Value) : (ofVal v).cells.length = v.cells.size := by
  have key : ∀ v : Value, (∀ cs, v ≠ .agg cs) → (ofVal v).cells.length = v.cells.size := by
    intro v hv
    have h1 : ofVal v = ofVal1 v := by
      unfold ofVal
      split
      · exact absurd rfl (hv _)
      · rfl
    have h2 : v.cells = #[v] := by
      unfold Value.cells
      split
      · exact absurd rfl (hv _)
      · rfl
    rw [h1, h2, cells_ofVal1]
    rfl
  cases v with
  | agg cs => simp [ofVal, V.cells, Value.cells]
  | _ => exact key _ (fun _ h => by cases h)

section
variable {P : Program} {g : Gh} {w : World} {E : Env} {σ : St} {a : Act}

/-- The cells of a value stand for the cells of the logical one. -/
theorem Rep.cells {v : Value} {x : V} (h : Rep g w v x) (hk : x.known = true) :
    v.cells.size = x.cells.length ∧ ∀ (j : Nat) (u : Value) (c : V), v.cells[j]? = some u → x.cells[j]? = some c → Rep g w u c := by
  have one : ∀ (v : Value) (x : V), Rep g w v x → v.cells = #[v] → x.cells = [x] →
      v.cells.size = x.cells.length ∧ ∀ (j : Nat) (u : Value) (c : V), v.cells[j]? = some u → x.cells[j]? = some c → Rep g w u c := by
    intro v x h h1 h2
    rw [h1, h2]
    refine ⟨rfl, fun j u c hu hc => ?_⟩
    cases j with
    | zero => simp at hu hc; subst hu hc; exact h
    | succ j => simp at hc
  cases x with
  | agg cs =>
    obtain ⟨vs, rfl, hs, hj⟩ := h.agg_inv
    exact ⟨hs, hj⟩
  | junk => cases hk
  | int => have := h.int_inv; subst this; exact one _ _ h rfl rfl
  | bool => have := h.bool_inv; subst this; exact one _ _ h rfl rfl
  | str => have := h.str_inv; subst this; exact one _ _ h rfl rfl
  | tup => obtain ⟨vs, rfl, _⟩ := h.tup_inv; exact one _ _ h rfl rfl
  | sl => obtain ⟨A, c, rfl, _⟩ := h.sl_inv; exact one _ _ h rfl rfl
  | e0 => obtain ⟨A, rfl⟩ := h.e0_inv; exact one _ _ h rfl rfl
  | msl => obtain ⟨c, A, blk, cap, rfl, _⟩ := h.msl_inv; exact one _ _ h rfl rfl
  | msv => obtain ⟨c, A, blk, cap, rfl, _⟩ := h.msv_inv; exact one _ _ h rfl rfl
  | mm => obtain ⟨b, cap, _, rfl⟩ := h.mm_inv; exact one _ _ h rfl rfl
  | nilp => have := h.nilp_inv; subst this; exact one _ _ h rfl rfl
  | ip => obtain ⟨b, o, us, T, fz, rfl, _⟩ := h.ip_inv; exact one _ _ h rfl rfl
  | mp => obtain ⟨b, cap, _, rfl⟩ := h.mp_inv; exact one _ _ h rfl rfl
  | ifc => obtain ⟨u, rfl, _⟩ := h.ifc_inv; exact one _ _ h rfl rfl
  | nili => have := h.nili_inv; subst this; exact one _ _ h rfl rfl
  | fn => obtain ⟨vs, rfl, _⟩ := h.fn_inv; exact one _ _ h rfl rfl
  | nilf => have h0 := h; cases h with | imm _ _ h' => cases h'; exact one _ _ h0 rfl rfl
  | nilm => have h0 := h; cases h with | imm _ _ h' => cases h'; exact one _ _ h0 rfl rfl
  | im es => have h0 := h; cases h with | imm _ _ h' => cases h'; exact one _ _ h0 rfl rfl

theorem rep_rd (ht : ∀ t, Rep g w (slotV E a t) (σ.tm t)) (x : Operand) : Rep g w (a.eval x) ((rdOf x).get σ.tm) := by
  cases x with
  | tmp t =>
    simp only [rdOf]
    split
    · rename_i h
      have := ht t
      rw [slotV_lo h] at this
      exact this
    · exact .junk _ _ _
  | const v => exact .imm _ _ (repI_ofVal v)
  | global n => exact .junk _ _ _
  | func f => exact .imm _ _ (.fn f #[] [] rfl fun j v c h => by simp at h)

theorem Rep.one {v : Value} {x : V} (h : Rep g w v x) (hk : x.one = true) : v.cells = #[v] := by
  have h2 : x.known = true := by cases x <;> simp_all [V.one, V.known]
  cases x with
  | agg cs => cases hk
  | tup cs => cases hk
  | junk => cases hk
  | int => have := h.int_inv; subst this; rfl
  | bool => have := h.bool_inv; subst this; rfl
  | str => have := h.str_inv; subst this; rfl
  | sl => obtain ⟨A, c, rfl, _⟩ := h.sl_inv; rfl
  | e0 => obtain ⟨A, rfl⟩ := h.e0_inv; rfl
  | msl => obtain ⟨c, A, blk, cap, rfl, _⟩ := h.msl_inv; rfl
  | msv => obtain ⟨c, A, blk, cap, rfl, _⟩ := h.msv_inv; rfl
  | mm => obtain ⟨b, cap, _, rfl⟩ := h.mm_inv; rfl
  | nilp => have := h.nilp_inv; subst this; rfl
  | ip => obtain ⟨b, o, us, T, fz, rfl, _⟩ := h.ip_inv; rfl
  | mp => obtain ⟨b, cap, _, rfl⟩ := h.mp_inv; rfl
  | ifc => obtain ⟨u, rfl, _⟩ := h.ifc_inv; rfl
  | nili => have := h.nili_inv; subst this; rfl
  | fn => obtain ⟨vs, rfl, _⟩ := h.fn_inv; rfl
  | nilf => cases h with | imm _ _ h' => cases h'; rfl
  | nilm => cases h with | imm _ _ h' => cases h'; rfl
  | im es => cases h with | imm _ _ h' => cases h'; rfl

/-- No tuple, no struct: what a store takes. -/
def oneV (v : Value) : Bool := v.oneCell'
theorem Rep.oneV {v : Value} {x : V} (h : Rep g w v x) (hk : x.one = true) : oneV v = true := by
  cases x with
  | agg cs => cases hk
  | tup cs => cases hk
  | junk => cases hk
  | int => have := h.int_inv; subst this; rfl
  | bool => have := h.bool_inv; subst this; rfl
  | str => have := h.str_inv; subst this; rfl
  | sl => obtain ⟨A, c, rfl, _⟩ := h.sl_inv; rfl
  | e0 => obtain ⟨A, rfl⟩ := h.e0_inv; rfl
  | msl => obtain ⟨c, A, blk, cap, rfl, _⟩ := h.msl_inv; rfl
  | msv => obtain ⟨c, A, blk, cap, rfl, _⟩ := h.msv_inv; rfl
  | mm => obtain ⟨b, cap, _, rfl⟩ := h.mm_inv; rfl
  | nilp => have := h.nilp_inv; subst this; rfl
  | ip => obtain ⟨b, o, us, T, fz, rfl, _⟩ := h.ip_inv; rfl
  | mp => obtain ⟨b, cap, _, rfl⟩ := h.mp_inv; rfl
  | ifc => obtain ⟨u, rfl, _⟩ := h.ifc_inv; rfl
  | nili => have := h.nili_inv; subst this; rfl
  | fn => obtain ⟨vs, rfl, _⟩ := h.fn_inv; rfl
  | nilf => cases h with | imm _ _ h' => cases h'; rfl
  | nilm => cases h with | imm _ _ h' => cases h'; rfl
  | im es => cases h with | imm _ _ h' => cases h'; rfl

theorem wrap_of_in {n : Int} (h : InI64 n) : IntKind.i64.wrap n = n := by
  unfold InI64 at h
  exact IntWalk.i64_in _ (by omega)

/-- What is asked of an operation that leaves the world alone. -/
def LRes.pureOk (P : Program) (g : Gh) (w : World) (s : Sem Value) : LRes → Prop
  | .A pre v => pre → ∃ u, s.run P w = .ok u w ∧ Rep g w u v
  | .bad => True
  | _ => False

theorem rint (k n) : Rep g w (.int k n) (.int k n) := .imm _ _ (.int k n)
theorem rbool (b) : Rep g w (.bool b) (.bool b) := .imm _ _ (.bool b)
theorem rstr (b) : Rep g w (.string b) (.str b) := .imm _ _ (.str b)

theorem eqGuard_int (op t x y k a k' b) : (eqGuard op t x y (.int k a) (.int k' b)).run P w = .ok () w := by
  unfold eqGuard; split <;> simp
theorem eqGuard_bool (op t x y a b) : (eqGuard op t x y (.bool a) (.bool b)).run P w = .ok () w := by
  unfold eqGuard; split <;> simp
theorem eqGuard_str (op t x y a b) : (eqGuard op t x y (.string a) (.string b)).run P w = .ok () w := by
  unfold eqGuard; split <;> simp

theorem shl_run {t : TypeId} {k k' : IntKind} {a b : Int} (h : 0 ≤ b) :
    (binOp .shl t (.int k a) (.int k' b)).run P w = .ok (.int k (k.wrap (a * 2 ^ (min b.toNat k.bits)))) w := by
  have h' : ¬ b < 0 := by omega
  simp only [binOp, Op.shift]
  rw [if_neg h']
  rfl
theorem shr_run {t : TypeId} {k k' : IntKind} {a b : Int} (h : 0 ≤ b) :
    (binOp .shr t (.int k a) (.int k' b)).run P w = .ok (.int k (a.fdiv (2 ^ (min b.toNat k.bits)))) w := by
  have h' : ¬ b < 0 := by omega
  simp only [binOp, Op.shift]
  rw [if_neg h']
  rfl

theorem lbin_int {op : BinOp} {t : TypeId} {k k' : IntKind} {a b : Int} :
    LRes.pureOk P g w (binOp op t (.int k a) (.int k' b)) (lbin op (.int k a) (.int k' b)) := by
  cases op <;> simp only [lbin] <;> (try split) <;> (try subst_vars) <;> (try trivial) <;> intro hp
  all_goals first
    | (obtain ⟨rfl, h1, h2⟩ := hp; refine ⟨_, ?_, rint _ _⟩; simp [binOp, Op.intArith, Op.intDiv, h1, wrap_of_in h2]; done)
    | (obtain ⟨rfl, h2⟩ := hp; refine ⟨_, ?_, rint _ _⟩; simp [binOp, Op.intArith, Op.intDiv, wrap_of_in h2]; done)
    | (obtain ⟨rfl, h2⟩ := hp; refine ⟨_, ?_, rint _ _⟩; simp [binOp, Op.intArith, Op.intDiv, h2]; done)
    | exact ⟨_, shl_run hp, rint _ _⟩
    | exact ⟨_, shr_run hp, rint _ _⟩
    | (subst hp; refine ⟨_, ?_, rint _ _⟩; simp [binOp, Op.intArith, Op.intBits, Op.intDiv]; done)
    | (subst hp; refine ⟨_, ?_, rbool _⟩; simp [binOp, Op.intCmp]; done)
    | skip

theorem pureOk_of {s s' : Sem Value} {r : LRes} (h : LRes.pureOk P g w s' r) (e : s.run P w = s'.run P w) : LRes.pureOk P g w s r := by
  cases r <;> simp only [LRes.pureOk] at * <;> simp only [e] <;> exact h

theorem lbin_sound {op : BinOp} {t : TypeId} {x y : Operand} {vx vy : Value} {X Y : V} (hx : Rep g w vx X) (hy : Rep g w vy Y) :
    LRes.pureOk P g w (do eqGuard op t x y vx vy; binOp op t vx vy) (lbin op X Y) := by
  cases X with
  | int k a =>
    cases Y with
    | int k' b =>
      have := hx.int_inv; subst this
      have := hy.int_inv; subst this
      exact pureOk_of (s' := binOp op t (.int k a) (.int k' b)) lbin_int (by simp [eqGuard_int])
    | _ => trivial
  | str a =>
    cases Y with
    | str b =>
      have := hx.str_inv; subst this
      have := hy.str_inv; subst this
      refine pureOk_of (s' := binOp op t (.string a) (.string b)) ?_ (by simp [eqGuard_str])
      cases op <;> simp only [lbin] <;> (try trivial) <;> intro hp
      all_goals first
        | (refine ⟨_, ?_, rbool _⟩; simp [binOp, Op.stringOp]; done)
        | (refine ⟨_, ?_, rstr _⟩
           simp only [binOp, Op.stringOp]
           rw [if_neg (by simp [IntKind.max, IntKind.signed, IntKind.bits]; omega)]
           rfl)
    | _ => trivial
  | _ => trivial

theorem equalIn_bool (d : Nat) {t : TypeId} (ht : P.underlying t = some .bool) (a b : Bool) :
    (Op.equalIn (d + 1) t (.bool a) (.bool b)).run P w = .ok (a == b) w := by
  simp [Op.equalIn, run_underlying ht]
theorem equal_bool {t : TypeId} (ht : P.underlying t = some .bool) (a b : Bool) :
    (Op.equal t (.bool a) (.bool b)).run P w = .ok (a == b) w := equalIn_bool 9999 ht a b

theorem leqb_sound {neg : Bool} {t : TypeId} {x y : Operand} {vx vy : Value} {X Y : V} (hx : Rep g w vx X) (hy : Rep g w vy Y) (ht : P.underlying t = some .bool) :
    LRes.pureOk P g w (do eqGuard (if neg then .neq else .eql) t x y vx vy; binOp (if neg then .neq else .eql) t vx vy) (leqb neg X Y) := by
  cases X with
  | bool a =>
    cases Y with
    | bool b =>
      have := hx.bool_inv; subst this
      have := hy.bool_inv; subst this
      refine pureOk_of (s' := binOp (if neg then .neq else .eql) t (.bool a) (.bool b)) ?_ (by simp [eqGuard_bool])
      intro _
      refine ⟨_, ?_, rbool _⟩
      cases neg <;> simp [binOp, equal_bool ht, bne]
    | _ => trivial
  | _ => trivial

theorem isPtr_inv {v : Value} {X : V} (h : Rep g w v X) (hp : isPtr X = true) : ∃ ad, v = .pointer (some ad) := by
  cases X with
  | ip cs off => obtain ⟨b, o, us, T, fz, rfl, _⟩ := h.ip_inv; exact ⟨_, rfl⟩
  | mp k n off => obtain ⟨b, cap, _, rfl⟩ := h.mp_inv; exact ⟨_, rfl⟩
  | _ => cases hp

theorem equalIn_nilp (d : Nat) {t e : TypeId} (ht : P.underlying t = some (.pointer e)) (b : Option Addr) :
    (Op.equalIn (d + 1) t (.pointer none) (.pointer b)).run P w = .ok b.isNone w := by
  simp [Op.equalIn, run_underlying ht]
theorem equal_nilp {t e : TypeId} (ht : P.underlying t = some (.pointer e)) (b : Option Addr) :
    (Op.equal t (.pointer none) (.pointer b)).run P w = .ok b.isNone w := equalIn_nilp 9999 ht b
theorem equalIn_pnil (d : Nat) {t e : TypeId} (ht : P.underlying t = some (.pointer e)) (b : Addr) :
    (Op.equalIn (d + 1) t (.pointer (some b)) (.pointer none)).run P w = .ok false w := by
  simp [Op.equalIn, run_underlying ht]
theorem equal_pnil {t e : TypeId} (ht : P.underlying t = some (.pointer e)) (b : Addr) :
    (Op.equal t (.pointer (some b)) (.pointer none)).run P w = .ok false w := equalIn_pnil 9999 ht b
theorem equalIn_nn (d : Nat) {t ms} (ht : P.underlying t = some (.interface ms)) :
    (Op.equalIn (d + 1) t .nilIface .nilIface).run P w = .ok true w := by
  simp [Op.equalIn, run_underlying ht]
theorem equalIn_ni (d : Nat) {t t' ms u} (ht : P.underlying t = some (.interface ms)) :
    (Op.equalIn (d + 1) t .nilIface (.iface t' u)).run P w = .ok false w := by
  simp [Op.equalIn, run_underlying ht]
theorem equalIn_in (d : Nat) {t t' ms u} (ht : P.underlying t = some (.interface ms)) :
    (Op.equalIn (d + 1) t (.iface t' u) .nilIface).run P w = .ok false w := by
  simp [Op.equalIn, run_underlying ht]
theorem eqGuard_nn (op t x y) (h : (isConstO x || isConstO y) = true) : (eqGuard op t x y .nilIface .nilIface).run P w = .ok () w := by
  cases x <;> cases y <;> simp [isConstO] at h <;> (unfold eqGuard; split <;> rfl)
theorem eqGuard_ni (op t x y t' u) : (eqGuard op t x y .nilIface (.iface t' u)).run P w = .ok () w := by
  unfold eqGuard; split <;> simp
theorem eqGuard_in (op t x y t' u) : (eqGuard op t x y (.iface t' u) .nilIface).run P w = .ok () w := by
  unfold eqGuard; split <;> simp
theorem eqGuard_ptr (op t x y a b) : (eqGuard op t x y (.pointer a) (.pointer b)).run P w = .ok () w := by
  unfold eqGuard; split <;> simp

theorem binOp_ptr {neg : Bool} {t : TypeId} {a b : Option Addr} {r : Bool} (h : (Op.equal t (.pointer a) (.pointer b)).run P w = .ok r w) :
    (binOp (if neg then .neq else .eql) t (.pointer a) (.pointer b)).run P w = .ok (.bool (if neg then !r else r)) w := by
  cases neg <;> simp [binOp, h]

theorem leqp_sound {neg : Bool} {t e : TypeId} {x y : Operand} {vx vy : Value} {X Y : V} (hx : Rep g w vx X) (hy : Rep g w vy Y) (ht : P.underlying t = some (.pointer e)) :
    LRes.pureOk P g w (do eqGuard (if neg then .neq else .eql) t x y vx vy; binOp (if neg then .neq else .eql) t vx vy) (leqp neg X Y) := by
  have fin : ∀ (a b : Option Addr) (r : Bool) (pre : Prop) (v : V), vx = .pointer a → vy = .pointer b → (Op.equal t (.pointer a) (.pointer b)).run P w = .ok r w → v = .bool (if neg then !r else r) →
      ∃ u, (do eqGuard (if neg then .neq else .eql) t x y vx vy; binOp (if neg then .neq else .eql) t vx vy : Sem Value).run P w = .ok u w ∧ Rep g w u v := by
    intro a b r pre v e1 e2 h e3
    subst e1 e2 e3
    refine ⟨_, ?_, rbool _⟩
    have h1 := eqGuard_ptr (P := P) (w := w) (if neg then BinOp.neq else .eql) t x y a b
    have h2 := binOp_ptr (neg := neg) h
    simp [h1, h2]
  cases X with
  | nilp =>
    have ex := hx.nilp_inv
    cases Y with
    | nilp => intro _; exact fin none none true True _ ex hy.nilp_inv (equal_nilp ht none) (by cases neg <;> rfl)
    | _ =>
      intro hp
      obtain ⟨ad, ey⟩ := isPtr_inv hy hp
      exact fin none (some ad) false True _ ex ey (equal_nilp ht _) (by cases neg <;> rfl)
  | _ =>
    cases Y with
    | nilp =>
      intro hp
      obtain ⟨ad, ex⟩ := isPtr_inv hx hp
      exact fin (some ad) none false True _ ex hy.nilp_inv (equal_pnil ht _) (by cases neg <;> rfl)
    | _ => trivial

theorem eq_fin {neg : Bool} {t : TypeId} {x y : Operand} {vx vy : Value} {r : Bool} {v : V}
    (h1 : (eqGuard (if neg then .neq else .eql) t x y vx vy).run P w = .ok () w)
    (h2 : (binOp (if neg then .neq else .eql) t vx vy).run P w = .ok (.bool (if neg then !r else r)) w) (e : v = .bool (if neg then !r else r)) :
    ∃ u, (do eqGuard (if neg then .neq else .eql) t x y vx vy; binOp (if neg then .neq else .eql) t vx vy : Sem Value).run P w = .ok u w ∧ Rep g w u v := by
  subst e
  refine ⟨_, ?_, rbool _⟩
  simp [h1, h2]

theorem binOp_nn {neg : Bool} {t : TypeId} {r : Bool} (h : (Op.equal t .nilIface .nilIface).run P w = .ok r w) :
    (binOp (if neg then .neq else .eql) t .nilIface .nilIface).run P w = .ok (.bool (if neg then !r else r)) w := by
  cases neg <;> simp [binOp, h]
theorem binOp_ni {neg : Bool} {t t' u} {r : Bool} (h : (Op.equal t .nilIface (.iface t' u)).run P w = .ok r w) :
    (binOp (if neg then .neq else .eql) t .nilIface (.iface t' u)).run P w = .ok (.bool (if neg then !r else r)) w := by
  cases neg <;> simp [binOp, h]
theorem binOp_in {neg : Bool} {t t' u} {r : Bool} (h : (Op.equal t (.iface t' u) .nilIface).run P w = .ok r w) :
    (binOp (if neg then .neq else .eql) t (.iface t' u) .nilIface).run P w = .ok (.bool (if neg then !r else r)) w := by
  cases neg <;> simp [binOp, h]

theorem leqi_sound {neg lit : Bool} {t : TypeId} {ms} {x y : Operand} {vx vy : Value} {X Y : V} (hx : Rep g w vx X) (hy : Rep g w vy Y) (ht : P.underlying t = some (.interface ms))
    (hlit : lit = (isConstO x || isConstO y)) :
    LRes.pureOk P g w (do eqGuard (if neg then .neq else .eql) t x y vx vy; binOp (if neg then .neq else .eql) t vx vy) (leqi neg lit X Y) := by
  cases X with
  | nili =>
    have := hx.nili_inv; subst this
    cases Y with
    | nili =>
      have := hy.nili_inv; subst this
      intro hp
      exact eq_fin (r := true) (eqGuard_nn _ _ _ _ (by rw [← hlit]; exact hp)) (binOp_nn (equalIn_nn 9999 ht)) (by cases neg <;> rfl)
    | ifc t' y' =>
      obtain ⟨u, rfl, _⟩ := hy.ifc_inv
      intro hp
      exact eq_fin (r := false) (eqGuard_ni _ _ _ _ _ _) (binOp_ni (equalIn_ni 9999 ht)) (by cases neg <;> rfl)
    | _ => trivial
  | ifc t' x' =>
    obtain ⟨u, rfl, _⟩ := hx.ifc_inv
    cases Y with
    | nili =>
      have := hy.nili_inv; subst this
      intro hp
      exact eq_fin (r := false) (eqGuard_in _ _ _ _ _ _) (binOp_in (equalIn_in 9999 ht)) (by cases neg <;> rfl)
    | _ => trivial
  | _ => trivial

theorem lun_sound {op : UnOp} {vx : Value} {X : V} (hx : Rep g w vx X) : LRes.pureOk P g w (Op.unary op vx) (lun op X) := by
  cases X with
  | int k n =>
    have := hx.int_inv; subst this
    cases op <;> simp only [lun] <;> (try trivial)
    · split
      · rename_i h; subst h
        intro hp
        exact ⟨_, by simp [Op.unary, Op.intArith]; rfl, by rw [wrap_of_in (by simpa using hp)]; simpa using rint _ _⟩
      · intro _; exact ⟨_, by simp [Op.unary, Op.intArith]; rfl, by simpa using rint _ _⟩
    · intro _; exact ⟨_, by simp [Op.unary, Op.intBits], rint _ _⟩
  | bool b =>
    have := hx.bool_inv; subst this
    cases op <;> simp only [lun] <;> (try trivial)
    intro _; exact ⟨_, by simp [Op.unary], rbool _⟩
  | _ => cases op <;> trivial
end
end Go.Lg
