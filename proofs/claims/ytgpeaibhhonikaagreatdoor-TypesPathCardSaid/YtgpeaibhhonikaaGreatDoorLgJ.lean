/-
  Each operation of the plain logic is borne out by the model's own: the one theorem.
-/
import Derived.Test.YtgpeaibhhonikaaGreatDoorLgI
import Derived.Test.YtgpeaibhhonikaaGreatDoorLgHa
set_option linter.unusedSimpArgs false
set_option linter.unusedVariables false
namespace Go.Lg
open Go Go.RowKit

section
variable {P : Program} {g : Gh} {w w' : World} {E : Env} {σ : St} {a : Act}

theorem orBad_ok {s : Nat} {q : Sem Next} {x : Option IOp} (h : ∀ i, x = some i → LRes.ok P E g σ a w s q (lop i σ.tm σ.H)) : LRes.ok P E g σ a w s q (lop (orBad x) σ.tm σ.H) := by
  cases x with
  | none => trivial
  | some i => exact h i rfl

theorem pure_ok (hs : SimG E g σ a w) {s : Nat} {v : Value} {x : V} (h : Rep g w v x) : LRes.ok P E g σ a w s (pure (.value v)) (.A True x) :=
  fun _ => ⟨v, w, g, rfl, hs, h⟩

theorem args_rep (ht : ∀ t, Rep g w (slotV E a t) (σ.tm t)) (args : Array Operand) :
    (args.map a.eval).size = ((args.toList.map rdOf).map (Rd.get σ.tm)).length ∧
    ∀ (j : Nat) (u : Value) (c : V), (args.map a.eval)[j]? = some u → ((args.toList.map rdOf).map (Rd.get σ.tm))[j]? = some c → Rep g w u c := by
  refine ⟨by simp, fun j u c hu hc => ?_⟩
  simp only [Array.getElem?_map, List.getElem?_map, Array.getElem?_toList, Option.map_eq_some_iff] at hu hc
  obtain ⟨x, hx, rfl⟩ := hu
  obtain ⟨y, ⟨z, hz, rfl⟩, rfl⟩ := hc
  rw [hx] at hz; cases hz
  exact rep_rd ht x

theorem callFunc_run {f : FuncId} {vs : Array Value} (hf : entersOk P f = true) : (callFunc f vs).run P w = .ok (.enter f vs) w := by
  unfold entersOk at hf
  cases hfn : P.funcs[f]? with
  | none => simp [hfn] at hf
  | some fn =>
    simp only [hfn, Bool.not_eq_true', Bool.or_eq_false_iff] at hf
    simp only [callFunc, Sem.run_bind, run_program, Result.andThen_ok, hfn]
    rw [hf.2, hf.1]
    rfl

theorem args1 {args : Array Operand} {x : Operand} (h : args.toList = [x]) : args = #[x] := by
  rw [← Array.toArray_toList (xs := args), h]
theorem args2 {args : Array Operand} {x y : Operand} (h : args.toList = [x, y]) : args = #[x, y] := by
  rw [← Array.toArray_toList (xs := args), h]
theorem types1 {ts : Array TypeId} {d} (h : (ts[0]?).bind P.underlying = some d) : ∃ t, ts[0]? = some t ∧ P.underlying t = some d := Option.bind_eq_some_iff.1 h
theorem types2 {ts : Array TypeId} {d} (h : (ts[1]?).bind P.underlying = some d) : ∃ t, ts[1]? = some t ∧ P.underlying t = some d := Option.bind_eq_some_iff.1 h

theorem len_str {ts : Array TypeId} {ty t : TypeId} {x : Operand} (h : ts[0]? = some t) (hu : P.underlying t = some .string) (hx : Rep g w (a.eval x) ((rdOf x).get σ.tm)) :
    LRes.pureOk P g w (Builtin.len_ ts ty (#[x].map a.eval)) (llen true ((rdOf x).get σ.tm)) := by
  generalize (rdOf x).get σ.tm = X at hx
  cases X with
  | str s =>
    have := hx.str_inv
    intro _
    exact ⟨_, by simp [Builtin.len_, h, run_underlying hu, this, goInt], rint _ _⟩
  | _ => trivial

theorem len_sl {ts : Array TypeId} {ty t e : TypeId} {x : Operand} (h : ts[0]? = some t) (hu : P.underlying t = some (.slice e)) (hx : Rep g w (a.eval x) ((rdOf x).get σ.tm)) :
    LRes.pureOk P g w (Builtin.len_ ts ty (#[x].map a.eval)) (llen false ((rdOf x).get σ.tm)) := by
  generalize (rdOf x).get σ.tm = X at hx
  cases X with
  | sl n cs =>
    obtain ⟨A, c, hv, _⟩ := hx.sl_inv
    intro _
    exact ⟨_, by simp [Builtin.len_, h, run_underlying hu, hv, goInt], rint _ _⟩
  | msl k g' o n =>
    obtain ⟨c, A, blk, cap, hv, _⟩ := hx.msl_inv
    intro _
    exact ⟨_, by simp [Builtin.len_, h, run_underlying hu, hv, goInt], rint _ _⟩
  | msv k g' o n e =>
    obtain ⟨c, A, blk, cap, hv, _⟩ := hx.msv_inv
    intro _
    exact ⟨_, by simp [Builtin.len_, h, run_underlying hu, hv, goInt], rint _ _⟩
  | e0 =>
    obtain ⟨A, hv⟩ := hx.e0_inv
    intro _
    exact ⟨_, by simp [Builtin.len_, h, run_underlying hu, hv, goInt], rint _ _⟩
  | _ => trivial

theorem call_ok (hs : SimG E g σ a w) {s : Nat} (c : Call) (ty : TypeId) :
    LRes.ok P E g σ a w s (do let d ← resolve a.eval c ty; invoke d.target d.args) (lop (trCall P c) σ.tm σ.H) := by
  obtain ⟨callee, args, argTypes⟩ := c
  unfold trCall
  cases callee with
  | value f =>
    cases f with
    | func f =>
      obtain ⟨h1, h2⟩ := args_rep hs.tm args
      intro hen
      refine ⟨args.map a.eval, ?_, h1, h2, rfl, fun h => h⟩
      have := callFunc_run (P := P) (w := w) (vs := args.map a.eval) hen
      simp [resolve, Act.eval, Deferred.ofValue, invoke, this]
    | tmp t =>
      have hf := rep_rd hs.tm (.tmp t)
      simp only [lop]
      generalize (rdOf (.tmp t)).get σ.tm = F at hf
      cases F with
      | fn f cap =>
        obtain ⟨vs, hv, hl, hr⟩ := hf.fn_inv
        intro hen
        obtain ⟨h1, h2⟩ := args_rep hs.tm args
        refine ⟨args.map a.eval ++ vs, ?_, by rw [Array.size_append, List.length_append, h1, hl], fun j u c hu hc => ?_, rfl, fun h => h⟩
        · have := callFunc_run (P := P) (w := w) (vs := args.map a.eval ++ vs) hen
          simp [resolve, hv, Deferred.ofValue, invoke, this]
        · rw [Array.getElem?_append] at hu
          rw [List.getElem?_append] at hc
          rw [h1] at hu
          split at hu
          · rename_i hlt; rw [if_pos hlt] at hc; exact h2 j u c hu hc
          · rename_i hlt; rw [if_neg hlt] at hc; exact hr _ u c hu hc
      | _ => trivial
    | _ => trivial
  | builtin b =>
    cases b with
    | len =>
      have hq : (do let d ← resolve a.eval { callee := .builtin .len, args, argTypes } ty; invoke d.target d.args : Sem Next) = (do pure (.value (← Builtin.len_ argTypes ty (args.map a.eval)))) := rfl
      rw [hq]
      simp only []
      split
      · rename_i x ha ht
        obtain rfl := args1 ha
        obtain ⟨t0, ht0, hu⟩ := types1 ht
        exact ok_of_pure hs (len_str ht0 hu (rep_rd hs.tm x))
      · rename_i x e ha ht
        obtain rfl := args1 ha
        obtain ⟨t0, ht0, hu⟩ := types1 ht
        exact ok_of_pure hs (len_sl ht0 hu (rep_rd hs.tm x))
      · rename_i x n e ha ht
        obtain rfl := args1 ha
        obtain ⟨t0, ht0, hu⟩ := types1 ht
        refine ok_of_pure hs fun _ => ⟨_, by simp [Builtin.len_, ht0, run_underlying hu, goInt], rint _ _⟩
      · rename_i x k e ha ht
        obtain rfl := args1 ha
        obtain ⟨t0, ht0, hu⟩ := types1 ht
        exact ok_of_pure hs (mlen_pure hs ht0 hu (rep_rd hs.tm x))
      · trivial
    | append =>
      have hq : (do let d ← resolve a.eval { callee := .builtin .append, args, argTypes } ty; invoke d.target d.args : Sem Next) = (do pure (.value (← Builtin.append_ argTypes ty (args.map a.eval)))) := rfl
      rw [hq]
      have key : ∀ (x y : Operand) (e : TypeId) (d2 : TypeDesc), args.toList = [x, y] → (argTypes[0]?).bind P.underlying = some (.slice e) → (argTypes[1]?).bind P.underlying = some d2 → ((∃ e', d2 = .slice e') ∨ d2 = .string) →
          LRes.ok P E g σ a w s (do pure (.value (← Builtin.append_ argTypes ty (args.map a.eval)))) (lop (orBad do
            let s ← szT P e
            let b ← bytesT P e
            let z ← zeroT P e
            if s = 0 || z.cells.length != s then none else pure (.app s b (rdOf x) (rdOf y))) σ.tm σ.H) := by
        intro x y e d2 ha h1 h2 hd
        obtain rfl := args2 ha
        obtain ⟨t1, ht1, hu1⟩ := types1 h1
        obtain ⟨t2, ht2, hu2⟩ := types2 h2
        refine orBad_ok fun i hi => ?_
        simp only [Option.bind_eq_bind, Option.bind_eq_some_iff] at hi
        obtain ⟨s', hs', b, hb, z, hz, hi⟩ := hi
        split at hi
        · cases hi
        · rename_i hc
          cases hi
          simp only [Bool.or_eq_true, not_or, bne_iff_ne, ne_eq, Decidable.not_not, decide_eq_true_eq] at hc
          have em : #[x, y].map a.eval = #[a.eval x, a.eval y] := by simp
          rw [em]
          exact app_ok hs ht1 ht2 hu1 hu2 hd hs' hc.1 hb hz hc.2 (rep_rd hs.tm x) (rep_rd hs.tm y)
      simp only []
      split
      · rename_i x y e e' ha h1 h2; exact key x y e _ ha h1 h2 (.inl ⟨e', rfl⟩)
      · rename_i x y e ha h1 h2; exact key x y e _ ha h1 h2 (.inr rfl)
      · trivial
    | min =>
      have hq : (do let d ← resolve a.eval { callee := .builtin .min, args, argTypes } ty; invoke d.target d.args : Sem Next) = (do pure (.value (← Builtin.min_ argTypes ty (args.map a.eval)))) := rfl
      rw [hq]
      simp only []
      split
      · rename_i x y ha
        obtain rfl := args2 ha
        refine ok_of_pure hs (pureOk_of (s' := Builtin.min2 (a.eval x) (a.eval y)) (mn_pure (rep_rd hs.tm x) (rep_rd hs.tm y)) ?_)
        simp [Builtin.min_]
      · trivial
    | max =>
      have hq : (do let d ← resolve a.eval { callee := .builtin .max, args, argTypes } ty; invoke d.target d.args : Sem Next) = (do pure (.value (← Builtin.max_ argTypes ty (args.map a.eval)))) := rfl
      rw [hq]
      simp only []
      split
      · rename_i x y ha
        obtain rfl := args2 ha
        refine ok_of_pure hs (pureOk_of (s' := Builtin.max2 (a.eval x) (a.eval y)) (mx_pure (rep_rd hs.tm x) (rep_rd hs.tm y)) ?_)
        simp [Builtin.max_]
      · rename_i x y z ha
        obtain rfl : args = #[x, y, z] := by rw [← Array.toArray_toList (xs := args), ha]
        refine ok_of_pure hs (pureOk_of (s' := do Builtin.max2 (← Builtin.max2 (a.eval x) (a.eval y)) (a.eval z)) (mx3_pure (rep_rd hs.tm x) (rep_rd hs.tm y) (rep_rd hs.tm z)) ?_)
        simp [Builtin.max_]
      · trivial
    | _ => trivial
  | invoke => trivial

theorem caps_rep (ht : ∀ t, Rep g w (slotV E a t) (σ.tm t)) (f : FuncId) (cap : Array Operand) : Rep g w (.func (.func f) #[] (cap.map a.eval)) (.fn f ((cap.toList.map rdOf).map (Rd.get σ.tm))) := by
  obtain ⟨h1, h2⟩ := args_rep ht cap
  exact .fn f _ _ h1 h2

theorem step_sound (hs : SimG E g σ a w) (o : Oper) (s : Nat) : LRes.ok P E g σ a w s (execOp a.eval o) (lop (tr P o) σ.tm σ.H) := by
  obtain ⟨dst, op, ty, pos, after, guard⟩ := o
  have rd := rep_rd hs.tm
  cases op with
  | move x => exact pure_ok hs (rd x)
  | assign x => exact pure_ok hs (rd x)
  | pick c x y =>
    simp only [tr, lop, execOp]
    have hc := rd c
    generalize (rdOf c).get σ.tm = C at hc
    cases C with
    | bool t =>
      have := hc.bool_inv
      intro _
      refine ⟨_, w, g, by simp [this, asBool]; rfl, hs, ?_⟩
      cases t
      · exact rd y
      · exact rd x
    | _ => trivial
  | alloc t =>
    refine orBad_ok fun i hi => ?_
    simp only [Option.map_eq_some_iff] at hi
    obtain ⟨z, hz, rfl⟩ := hi
    exact alloc_ok hs hz
  | box t x => exact box_ok hs (rd x)
  | build t parts =>
    refine orBad_ok fun i hi => ?_
    simp only [Option.bind_eq_bind, Option.bind_eq_some_iff] at hi
    obtain ⟨z, hz, ps, hps, hi⟩ := hi
    cases hi
    exact build_ok hs hz hps
  | buildSlice t n parts =>
    simp only [tr]
    cases ht : P.underlying t with
    | none => trivial
    | some d =>
      cases d with
      | slice e =>
        refine orBad_ok fun i hi => ?_
        simp only [Option.bind_eq_bind, Option.bind_eq_some_iff] at hi
        obtain ⟨s', hs', z, hz, hi⟩ := hi
        split at hi
        · cases hi
        · rename_i hc
          cases hi
          simp only [Bool.or_eq_true, not_or, decide_eq_true_eq, bne_iff_ne, ne_eq, Decidable.not_not, beq_iff_eq, Bool.and_eq_true, not_and] at hc
          obtain ⟨⟨⟨c1, c2⟩, c3⟩, c4⟩ := hc
          exact bsl_ok hs ht hs' c3 hz c2 c1 (fun h => by simpa using c4 h)
      | _ => trivial
  | load t x =>
    refine orBad_ok fun i hi => ?_
    simp only [Option.bind_eq_bind, Option.bind_eq_some_iff] at hi
    obtain ⟨n, hn, agg, hagg, hi⟩ := hi
    cases hi
    exact load_ok hs hn hagg (rd x)
  | store t x y =>
    refine orBad_ok fun i hi => ?_
    simp only [Option.map_eq_some_iff] at hi
    obtain ⟨n, hn, rfl⟩ := hi
    exact store_ok hs hn (rd x) (rd y)
  | nilCheck x =>
    simp only [tr, lop, execOp]
    exact nil_ok hs (rd x) fun ad h => by rw [h]
  | binOp op t x y yt =>
    have bin : ∀ op', op' = op → LRes.ok P E g σ a w s (execOp a.eval ⟨dst, .binOp op t x y yt, ty, pos, after, guard⟩) (lop (.bin op' (rdOf x) (rdOf y)) σ.tm σ.H) := by
      intro op' e; subst e
      exact ok_of_pure hs (lbin_sound (rd x) (rd y))
    by_cases he : op = .eql ∨ op = .neq
    · have hneg : ∃ neg : Bool, op = (if neg then .neq else .eql) := by
        rcases he with h | h
        · exact ⟨false, h⟩
        · exact ⟨true, h⟩
      obtain ⟨neg, hop⟩ := hneg
      have htr : tr P ⟨dst, .binOp op t x y yt, ty, pos, after, guard⟩ = match P.underlying t with
          | some (.int _) | some .string => .bin op (rdOf x) (rdOf y)
          | some .bool => .eqb neg (rdOf x) (rdOf y)
          | some (.pointer _) => .eqp neg (rdOf x) (rdOf y)
          | some (.interface _) => .eqi neg (isConstO x || isConstO y) (rdOf x) (rdOf y)
          | some (.array _ _) => orBad ((arrIT P t).map fun nq => .eqa nq.1 nq.2 neg (rdOf x) (rdOf y))
          | _ => .bad := by subst hop; cases neg <;> rfl
      rw [htr]
      cases ht : P.underlying t with
      | none => trivial
      | some d =>
        cases d with
        | int k => exact bin op rfl
        | string => exact bin op rfl
        | bool => subst hop; exact ok_of_pure hs (leqb_sound (rd x) (rd y) ht)
        | pointer e => subst hop; exact ok_of_pure hs (leqp_sound (rd x) (rd y) ht)
        | interface ms => subst hop; exact ok_of_pure hs (leqi_sound (rd x) (rd y) ht rfl)
        | array m e =>
          subst hop
          refine orBad_ok fun i hi => ?_
          simp only [Option.map_eq_some_iff] at hi
          obtain ⟨⟨n, q⟩, hn, rfl⟩ := hi
          exact ok_of_pure hs (leqa_sound (rd x) (rd y) hn)
        | _ => trivial
    · have htr : tr P ⟨dst, .binOp op t x y yt, ty, pos, after, guard⟩ = .bin op (rdOf x) (rdOf y) := by
        cases op <;> first | rfl | exact absurd (.inl rfl) he | exact absurd (.inr rfl) he
      rw [htr]
      exact bin op rfl
  | unOp op t x => exact ok_of_pure hs (lun_sound (rd x))
  | convert sT dT x =>
    simp only [tr]
    cases h1 : P.underlying sT with
    | none => trivial
    | some d1 =>
      cases h2 : P.underlying dT with
      | none => cases d1 <;> trivial
      | some d2 =>
        have triv : LRes.ok P E g σ a w s (execOp a.eval ⟨dst, .convert sT dT x, ty, pos, after, guard⟩) (lop .bad σ.tm σ.H) := trivial
        cases d1 with
        | int k1 =>
          cases d2 with
          | int k =>
            refine ok_of_pure hs ?_
            have hx := rd x
            simp only [lop]
            generalize (rdOf x).get σ.tm = X at hx
            cases X with
            | int k' n =>
              have := hx.int_inv
              intro _
              exact ⟨_, by simp [convert, run_underlying h1, run_underlying h2, this, Conv.intToInt], rint _ _⟩
            | _ => trivial
          | _ => trivial
        | string =>
          cases d2 with
          | string =>
            refine ok_of_pure hs ?_
            have hx := rd x
            simp only [lop]
            generalize (rdOf x).get σ.tm = X at hx
            cases X with
            | str b =>
              have := hx.str_inv
              intro _
              exact ⟨_, by simp [convert, run_underlying h1, run_underlying h2, this], rstr _⟩
            | _ => trivial
          | slice e =>
            simp only []
            split
            · rename_i he
              simp only [Bool.and_eq_true] at he
              exact s2b_ok hs h1 h2 he.1 (rd x)
            · trivial
          | _ => trivial
        | slice e =>
          cases d2 with
          | string =>
            simp only []
            split
            · rename_i he
              exact ok_of_pure hs (b2s_pure hs h1 h2 he (rd x))
            · trivial
          | slice e2 =>
            simp only []
            split
            · rename_i he
              simp only [Bool.and_eq_true, beq_iff_eq] at he
              obtain ⟨he, rfl⟩ := he
              exact msb_ok hs h2 he (rd x)
            · trivial
          | _ => trivial
        | _ => cases d2 <;> trivial
  | makeInterface t x =>
    simp only [tr]
    cases ht : P.underlying t with
    | none => trivial
    | some d =>
      have hq : (∀ ms, d ≠ .interface ms) → (Instr.makeInterface t (a.eval x)).run P w = .ok (.iface t (a.eval x)) w := by
        intro hd
        cases d <;> first | exact absurd rfl (hd _) | simp [Instr.makeInterface, run_underlying ht]
      cases d <;> first
        | trivial
        | (intro _; exact ⟨_, w, g, run_val (hq (fun ms h => by cases h)), hs, .ifc _ _ _ (rd x)⟩)
  | makeFunc fn first cap =>
    cases fn with
    | func f =>
      simp only [tr]
      split
      · rename_i h
        have hf : first = #[] := by simpa using h
        subst hf
        have em : (#[] : Array Operand).map a.eval = #[] := by simp
        simp only [execOp, em]
        exact pure_ok hs (caps_rep hs.tm f cap)
      · trivial
    | _ => trivial
  | makeSlice t l c =>
    simp only [tr]
    cases ht : P.underlying t with
    | none => trivial
    | some d =>
      cases d with
      | slice e =>
        refine orBad_ok fun i hi => ?_
        simp only [Option.bind_eq_bind, Option.bind_eq_some_iff] at hi
        obtain ⟨s', hs', b, hb, z, hz, hi⟩ := hi
        split at hi
        · cases hi
        · rename_i hc
          cases hi
          simp only [Bool.or_eq_true, not_or, bne_iff_ne, ne_eq, Decidable.not_not, beq_iff_eq] at hc
          exact mksl_ok hs ht hs' hc.2 hb hz hc.1 (rd l) (rd c)
      | _ => trivial
  | slice t x lo hi mx =>
    cases mx with
    | some m => trivial
    | none =>
      simp only [tr]
      cases ht : P.underlying t with
      | none => trivial
      | some d =>
        cases d with
        | string => exact ok_of_pure hs (slS_pure hs ht (rd x))
        | slice e =>
          refine orBad_ok fun i hi => ?_
          simp only [Option.bind_eq_bind, Option.bind_eq_some_iff] at hi
          obtain ⟨n, hn, hi⟩ := hi
          split at hi
          · cases hi
          · rename_i h0; cases hi
            exact ok_of_pure hs (slV_pure hs ht hn h0 (rd x))
        | array m e =>
          refine orBad_ok fun i hi => ?_
          simp only [Option.bind_eq_bind, Option.bind_eq_some_iff] at hi
          obtain ⟨n, hn, hi⟩ := hi
          split at hi
          · cases hi
          · rename_i h0; cases hi
            exact ok_of_pure hs (slA_pure hs ht hn (rd x))
        | _ => trivial
  | fieldAddr t x f =>
    simp only [tr]
    cases ht : P.underlying t with
    | none => trivial
    | some d =>
      cases d with
      | struct fs =>
        refine orBad_ok fun i hi => ?_
        simp only [Option.bind_eq_bind, Option.bind_eq_some_iff] at hi
        obtain ⟨fd, hfd, n, hn, hi⟩ := hi
        split at hi
        · cases hi
        · rename_i h0; cases hi
          exact ok_of_pure hs (fad_pure ht hfd hn h0 (rd x))
      | _ => trivial
  | field t x f =>
    simp only [tr]
    cases ht : P.underlying t with
    | none => trivial
    | some d =>
      cases d with
      | struct fs =>
        refine orBad_ok fun i hi => ?_
        simp only [Option.bind_eq_bind, Option.bind_eq_some_iff] at hi
        obtain ⟨fd, hfd, n, hn, agg, hagg, hi⟩ := hi
        cases hi
        exact ok_of_pure hs (fld_pure ht hfd hn hagg (rd x))
      | _ => trivial
  | indexAddr t x i =>
    simp only [tr]
    cases ht : P.underlying t with
    | none => trivial
    | some d =>
      cases d with
      | array m e =>
        refine orBad_ok fun j hj => ?_
        simp only [Option.map_eq_some_iff] at hj
        obtain ⟨n, hn, rfl⟩ := hj
        exact ok_of_pure hs (iaA_pure ht hn (rd x) (rd i))
      | slice e =>
        refine orBad_ok fun j hj => ?_
        simp only [Option.map_eq_some_iff] at hj
        obtain ⟨n, hn, rfl⟩ := hj
        exact ok_of_pure hs (iaS_pure ht hn (rd x) (rd i))
      | _ => trivial
  | index t x i =>
    simp only [tr]
    cases ht : P.underlying t with
    | none => trivial
    | some d =>
      cases d with
      | string => exact ok_of_pure hs (ixS_pure ht (rd x) (rd i))
      | array m e =>
        refine orBad_ok fun j hj => ?_
        simp only [Option.bind_eq_bind, Option.bind_eq_some_iff] at hj
        obtain ⟨n, hn, agg, hagg, hj⟩ := hj
        cases hj
        exact ok_of_pure hs (ixA_pure ht hn hagg (rd x) (rd i))
      | _ => trivial
  | typeAssert x xt t ok =>
    cases ok with
    | false => trivial
    | true =>
      simp only [tr]
      cases ht : P.underlying t with
      | none => trivial
      | some d =>
        have key : (∀ ms, d ≠ .interface ms) → LRes.ok P E g σ a w s (execOp a.eval ⟨dst, .typeAssert x xt t true, ty, pos, after, guard⟩) (lop (orBad ((zeroT P t).map fun z => .tas t z (rdOf x))) σ.tm σ.H) := by
          intro hd
          refine orBad_ok fun i hi => ?_
          simp only [Option.map_eq_some_iff] at hi
          obtain ⟨z, hz, rfl⟩ := hi
          exact ok_of_pure hs (tas_pure ht hd hz (rd x))
        cases d <;> first | trivial | exact key (fun ms h => by cases h)
  | extract x i => exact ok_of_pure hs (ext_pure (rd x))
  | makeMap t r =>
    cases r with
    | none => exact mkmap_ok hs
    | some r => trivial
  | lookup t x i ok =>
    simp only [tr]
    cases ht : P.underlying t with
    | none => trivial
    | some d =>
      cases d with
      | map k e =>
        refine orBad_ok fun j hj => ?_
        simp only [Option.bind_eq_bind, Option.bind_eq_some_iff] at hj
        obtain ⟨kt, hkt, z, hz, hj⟩ := hj
        cases hj
        exact ok_of_pure hs (mlk_pure hs ht hkt hz (rd x) (rd i))
      | _ => trivial
  | mapUpdate t x i v =>
    simp only [tr]
    cases ht : P.underlying t with
    | none => trivial
    | some d =>
      cases d with
      | map k e =>
        refine orBad_ok fun j hj => ?_
        simp only [Option.map_eq_some_iff] at hj
        obtain ⟨kt, hkt, rfl⟩ := hj
        exact mset_ok hs ht hkt (rd x) (rd i) (rd v)
      | _ => trivial
  | insert t x i v =>
    simp only [tr]
    cases ht : P.underlying t with
    | none => trivial
    | some d =>
      cases d with
      | map k e =>
        refine orBad_ok fun j hj => ?_
        simp only [Option.map_eq_some_iff] at hj
        obtain ⟨kt, hkt, rfl⟩ := hj
        exact mset_ok hs ht hkt (rd x) (rd i) (rd v)
      | _ => trivial
  | call c => exact call_ok hs c ty
  | _ => trivial

end
end Go.Lg
