/-
  The reckoning in parts: a body's first part walked by hand, the rest reckoned; a function that is known to hand back a plain value.
-/
import Derived.Test.YtgpeaibhhonikaaGreatDoorEj
set_option linter.unusedSimpArgs false
set_option linter.unusedVariables false
namespace Go.Lg
open Go Go.RowKit

def LC.l : LC → LC
  | .seq x _ => x
  | .join x _ => x
  | c => c
def LC.r : LC → LC
  | .seq _ y => y
  | .join _ y => y
  | c => c
noncomputable def isNm (r : Rs) : Bool := Rs.rec (motive := fun _ => Bool) (fun _ => false) (fun _ _ => true) (fun _ _ _ => false) (fun _ _ => false) r
noncomputable def nmT (r : Rs) : Tq V := Rs.rec (motive := fun _ => Tq V) (fun _ => .nil) (fun t _ => t) (fun _ _ _ => .nil) (fun _ _ => .nil) r
noncomputable def nmH (r : Rs) : Hq := Rs.rec (motive := fun _ => Hq) (fun _ => .nil) (fun _ h => h) (fun _ _ _ => .nil) (fun _ _ => .nil) r
theorem isNm_ok {r : Rs} (h : isNm r = true) : r = .nm (nmT r) (nmH r) := by cases r <;> first | rfl | cases h
/-- A body ends with true. -/
noncomputable def okEnd (rv : Rv) (r : Rs) : Bool := Rs.rec (motive := fun _ => Bool) (fun _ => false) (fun t h => isTrue (rv.f t h)) (fun _ _ _ => false) (fun t h => isTrue (rv.f t h)) r
theorem okEnd_ok {rs : List LRV} {o : Nat → V} {r : Rs} (hl : rvLo rs = true) (h : okEnd (rvOf rs) r = true) : endsQ o (retK rs fun v σ => snap σ.H 8 v = .bool true) r := by
  cases r with
  | err n => cases h
  | ex i t h' => cases h
  | nm t h' => exact ⟨_, rvOf_ok hl (isTrue_ok h), rfl⟩
  | rt t h' => exact ⟨_, rvOf_ok hl (isTrue_ok h), rfl⟩

/-- A part that runs to its end. -/
theorem part_nm {P : Program} {cl : Cl} (hcl : ClOk P cl) {x : LC} (hk : x.kinds) {o : Nat → V} {t : Tq V} {h : Hq} (e : isNm ((comp x).run cl t h) = true) {K : Exit → St → Prop} (hK : K .normal (denq o (nmT ((comp x).run cl t h)) (nmH ((comp x).run cl t h)))) : vcg P x K (denq o t h) := by
  refine comp_ok hcl x hk o t h K ?_
  rw [isNm_ok e]
  exact hK

/-- A function without arguments that hands back a plain value. -/
noncomputable def xNil (r : V) (args : List V) (h : Hq) : Rc := match args with
  | [] => .ok r h
  | _ => .err 23
theorem fx_nil {P : Program} {f : FuncId} {r : V} (hp : PRet P f [] r) (hfl : flat 4 r = true) : FxOk P f (.ext (xNil r)) := by
  intro args h v h' e tm
  match args, e with
  | [], e =>
    cases e
    refine ⟨hp.1, fun E hE g a w vs hsim hsz hrep => ?_⟩
    refine (hp.2 g.imm w vs ⟨hsim.immlt, EOk.gok hsim⟩ hsz fun j u c _ hc => by simp at hc).mono ?_
    rintro e w' ⟨u, imm', rfl, hv, hb, _, _⟩
    exact ⟨u, _, _, g, rfl, hsim.grow_same hb, .imm _ _ (flat_rep 4 hv hfl), rfl, rfl⟩
/-- How a call begins. -/
theorem arg_den (args : List V) (hl : args.length < 100000) : (⟨argTm args, noH, noC⟩ : St) = denq (fun _ => .junk) (frF args 0 .nil) .nil := by
  have e : argTm args = tmQ (fun _ => .junk) (frF args 0 .nil) := by
    funext k
    rw [tmQ_app]
    by_cases hk : k < 100000
    · rw [if_pos hk, frF_get _ _ _ _ (by omega)]
      by_cases h1 : k < args.length
      · rw [if_pos (by omega), Nat.sub_zero]; rfl
      · rw [if_neg (by omega), Tq.get_nil]
        show args.getD k .junk = .junk
        rw [List.getD_eq_getElem?_getD, List.getElem?_eq_none (by omega)]; rfl
    · rw [if_neg hk]
      show args.getD k .junk = .junk
      rw [List.getD_eq_getElem?_getD, List.getElem?_eq_none (by omega)]; rfl
  show (⟨argTm args, noH, noC⟩ : St) = ⟨tmQ (fun _ => .junk) (frF args 0 .nil), Hq.H .nil, Hq.c .nil⟩
  rw [← e, nilH, nilC]
/-- Some slots are kept. -/
theorem le_fr {args : List V} {σ : St} {h : Hq} (hl : args.length < 100000) (h1 : ∀ k, k < args.length → args.getD k .junk = σ.tm k ∨ args.getD k .junk = .junk) (h2 : σ.H = h.H) (h3 : σ.cnt = h.c) : St.le (denq (fun _ => .junk) (frF args 0 .nil) h) σ := by
  refine ⟨fun k => ?_, fun k o e => ?_, fun s => ?_⟩
  · show tmQ (fun _ => .junk) (frF args 0 .nil) k = σ.tm k ∨ tmQ (fun _ => .junk) (frF args 0 .nil) k = .junk
    rw [tmQ_app]
    by_cases hk : k < 100000
    · rw [if_pos hk, frF_get _ _ _ _ (by omega)]
      by_cases hk1 : k < args.length
      · rw [if_pos (by omega), Nat.sub_zero]
        exact h1 k hk1
      · rw [if_neg (by omega), Tq.get_nil]; exact .inr rfl
    · rw [if_neg hk]; exact .inr rfl
  · rw [h2]; exact e
  · rw [h3]; exact Nat.le_refl _
end Go.Lg
