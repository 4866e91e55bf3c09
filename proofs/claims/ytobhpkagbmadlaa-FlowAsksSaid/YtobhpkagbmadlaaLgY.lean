/-
  Empty slices among arguments: as any slices.
-/
import Derived.Test.YtobhpkagbmadlaaLgX
set_option linter.unusedSimpArgs false
set_option linter.unusedVariables false
namespace Go.Lg
open Go Go.RowKit

def nz : Nat → V → V
  | 0, v => v
  | _ + 1, .e0 => .sl 0 []
  | d + 1, .agg cs => .agg (cs.map (nz d))
  | d + 1, .tup cs => .tup (cs.map (nz d))
  | d + 1, .sl n cs => .sl n (cs.map (nz d))
  | d + 1, .ip cs o => .ip (cs.map (nz d)) o
  | d + 1, .ifc t v => .ifc t (nz d v)
  | d + 1, .fn f cs => .fn f (cs.map (nz d))
  | _ + 1, v => v

theorem RepI.nz : ∀ (d : Nat) {imm : Nat → Prop} {w : World} {u : Value} {x : V}, RepI imm w u x → RepI imm w u (nz d x) := by
  intro d
  induction d with
  | zero => intro imm w u x h; exact h
  | succ d ih =>
    intro imm w u x h
    have maps : ∀ (cs : List V) (j : Nat) (c : V), (cs.map (Go.Lg.nz d))[j]? = some c → ∃ c0, cs[j]? = some c0 ∧ Go.Lg.nz d c0 = c := by
      intro cs j c hc
      simpa only [List.getElem?_map, Option.map_eq_some_iff] using hc
    cases h with
    | e0 A => exact .sl0 _ _
    | agg vs cs hs hr => exact .agg vs _ (by simpa using hs) fun j v c hv hc => by obtain ⟨c0, h0, rfl⟩ := maps cs j c hc; exact ih (hr j v c0 hv h0)
    | tup vs cs hs hr => exact .tup vs _ (by simpa using hs) fun j v c hv hc => by obtain ⟨c0, h0, rfl⟩ := maps cs j c hc; exact ih (hr j v c0 hv h0)
    | fn f vs cs hs hr => exact .fn f vs _ (by simpa using hs) fun j v c hv hc => by obtain ⟨c0, h0, rfl⟩ := maps cs j c hc; exact ih (hr j v c0 hv h0)
    | sl b off n c us T fz cs h1 h2 h3 h4 h5 => exact .sl b off n c us T fz _ h1 h2 (by simpa using h3) h4 fun j v c hv hc => by obtain ⟨c0, h0, rfl⟩ := maps cs j c hc; exact ih (h5 j v c0 hv h0)
    | ip b o off us T fz cs h1 h2 h3 h4 => exact .ip b o off us T fz _ h1 h2 (by simpa using h3) fun j v c hv hc => by obtain ⟨c0, h0, rfl⟩ := maps cs j c hc; exact ih (h4 j v c0 hv h0)
    | ifc t v x h => exact .ifc t v _ (ih h)
    | int => exact .int _ _
    | bool => exact .bool _
    | str => exact .str _
    | sl0 A c => exact .sl0 _ _
    | nilp => exact .nilp
    | nili => exact .nili
    | nilf => exact .nilf
    | nilm => exact .nilm
    | junk v => exact .junk _

theorem PRet.nz {P : Program} {f : FuncId} {args args' : List V} {r : V} (d : Nat) (he : args.map (nz d) = args') (h : PRet P f args' r) : PRet P f args r := by
  obtain ⟨hen, hc⟩ := h
  refine ⟨hen, fun imm w vs h1 h2 h3 => hc imm w vs h1 (by rw [← he]; simpa using h2) fun j u c hu hcj => ?_⟩
  rw [← he, List.getElem?_map, Option.map_eq_some_iff] at hcj
  obtain ⟨c0, h0, rfl⟩ := hcj
  exact (h3 j u c0 hu h0).nz d

end Go.Lg
