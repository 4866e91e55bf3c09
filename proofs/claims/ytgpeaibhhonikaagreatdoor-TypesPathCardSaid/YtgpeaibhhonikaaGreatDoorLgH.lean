/-
  Each operation of the plain logic is borne out by the model's own: what makes slices, append, calls; then all of them.
-/
import Derived.Test.YtgpeaibhhonikaaGreatDoorLgG
import Derived.Laws.AppendOwn
set_option linter.unusedSimpArgs false
set_option linter.unusedVariables false
namespace Go.Lg
open Go Go.RowKit

section
variable {P : Program} {g : Gh} {w w' : World} {E : Env} {σ : St} {a : Act}

theorem src_run (hs : SimG E g σ a w) {s m : Nat} {ys : List V} {vy : Value} {y : V} (h : srcOf σ.H s y = some (m, ys)) (hy : Rep g w vy y) {w1 : World} (hw1 : w1.heap = w.heap) :
    (∀ w2, (Builtin.lenOf vy).run P w2 = .ok m w2) ∧ ∃ arr : Array Value, (Builtin.firstCells s m vy).run P w1 = .ok arr w1 ∧ arr.size = ys.length ∧ ys.length = m * s ∧
      ∀ (j : Nat) (u : Value) (c : V), arr[j]? = some u → ys[j]? = some c → Rep g w u c := by
  have nil_case : ∀ (A : Option Addr) (c : Nat), (Builtin.firstCells s 0 (.slice A 0 c)).run P w1 = .ok #[] w1 := by
    intro A c
    cases A <;> simp [Builtin.firstCells, loadCells, loadCellsFrom]
  cases y with
  | sl n cs =>
    simp only [srcOf] at h
    split at h
    · rename_i hlen
      cases h
      obtain ⟨A, c, rfl, hI, hc⟩ := hy.sl_inv
      refine ⟨fun w2 => by simp [Builtin.lenOf], ?_⟩
      cases hI with
      | sl0 => exact ⟨#[], nil_case _ _, rfl, hlen, fun j u c h => by simp at h⟩
      | sl b off _ _ us T fz _ q1 q2 q3 q4 q5 =>
        have hl := run_loadCells (P := P) (w := w1) (n := m * s) (off := off) (by rw [hw1]; exact q2) (by omega)
        refine ⟨_, by simp [Builtin.firstCells, hl]; rfl, by simp; omega, hlen, fun j u c hu hc => ?_⟩
        rw [Array.getElem?_extract] at hu
        split at hu
        · exact .imm _ _ (q5 j u c hu hc)
        · cases hu
    · cases h
  | e0 =>
    cases h
    obtain ⟨A, rfl⟩ := hy.e0_inv
    exact ⟨fun w2 => by simp [Builtin.lenOf], #[], nil_case _ _, rfl, by simp, fun j u c h => by simp at h⟩
  | str t =>
    simp only [srcOf] at h
    split at h
    · rename_i h1
      cases h
      subst h1
      have := hy.str_inv; subst this
      have he : t.extract 0 t.size = t := by simp
      have hfc : (Builtin.firstCells 1 t.size (.string t)).run P w1 = .ok (t.data.map fun b => .int .u8 b.toNat) w1 := by
        simp only [Builtin.firstCells, he]; rfl
      refine ⟨fun w2 => by simp [Builtin.lenOf], t.data.map fun b => .int .u8 b.toNat, hfc, by simp, by simp, fun j u c hu hc => ?_⟩
      simp only [Array.getElem?_map, List.getElem?_map, Array.getElem?_toList, Option.map_eq_some_iff] at hu hc
      obtain ⟨x, hx, rfl⟩ := hu
      obtain ⟨x', hx', rfl⟩ := hc
      rw [hx] at hx'; cases hx'
      exact rint _ _
    · cases h
  | msl key gen off n =>
    simp only [srcOf] at h
    cases hk : σ.H key with
    | none => simp [hk] at h
    | some o =>
      cases o with
      | map es => simp [hk] at h
      | row g' esz' cs =>
        simp only [hk] at h
        split at h
        · rename_i h1
          obtain ⟨rfl, rfl, h3⟩ := h1
          cases h
          obtain ⟨c, A, blk, cap, rfl, q1, q2, q3, q4, q5⟩ := hy.msl_inv
          obtain ⟨blk', cap', r1, r2, r3⟩ := hs.obj key _ hk
          rw [q1] at r1; cases r1
          refine ⟨fun w2 => by simp [Builtin.lenOf], ?_⟩
          cases blk with
          | none =>
            have := q5 rfl
            have hm : m = 0 := by omega
            subst hm
            exact ⟨#[], nil_case _ _, by simp, by simp, fun j u c h => by simp at h⟩
          | some b =>
            obtain ⟨p1, p2, p3, us, T, fz, t1, t2, t3, t4, t5⟩ := r3
            by_cases hc0 : c = 0
            · have hm : m = 0 := by omega
              subst hm
              exact ⟨#[], nil_case _ _, by simp, by simp, fun j u c h => by simp at h⟩
            · have hA := q4 b rfl (by omega)
              subst hA
              have hl := run_loadCells (P := P) (w := w1) (n := m * esz') (off := off) (by rw [hw1]; exact t1) (by omega)
              refine ⟨_, by simp [Builtin.firstCells, hl]; rfl, by simp; omega, by simp; omega, fun j u c hu hc => ?_⟩
              rw [Array.getElem?_extract] at hu
              rw [List.getElem?_take, List.getElem?_drop] at hc
              split at hu
              · split at hc
                · exact t5 _ u c hu hc
                · cases hc
              · cases hu
        · cases h
  | _ => cases h

theorem append_room {ts : Array TypeId} {t1 t2 ty e : TypeId} (h0 : ts[0]? = some t1) (h1' : ts[1]? = some t2) {d2 : TypeDesc} {s n c m : Nat} {A : Option Addr} {vy : Value} {arr : Array Value} (ht : P.underlying t1 = some (.slice e)) (ht2 : P.underlying t2 = some d2)
    (hd : (∃ e', d2 = .slice e') ∨ d2 = .string) (hsz : szT P e = some s) (hlen : (Builtin.lenOf vy).run P w = .ok m w) (hfc : (Builtin.firstCells s m vy).run P w = .ok arr w) (hroom : n + m ≤ c)
    (hst : ∀ ad, A = some ad → (storeCells (ad.add (n * s)) arr.toList).run P w = .ok () w') (hn : A = none → w' = w) :
    (Builtin.append_ ts ty #[.slice A n c, vy]).run P w = .ok (.slice A (n + m) c) w' := by
  cases A with
  | none =>
    rw [hn rfl]
    rcases hd with ⟨e', rfl⟩ | rfl <;> simp [Builtin.append_, h0, h1', run_underlying ht, run_underlying ht2, szT_run hsz, hlen, hfc, hroom]
  | some ad =>
    have := hst ad rfl
    rcases hd with ⟨e', rfl⟩ | rfl <;> simp [Builtin.append_, h0, h1', run_underlying ht, run_underlying ht2, szT_run hsz, hlen, hfc, hroom, this]

theorem append_grow {ts : Array TypeId} {t1 t2 ty e : TypeId} (h0 : ts[0]? = some t1) (h1' : ts[1]? = some t2) {d2 : TypeDesc} {s by_ n c m : Nat} {A : Option Addr} {vy zv : Value} {arr old : Array Value} (ht : P.underlying t1 = some (.slice e)) (ht2 : P.underlying t2 = some d2)
    (hd : (∃ e', d2 = .slice e') ∨ d2 = .string) (hsz : szT P e = some s) (hby : bytesT P e = some by_) (hz : ∀ w, (zeroValue e).run P w = .ok zv w) (hlen : (Builtin.lenOf vy).run P w = .ok m w)
    (hfc : (Builtin.firstCells s m vy).run P w.drew = .ok arr w.drew) (hold : (Builtin.firstCells s n (.slice A n c)).run P w.drew = .ok old w.drew) (hgrow : c < n + m)
    (h62 : n + m ≤ 4611686018427387904) (hbytes : (n + m) * by_ ≤ 140737488355328) :
    ∃ newCap rest, n + m ≤ newCap ∧ rest = Builtin.zeroCells zv.cells (newCap - (n + m)) ∧ (Builtin.append_ ts ty #[.slice A n c, vy]).run P w = .ok (.slice (some ⟨w.heap.size, 0, none⟩) (n + m) newCap) (w.drew.alloc (.cells (old ++ arr ++ rest) e)) := by
  obtain ⟨i, hi, rfl⟩ := bytesT_run hby
  have hfit := growslice_fits hgrow hbytes
  have h1 : ¬ (n + m ≤ c) := by omega
  have h2 : ¬ (281474976710656 < Builtin.nextslicecap (n + m) c * i.bytes) := by omega
  have h3 : ¬ (((n + m : Nat) : Int) > IntKind.i64.max) := by
    simp [IntKind.max, IntKind.signed, IntKind.bits]; omega
  have hi64 : IntKind.i64.max = 9223372036854775807 := by simp [IntKind.max, IntKind.signed, IntKind.bits]
  have h3' : ¬ (9223372036854775807 < ((n : Int) + (m : Int))) := by omega
  refine ⟨(Question.appendCap (n + m) c e).cut (w.tape w.drawn (.appendCap (n + m) c e)), _, by simp only [Question.cut]; omega, rfl, ?_⟩
  rcases hd with ⟨e', rfl⟩ | rfl <;> simp [Builtin.append_, h0, h1', run_underlying ht, run_underlying ht2, szT_run hsz, hlen, h1, h2, h3', hi64, typeInfo, hi, Question.forced, hold, hfc, hz, newRow]

theorem run_val {q : Sem Value} {u : Value} (h : q.run P w = .ok u w') : (do pure (.value (← q)) : Sem Next).run P w = .ok (.value u) w' := by simp [h]

theorem grown_blk {us1 us2 us3 : Array Value} {cs ys : List V} {s nc k b : Nat} {T : TypeId} (hb : w'.heap[b]? = some (.cells (us1 ++ us2 ++ us3) T (0, 0)))
    (h1 : us1.size = cs.length) (h2 : us2.size = ys.length) (h3 : cs.length + ys.length = k * s) (h4 : us3.size = (nc - k) * s) (hk : k ≤ nc)
    (r1 : ∀ (j : Nat) (u : Value) (c : V), us1[j]? = some u → cs[j]? = some c → Rep g w' u c) (r2 : ∀ (j : Nat) (u : Value) (c : V), us2[j]? = some u → ys[j]? = some c → Rep g w' u c) :
    BlkOk g w' s nc (cs ++ ys) b := by
  have hnk : nc * s = k * s + (nc - k) * s := by rw [← Nat.add_mul]; congr 1; omega
  refine ⟨_, T, (0, 0), hb, ⟨fun o _ h => by omega, Nat.le_refl _⟩, by simp; omega, by simp only [Array.size_append]; omega, fun j u c hu hc => ?_⟩
  rw [List.getElem?_append] at hc
  rw [Array.append_assoc, Array.getElem?_append] at hu
  split at hc
  · rename_i hlt
    rw [if_pos (by omega)] at hu
    exact r1 j u c hu hc
  · rename_i hge
    have hj : j - cs.length < ys.length := by
      rcases Nat.lt_or_ge (j - cs.length) ys.length with h' | h'
      · exact h'
      · rw [List.getElem?_eq_none h'] at hc; cases hc
    rw [if_neg (by omega), Array.getElem?_append, if_pos (by omega), h1] at hu
    exact r2 _ u c hu hc

theorem app_ok (hs : SimG E g σ a w) {site : Nat} {ts : Array TypeId} {t1 t2 ty e : TypeId} (h0 : ts[0]? = some t1) (h1' : ts[1]? = some t2) {d2 : TypeDesc} {s by_ : Nat} {vx vy : Value} {x y : V} (ht : P.underlying t1 = some (.slice e)) (ht2 : P.underlying t2 = some d2)
    (hd : (∃ e', d2 = .slice e') ∨ d2 = .string) (hsz : szT P e = some s) (hs0 : s ≠ 0) (hby : bytesT P e = some by_) {z : V} (hz : zeroT P e = some z) (hzl : z.cells.length = s) (hx : Rep g w vx x) (hy : Rep g w vy y) :
    LRes.ok P E g σ a w site (do pure (.value (← Builtin.append_ ts ty #[vx, vy]))) (lappx σ.H s by_ x y) := by
  unfold lappx
  cases hsrc : srcOf σ.H s y with
  | none => trivial
  | some src =>
    obtain ⟨m, ys⟩ := src
    have hzv : ∃ zv : Value, (∀ w, (zeroValue e).run P w = .ok zv w) ∧ zv.cells.size = s := by
      unfold zeroT at hz
      cases hi : P.info? e with
      | none => simp [hi] at hz
      | some i =>
        cases hzz : i.zero with
        | none => simp [hi, hzz] at hz
        | some v =>
          simp [hi, hzz] at hz
          exact ⟨v, fun w => by simp [zeroValue, typeInfo, hi, hzz], by rw [← ofVal_cells, hz]; exact hzl⟩
    obtain ⟨zv, hzv, hzs⟩ := hzv
    have hrests : ∀ n, (Builtin.zeroCells zv.cells n).size = n * s := by intro n; simp [Builtin.zeroCells, hzs]
    obtain ⟨hlen, arr, hfc, harr, hys, hrep⟩ := src_run (w1 := w) hs hsrc hy rfl
    obtain ⟨_, arr', hfc', harr', _, hrep'⟩ := src_run (w1 := w.drew) hs hsrc hy rfl
    cases x with
    | e0 =>
      obtain ⟨A, rfl⟩ := hx.e0_inv
      intro ⟨h1, h2, h3⟩
      simp only at h1 h2 h3
      by_cases hm : m = 0
      · subst hm
        have hy0 : ys = [] := List.eq_nil_of_length_eq_zero (by simpa using hys)
        subst hy0
        have ha0 : arr = #[] := Array.eq_empty_of_size_eq_zero (by simpa using harr)
        subst ha0
        have run := append_room (P := P) (w := w) (w' := w) (ty := ty) (A := A) (n := 0) (c := 0) h0 h1' ht ht2 hd hsz (hlen w) hfc (by omega) (fun ad _ => by simp [storeCells]) (fun _ => rfl)
        exact ⟨_, w, _, run_val run, hs.newObj site (blk := none) (cap := 0) (BelowD.refl _ _) ⟨rfl, rfl⟩, .msl _ _ _ _ 0 _ none 0 (Gh.set_same _ _ _ _) (fun _ => rfl) (Nat.le_refl _) (fun _ h => by cases h) (fun _ => rfl)⟩
      · have hold : (Builtin.firstCells s 0 (.slice A 0 0)).run P w.drew = .ok #[] w.drew := by
          cases A <;> simp [Builtin.firstCells, loadCells, loadCellsFrom]
        obtain ⟨nc, rest, hnc, hrest, run⟩ := append_grow (ty := ty) (A := A) (n := 0) (c := 0) h0 h1' ht ht2 hd hsz hby hzv (hlen w) hfc' hold (by omega) (by omega) (by simpa using h1)
        rw [Nat.zero_add] at run hnc hrest
        have hbel : BelowD w.heap.size w (w.drew.alloc (.cells (#[] ++ arr' ++ rest) e)) := ((BelowD.refl _ _).drew).alloc (Nat.le_refl _) _
        have href : ∀ k n r, g.ref k n = some r → (g.set (site, σ.cnt site) 0 (some w.heap.size, nc)).ref k n = some r := by
          intro k n r h
          rw [Gh.set_ne]
          · exact h
          · rintro ⟨rfl, rfl⟩; rw [(hs.fresh site (σ.cnt site) (Nat.le_refl _)).2] at h; cases h
        have key := hs.newObj site (esz := s) (cs := ys) (cap := nc) (blk := some w.heap.size) hbel ⟨Nat.le_refl _, by simp, by
          have hb : (w.drew.alloc (.cells (#[] ++ arr' ++ rest) e)).heap[w.heap.size]? = some (.cells (#[] ++ arr' ++ rest) e (0, 0)) := by
            show (w.heap.push _)[w.heap.size]? = _
            simp
          have := grown_blk (g := g.set (site, σ.cnt site) 0 (some w.heap.size, nc)) (s := s) (nc := nc) (k := m) (cs := []) (ys := ys) hb rfl harr' (by simpa using hys) (by rw [hrest]; exact hrests _) hnc (fun j u c h => by simp at h)
            (fun j u c hu hc => (hrep' j u c hu hc).mono (fun _ h => h) (fun b hm => hbel.block b (hs.immlt b hm)) href)
          simpa using this⟩
        exact ⟨_, _, _, run_val run, key, .msl _ _ _ _ nc _ (some w.heap.size) nc (Gh.set_same _ _ _ _) (fun _ => rfl) hnc (fun b hb _ => by cases hb; rfl) (fun h => by cases h)⟩
    | msl key gen off n =>
      simp only [lapp]
      cases hk : σ.H key with
      | none => trivial
      | some o =>
        cases o with
        | map es => trivial
        | row g' esz' cs =>
          intro ⟨⟨e1, e2, e3, e4⟩, h1, h2, h3⟩
          subst e1 e2 e3
          obtain ⟨c, A, blk, cap, rfl, q1, q2, q3, q4, q5⟩ := hx.msl_inv
          have hc := q2 rfl
          subst hc
          obtain ⟨blk', cap', r1, r2, r3⟩ := hs.obj key _ hk
          have r1' := r1
          rw [q1] at r1; cases r1
          have hblk : blkOf g key (.row g' esz' cs) = blk := by simp [blkOf, q1]
          have href : ∀ r, ∀ k n r', g.ref k n = some r' → (g.set key (g' + 1) r).ref k n = some r' := by
            intro r k n r' h
            rw [Gh.set_ne]
            · exact h
            · rintro ⟨rfl, rfl⟩; rw [r2 _ (by omega)] at h; cases h
          by_cases hroom : n + m ≤ c
          · cases blk with
            | none =>
              have hc0 := q5 rfl
              have hm : m = 0 := by omega
              have hn : n = 0 := by omega
              subst hm hn
              have hy0 : ys = [] := List.eq_nil_of_length_eq_zero (by simpa using hys)
              subst hy0
              have ha0 : arr = #[] := Array.eq_empty_of_size_eq_zero (by simpa using harr)
              subst ha0
              have run := append_room (P := P) (w := w) (w' := w) (ty := ty) (A := A) (n := 0) (c := c) h0 h1' ht ht2 hd hsz (hlen w) hfc (by omega) (fun ad _ => by simp [storeCells]) (fun _ => rfl)
              refine ⟨_, w, _, run_val run, .inr ⟨_, rfl, .msl key (g' + 1) 0 0 c A none c (Gh.set_same _ _ _ _) (fun _ => rfl) (by omega) (fun _ h => by cases h) (fun _ => hc0)⟩,
                hs.setObj hk (cs' := cs ++ []) (esz' := esz') (blk' := none) (cap' := c) (Nat.le_succ _) (fun h => by omega) (.refl _ _ _) (fun _ _ _ => rfl) ⟨by simpa using e4, hc0⟩⟩
            | some b =>
              obtain ⟨p1, p2, p3, us, T, fz, t1', t2', t3, t4, t5⟩ := r3
              have hone : ∀ u ∈ arr.toList, oneV u = true := by
                intro u hu
                obtain ⟨j, hj⟩ := List.mem_iff_getElem?.1 hu
                rw [Array.getElem?_toList] at hj
                have hjl : j < ys.length := by
                  have : j < arr.size := by
                    rcases Nat.lt_or_ge j arr.size with h' | h'
                    · exact h'
                    · rw [Array.getElem?_eq_none h'] at hj; cases hj
                  omega
                exact (hrep j u _ hj (List.getElem?_eq_getElem hjl)).oneV (List.all_eq_true.1 h3 _ (List.getElem_mem hjl))
              have hmul : n * esz' + m * esz' ≤ c * esz' := by rw [← Nat.add_mul]; exact Nat.mul_le_mul_right _ hroom
              obtain ⟨w', hr, hst⟩ := run_storeCells (P := P) (b := b) (off := n * esz') arr.toList 0 w us t1' t2'.1 (by simp; omega) hone
              have run := append_room (P := P) (w := w) (w' := if c = 0 then w else w') (ty := ty) (A := A) (n := n) (c := c) h0 h1' ht ht2 hd hsz (hlen w) hfc hroom (by
                intro ad had
                by_cases hc0 : c = 0
                · have hm : m = 0 := by omega
                  subst hm
                  have ha0 : arr = #[] := Array.eq_empty_of_size_eq_zero (by omega)
                  rw [if_pos hc0, ha0]; simp [storeCells]
                · have := q4 b rfl (by omega)
                  rw [had] at this; cases this
                  rw [if_neg hc0, addr_add, Nat.zero_add]; exact hr) (by
                intro had
                by_cases hc0 : c = 0
                · rw [if_pos hc0]
                · have := q4 b rfl (by omega)
                  rw [had] at this; cases this)
              obtain ⟨us', f1, f2, f3⟩ := hst.cells
              have hw'' : ∃ us'', (if c = 0 then w else w').heap[b]? = some (.cells us'' T fz) ∧ us''.size = us.size ∧ ∀ (j : Nat), us''[j]? = if n * esz' ≤ j ∧ j < n * esz' + arr.size then arr[j - n * esz']? else us[j]? := by
                by_cases hc0 : c = 0
                · rw [if_pos hc0]
                  have hm : m = 0 := by omega
                  subst hm
                  exact ⟨us, t1', rfl, fun j => by rw [if_neg (by omega)]⟩
                · rw [if_neg hc0]
                  refine ⟨us', f1, f2, fun j => ?_⟩
                  rw [f3 j]; simp
              obtain ⟨us'', f1, f2, f3⟩ := hw''
              have hoth : ∀ k, k ≠ b → (if c = 0 then w else w').heap[k]? = w.heap[k]? := by
                intro k hk; split
                · rfl
                · exact hst.other k hk
              have hsz' : (if c = 0 then w else w').heap.size = w.heap.size := by
                by_cases hc0 : c = 0
                · rw [if_pos hc0]
                · rw [if_neg hc0]; exact hst.size
              have hbel : BelowF E.B E.F w (if c = 0 then w else w') := by
                split
                · exact .refl _ _ _
                · exact ⟨hst.os, hst.tape, hst.output, by rw [hst.size]; exact Nat.le_refl _, fun k hk hf => hst.other k (by
                    rintro rfl
                    rcases p1 with h | h
                    · omega
                    · exact hf h.2), by rw [hst.drawn]; exact Nat.le_refl _⟩
              refine ⟨_, _, _, run_val run, .inr ⟨_, rfl, .msl key (g' + 1) 0 _ c A (some b) c (Gh.set_same _ _ _ _) (fun _ => rfl) hroom (fun b' hb' h => by cases hb'; exact q4 b rfl h) (fun h => by cases h)⟩,
                hs.setObj hk (cs' := cs ++ ys) (esz' := esz') (blk' := some b) (cap' := c) (Nat.le_succ _) (fun h => by omega) hbel (fun k _ hne => hoth k (by rw [hblk] at hne; rintro rfl; exact hne rfl))
                  ⟨.inl (by rw [hblk]), by rw [hsz']; exact p2, us'', T, fz, f1, ⟨fun o ho => t2'.1 o (by omega), t2'.2⟩, by simp; omega, by omega, ?_⟩⟩
              intro j u x hu hx'
              have hmono : ∀ v x, Rep g w v x → Rep (g.set key (g' + 1) (some b, c)) (if c = 0 then w else w') v x := fun v x h => h.mono (fun _ h => h)
                (fun b' hm => hoth b' (by rintro rfl; exact p3 hm)) (href _)
              rw [f3 j] at hu
              rw [List.getElem?_append] at hx'
              split at hx'
              · rename_i hlt
                rw [if_neg (by omega)] at hu
                exact hmono _ _ (t5 j u x hu hx')
              · rename_i hge
                have hj : j - cs.length < ys.length := by
                  rcases Nat.lt_or_ge (j - cs.length) ys.length with h' | h'
                  · exact h'
                  · rw [List.getElem?_eq_none h'] at hx'; cases hx'
                rw [if_pos (by omega), ← e4] at hu
                exact hmono _ _ (hrep _ u x hu hx')
          · obtain ⟨_, old, hold, holds, _, holdr⟩ := src_run (s := esz') (w1 := w.drew) (m := n) (ys := cs) hs (by simp only [srcOf, hk]; rw [if_pos ⟨trivial, trivial, by omega⟩, ← e4]; simp) hx rfl
            obtain ⟨nc, rest, hnc, hrest, run⟩ := append_grow (ty := ty) (A := A) (n := n) (c := c) h0 h1' ht ht2 hd hsz hby hzv (hlen w) hfc' hold (by omega) h2 h1
            have hbel : BelowD w.heap.size w (w.drew.alloc (.cells (old ++ arr' ++ rest) e)) := ((BelowD.refl _ _).drew).alloc (Nat.le_refl _) _
            have hmono : ∀ v x, Rep g w v x → Rep (g.set key (g' + 1) (some w.heap.size, nc)) (w.drew.alloc (.cells (old ++ arr' ++ rest) e)) v x := fun v x h => h.mono (fun _ h => h)
              (fun b hm => hbel.block b (hs.immlt b hm)) (href _)
            have hbk : (w.drew.alloc (.cells (old ++ arr' ++ rest) e)).heap[w.heap.size]? = some (.cells (old ++ arr' ++ rest) e (0, 0)) := by
              show (w.heap.push _)[w.heap.size]? = _
              simp
            refine ⟨_, _, _, run_val run, .inr ⟨_, rfl, .msl key (g' + 1) 0 _ nc _ (some w.heap.size) nc (Gh.set_same _ _ _ _) (fun _ => rfl) hnc (fun b' hb' h => by cases hb'; rfl) (fun h => by cases h)⟩,
              hs.setObj hk (cs' := cs ++ ys) (esz' := esz') (blk' := some w.heap.size) (cap' := nc) (Nat.le_succ _) (fun h => by omega) (.of (hbel.mono hs.sizeB)) (fun k hk _ => hbel.block k hk)
                ⟨.inr (Nat.le_refl _), by simp, grown_blk (k := n + m) hbk holds harr' (by rw [Nat.add_mul]; omega) (by rw [hrest]; exact hrests _) hnc
                  (fun j u c hu hc => hmono _ _ (holdr j u c hu hc)) (fun j u c hu hc => hmono _ _ (hrep' j u c hu hc))⟩⟩
    | _ => trivial

end
end Go.Lg
