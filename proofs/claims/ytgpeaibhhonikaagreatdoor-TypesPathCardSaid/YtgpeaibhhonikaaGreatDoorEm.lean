/-
  A region whose operations touch memory in a drawn order, walked in the text's order: beside each step stands what it reads and turns; at the end the steps that may change places are apart.
-/
import Derived.Test.YtgpeaibhhonikaaGreatDoorEl
set_option linter.unusedSimpArgs false
set_option linter.unusedVariables false
namespace Go.Lg
open Go Go.RowKit

structure Fk where
  R : List Key
  W : List Key
def hRes (H : Heap) : List Key → Heap
  | [] => fun _ => none
  | k :: r => fun x => if x = k then H x else hRes H r x
theorem hRes_nil (H : Heap) (x : Key) : hRes H [] x = none := rfl
theorem hRes_cons (H : Heap) (k : Key) (r : List Key) (x : Key) : hRes H (k :: r) x = if x = k then H x else hRes H r x := rfl
def thereP (H : Heap) : List Key → Prop
  | [] => True
  | k :: r => (∃ o, H k = some o) ∧ thereP H r
def rdF (op : IOp) (tm : Nat → V) : List Key := match op with
  | .call _ a => (a.map (Rd.get tm)).flatMap keysV
  | op => rdK op tm
def okF (op : IOp) (σ : St) : Prop := match op with
  | .call _ a => (a.map (Rd.get σ.tm)).all (sok (hRes σ.H ((a.map (Rd.get σ.tm)).flatMap keysV)) 8) = true
  | .callv .. => False
  | op => dynOp op = true
/-- A call that is handed a slice of the caller's own, which the caller then gives up. -/
def pzD (P : Program) (f : FuncId) (args : List V) (k : Key) (d : Option Nat) (K : St → Prop) (σ : St) : Option LObj → Prop
  | some (.row g esz cs) => (k.1 < PK ∧ args.all (sok (hRes σ.H [k]) 8) = true) ∧ ∃ r, PRet P f (args.map (snap (hRes σ.H [k]) 8)) r ∧ K (St.put ⟨σ.tm, hupd σ.H k (.row (g + 1) esz []), σ.cnt⟩ d r)
  | _ => False
def pzC (P : Program) (o : LOp) (k : Key) (K : St → Prop) (σ : St) : Prop := match o.op with
  | .call f a => o.guard = none ∧ pzD P f (a.map (Rd.get σ.tm)) k o.dst K σ (σ.H k)
  | _ => False
/-- The steps, in the text's order; 'pz': which calls are handed a slice that is given up. -/
def vopsF (P : Program) (rid : Nat) (pz : Nat → Option Key) (fin : List Fk → Prop) : List LOp → Nat → List Fk → (St → Prop) → St → Prop
  | [], _, fs, K, σ => fin fs ∧ K σ
  | o :: os, i, fs, K, σ => match pz i with
    | none => (thereP σ.H (rdF o.op σ.tm) ∧ okF o.op σ) ∧ vstep P (siteOf rid i) o (vopsF P rid pz fin os (i + 1) (fs ++ [⟨rdF o.op σ.tm, wrK o.op σ.tm (siteOf rid i) (σ.cnt (siteOf rid i))⟩]) K) σ
    | some k => pzC P o k (vopsF P rid pz fin os (i + 1) (fs ++ [⟨[k], [k]⟩]) K) σ
def fkOk (a b : Fk) : Bool := (a.R.isEmpty && a.W.isEmpty) || ((b.R.isEmpty && b.W.isEmpty) || (disjK a.W b.R && (disjK a.W b.W && disjK b.W a.R)))
def dkOk (bs : List Nat) (ops : List LOp) (fs : List Fk) : Bool := (List.range ops.length).all fun i => (List.range i).all fun j => (bs.getD i 0).testBit j || (apartO (loAt ops j) (loAt ops i) && fkOk (fs.getD j ⟨[], []⟩) (fs.getD i ⟨[], []⟩))

theorem thereP_iff {H : Heap} : ∀ {ks : List Key}, thereP H ks ↔ ∀ k ∈ ks, ∃ o, H k = some o
  | [] => ⟨fun _ k hk => (by cases hk), fun _ => trivial⟩
  | k :: r => by
    rw [thereP, thereP_iff (ks := r)]
    simp
theorem hRes_sub {H H' : Heap} : ∀ {ks : List Key}, (∀ k ∈ ks, H' k = H k) → Heap.sub (hRes H ks) H'
  | [], _, k, o, h => by cases h
  | k :: r, he, x, o, h => by
    rw [hRes_cons] at h
    split at h
    · rename_i e; subst e; rw [he x (List.mem_cons_self ..)]; exact h
    · exact hRes_sub (fun q hq => he q (List.mem_cons_of_mem _ hq)) x o h
theorem there_of {H : Heap} {ks : List Key} {k : Key} (hk : k ∈ ks) {o : LObj} (h : H k = some o) : (k, o) ∈ there H ks := by
  simp only [there, List.mem_filterMap, Option.map_eq_some_iff]
  exact ⟨k, hk, o, h, rfl⟩

def EvFk (e : Ev) (f : Fk) : Prop := (∀ p ∈ e.rd, p.1 ∈ f.R) ∧ (∀ k ∈ kw e, k ∈ f.W) ∧ e.big = none ∧ (e.w = none → e.nw = false)
section
variable {P : Program}
theorem args_congr {a : List Rd} {tm tm' : Nat → V} (h : ∀ t ∈ lslots a, tm' t = tm t) : a.map (Rd.get tm') = a.map (Rd.get tm) := by
  induction a with
  | nil => rfl
  | cons x r ih =>
    simp only [lslots, List.mem_append] at h
    simp only [List.map_cons]
    rw [Rd.get_congr fun t ht => h t (.inl ht), ih fun t ht => h t (.inr ht)]
theorem ev_of_callP {s : Nat} {d : Option Nat} {g : Option (Nat × Bool)} {f : FuncId} {a : List Rd} {σ0 σ1 : St} (hp : ∀ k ∈ (a.map (Rd.get σ0.tm)).flatMap keysV, ∃ o, σ0.H k = some o)
    (hk : (a.map (Rd.get σ0.tm)).all (sok (hRes σ0.H ((a.map (Rd.get σ0.tm)).flatMap keysV)) 8) = true) (h : LStep P s ⟨d, .call f a, g⟩ σ0 σ1) :
    ∃ e : Ev, EvOk P s ⟨d, .call f a, g⟩ e ∧ rdyE s ⟨d, .call f a, g⟩ e σ0 ∧ apE s d e σ0 = σ1 ∧ EvFk e ⟨(a.map (Rd.get σ0.tm)).flatMap keysV, []⟩ := by
  generalize hKS : (a.map (Rd.get σ0.tm)).flatMap keysV = ks at *
  have hrr : ∀ q ∈ there σ0.H ks, σ0.H q.1 = some q.2 := fun q hq => (there_mem hq).2
  rcases h with ⟨hg, v, σ', hr, rfl⟩ | ⟨hg, rfl⟩
  · obtain ⟨r1, r2, r3, rfl⟩ : ((a.map (Rd.get σ0.tm)).all (sok σ0.H 8) = true) ∧ PRet P f ((a.map (Rd.get σ0.tm)).map (snap σ0.H 8)) v ∧ resOk P f (a.map (Rd.get σ0.tm)) ((a.map (Rd.get σ0.tm)).map (snap σ0.H 8)) v ∧ σ' = σ0 := hr
    refine ⟨⟨v, there σ'.H ks, none, false, σ'.tm, none⟩, ?_, ⟨⟨fun _ _ => rfl, hrr, fun h => (by cases h)⟩, fun b h => (by cases h)⟩, rfl, fun p hp => (there_mem hp).1, fun k h => (by cases h), rfl, fun _ => rfl⟩
    rintro σ ⟨⟨t1, t2, t3⟩, _⟩ K hK
    have t1 : ∀ t ∈ LOp.slots ⟨d, .call f a, g⟩, σ.tm t = σ'.tm t := t1
    have ha : a.map (Rd.get σ.tm) = a.map (Rd.get σ'.tm) := args_congr fun t ht => t1 t (by simp only [LOp.slots, IOp.slots, List.mem_append]; exact .inr ht)
    have s0 := soks_mono (hRes_sub (H := σ'.H) (H' := σ'.H) (ks := ks) fun _ _ => rfl) hk
    have s1 := soks_mono (hRes_sub (H := σ'.H) (H' := σ.H) (ks := ks) fun k hk => by
      obtain ⟨o, ho⟩ := hp k hk
      rw [ho]; exact t2 (k, o) (there_of hk ho)) hk
    refine vstepC_of_LStep (.inl ⟨by rw [gd_congr (tm := σ'.tm) t1]; exact hg, v, σ, ?_, rfl⟩) hK
    show RStep P σ s (.call ((a.map (Rd.get σ.tm)).all (sok σ.H 8) = true) f (a.map (Rd.get σ.tm)) ((a.map (Rd.get σ.tm)).map (snap σ.H 8))) v σ
    rw [ha, s1.2, ← s0.2]
    exact ⟨s1.1, r2, r3, rfl⟩
  · refine ⟨⟨.tup [], there σ0.H ks, none, false, σ0.tm, none⟩, ?_, ⟨⟨fun _ _ => rfl, hrr, fun h => (by cases h)⟩, fun b h => (by cases h)⟩, rfl, fun p hp => (there_mem hp).1, fun k h => (by cases h), rfl, fun _ => rfl⟩
    rintro σ ⟨⟨t1, t2, t3⟩, _⟩ K hK
    exact vstepC_of_LStep (.inr ⟨by rw [gd_congr (tm := σ0.tm) t1]; exact hg, rfl⟩) hK
theorem ev_of_F {s : Nat} {p : LOp} {σ0 σ1 : St} (hp : thereP σ0.H (rdF p.op σ0.tm)) (hok : okF p.op σ0) (h : LStep P s p σ0 σ1) :
    ∃ e : Ev, EvOk P s p e ∧ rdyE s p e σ0 ∧ apE s p.dst e σ0 = σ1 ∧ EvFk e ⟨rdF p.op σ0.tm, wrK p.op σ0.tm s (σ0.cnt s)⟩ := by
  have hp := thereP_iff.1 hp
  obtain ⟨d, op, g⟩ := p
  have gen : ∀ (hd : dynOp op = true) (hnc : isCall op = false) (hr : rdF op σ0.tm = rdK op σ0.tm), ∃ e : Ev, EvOk P s ⟨d, op, g⟩ e ∧ rdyE s ⟨d, op, g⟩ e σ0 ∧ apE s d e σ0 = σ1 ∧ EvFk e ⟨rdF op σ0.tm, wrK op σ0.tm s (σ0.cnt s)⟩ := by
    intro hd hnc hr
    obtain ⟨e, h1, h2, h3, h4, h5, h6, h7, _⟩ := ev_of_step (p := ⟨d, op, g⟩) (R := rdK op σ0.tm) (W := wrK op σ0.tm s (σ0.cnt s)) hd hnc rfl rfl (fun k hk => hp k (by rw [hr]; exact hk)) h
    refine ⟨e, h1, h2, h3, fun q hq => ?_, h5, h6 rfl, h7⟩
    have h4 : e.rd = there σ0.H (rdK op σ0.tm) := h4
    rw [h4] at hq
    show q.1 ∈ rdF op σ0.tm
    rw [hr]; exact (there_mem hq).1
  cases op with
  | call f a => exact ev_of_callP hp hok h
  | callv f a => exact hok.elim
  | _ => exact gen hok rfl rfl
/-- An object of the running call is given up: its memory never turns again. -/
theorem SimG.poison {E : Env} {g : Gh} {σ : St} {a : Act} {w : World} (hs : SimG E g σ a w) {key : Key} {gen esz : Nat} {cs : List V} (hk : σ.H key = some (.row gen esz cs)) (hP : key.1 < PK) :
    SimG E ⟨allImm g (hRes σ.H [key]), fun k n => if k = key ∧ n = gen + 1 then some (none, 0) else g.ref k n⟩ ⟨σ.tm, hupd σ.H key (.row (gen + 1) esz []), σ.cnt⟩ a w := by
  have ho := hs.obj key _ hk
  obtain ⟨blk, cap, r1, r2, r3⟩ := ho
  have ho := hs.obj key _ hk
  have hall : ∀ b, allImm g (hRes σ.H [key]) b → g.imm b ∨ blkOf g key (.row gen esz cs) = some b := by
    rintro b (h | ⟨k, o, h1, h2⟩)
    · exact .inl h
    · rw [hRes_cons] at h1
      split at h1
      · rename_i e; subst e
        rw [hk] at h1; cases h1; exact .inr h2
      · cases h1
  have hrefs : ∀ k n r, g.ref k n = some r → (if k = key ∧ n = gen + 1 then some (none, 0) else g.ref k n) = some r := by
    intro k n r h
    split
    · rename_i e
      rw [e.1, e.2, r2 _ (Nat.lt_succ_self _)] at h; cases h
    · exact h
  have hrep : ∀ v x, Rep g w v x → Rep ⟨allImm g (hRes σ.H [key]), fun k n => if k = key ∧ n = gen + 1 then some (none, 0) else g.ref k n⟩ w v x := fun v x h => h.mono (fun _ h => .inl h) (fun _ _ => rfl) hrefs
  refine ⟨hs.below, hs.sizeB, hs.size, hs.defers, fun t => hrep _ _ (hs.tm t), ?_, fun b h => .inl (hs.imm0 b h), ?_, ?_, ?_, ?_, fun k n r h1 h2 => hrefs k n r (hs.ref0 k n r h1 h2)⟩
  · intro b h
    rcases hall b h with h | h
    · exact hs.immlt b h
    · exact (ho.blk h).1
  · intro b hb h
    rcases hall b h with h | h
    · exact hs.immB b hb h
    · rcases (ho.blk h).2.2 with h1 | h1
      · omega
      · omega
  · intro k o h
    simp only [hupd] at h
    split at h
    · rename_i e; subst e; cases h
      refine ⟨none, 0, if_pos ⟨rfl, rfl⟩, fun m hm => ?_, rfl, rfl⟩
      show (if k = k ∧ m = gen + 1 then some (none, 0) else g.ref k m) = none
      rw [if_neg (by omega)]; exact r2 m (by omega)
    · rename_i e
      refine (hs.obj k o h).keep (Nat.le_refl _) (fun n r h => hrefs k n r h) (fun m hm => ?_) (fun b hb hm => ?_) (fun _ _ => rfl) hrep
      · show (if k = key ∧ m = gen + 1 then some (none, 0) else g.ref k m) = none
        rw [if_neg (fun h => e h.1)]; exact hm
      · rcases hall b hm with h1 | h1
        · exact h1
        · exact absurd (hs.apart k key o _ b h hk hb h1) e
  · intro k k' o o' b h1 h2 h3 h4
    have none1 : ∀ {k : Key} {o : LObj}, hupd σ.H key (.row (gen + 1) esz []) k = some o → blkOf ⟨allImm g (hRes σ.H [key]), fun k n => if k = key ∧ n = gen + 1 then some (none, 0) else g.ref k n⟩ k o = some b → σ.H k = some o ∧ blkOf g k o = some b := by
      intro k o h1 h3
      by_cases e : k = key
      · subst e
        have h1 : hupd σ.H k (.row (gen + 1) esz []) k = some o := h1
        simp only [hupd, if_true, Option.some.injEq] at h1
        subst h1
        simp [blkOf] at h3
      · simp only [hupd, if_neg e] at h1
        rw [(hs.obj k o h1).blk_keep (fun n r h => hrefs k n r h)] at h3
        exact ⟨h1, h3⟩
    obtain ⟨a1, a2⟩ := none1 h1 h3
    obtain ⟨b1, b2⟩ := none1 h2 h4
    exact hs.apart k k' o o' b a1 b1 a2 b2
  · intro s n hn
    obtain ⟨f1, f2⟩ := hs.fresh s n hn
    have hne : ¬ (s, n) = key := by rintro rfl; rw [hk] at f1; cases f1
    refine ⟨?_, fun m => ?_⟩
    · simp only [hupd, if_neg hne]; exact f1
    · show (if (s, n) = key ∧ m = gen + 1 then some (none, 0) else g.ref (s, n) m) = none
      rw [if_neg (fun h => hne h.1)]; exact f2 m
theorem pst_poison {f : FuncId} {args : List V} {σ : St} {key : Key} {gen esz : Nat} {cs : List V} {r : V} (hPR : PRet P f (args.map (snap (hRes σ.H [key]) 8)) r) (hk : σ.H key = some (.row gen esz cs)) (hP : key.1 < PK) :
    PSt P f args σ fun v σ1 => v = r ∧ σ1 = ⟨σ.tm, hupd σ.H key (.row (gen + 1) esz []), σ.cnt⟩ := by
  refine ⟨hPR.1, fun E hE g a w vs hs hsz hargs => ?_⟩
  haveI := hE
  have hle : St.le ⟨σ.tm, hRes σ.H [key], σ.cnt⟩ σ := ⟨fun _ => .inl rfl, fun k o h => by
    exact hRes_sub (H := σ.H) (H' := σ.H) (ks := [key]) (fun _ _ => rfl) k o h, fun _ => Nat.le_refl _⟩
  have hsr := hs.le hle
  have hsp := hs.poison hk hP
  have himm : Imm0 P (allImm g (hRes σ.H [key])) w := ⟨fun b h => allImm_lt hsr b h, EOk.gok hs⟩
  refine (hPR.2 (allImm g (hRes σ.H [key])) w vs himm (by rw [List.length_map]; exact hsz) (fun j u c hu hc => ?_)).mono ?_
  · rw [List.getElem?_map, Option.map_eq_some_iff] at hc
    obtain ⟨c0, hc0, rfl⟩ := hc
    exact snap_rep hsr 8 (hargs j u c0 hu hc0)
  · rintro e w' ⟨v, imm', rfl, hv, hb, h1, h2⟩
    exact ⟨v, r, _, _, rfl, hsp.grow hb h1 h2, .imm _ _ hv, rfl, rfl⟩
theorem ev_of_pz {s : Nat} {p : LOp} {k : Key} {K : St → Prop} {σ0 : St} (h : pzC P p k K σ0) :
    ∃ (e : Ev) (σ1 : St), K σ1 ∧ EvOk P s p e ∧ rdyE s p e σ0 ∧ apE s p.dst e σ0 = σ1 ∧ EvFk e ⟨[k], [k]⟩ := by
  obtain ⟨d, op, g⟩ := p
  cases op with
  | call f a =>
    obtain ⟨hg, h⟩ := h
    have hg : g = none := hg
    subst hg
    have h : pzD P f (a.map (Rd.get σ0.tm)) k d K σ0 (σ0.H k) := h
    cases hk : σ0.H k with
    | none => rw [hk] at h; exact h.elim
    | some o =>
      rw [hk] at h
      cases o with
      | map es => exact h.elim
      | row gen esz cs =>
        obtain ⟨⟨h1, h2⟩, r, h3, h4⟩ := h
        refine ⟨⟨r, [(k, .row gen esz cs)], some (k, .row (gen + 1) esz []), false, σ0.tm, none⟩, _, h4, ?_, ⟨⟨fun _ _ => rfl, fun q hq => ?_, fun h => (by cases h)⟩, fun b h => (by cases h)⟩, rfl, fun q hq => ?_, fun q hq => hq, rfl, fun h => (by cases h)⟩
        · rintro σ ⟨⟨t1, t2, t3⟩, _⟩ K hK
          have t1 : ∀ t ∈ LOp.slots ⟨d, .call f a, none⟩, σ.tm t = σ0.tm t := t1
          have ha : a.map (Rd.get σ.tm) = a.map (Rd.get σ0.tm) := args_congr fun t ht => t1 t (by simp only [LOp.slots, IOp.slots, List.mem_append]; exact .inr ht)
          have hk' : σ.H k = some (.row gen esz cs) := t2 (k, .row gen esz cs) (List.mem_singleton.2 rfl)
          have he : hRes σ.H [k] = hRes σ0.H [k] := by
            funext x
            rw [hRes_cons, hRes_cons]
            by_cases e : x = k
            · subst e; rw [if_pos rfl, if_pos rfl, hk, hk']
            · rw [if_neg e, if_neg e]; rfl
          refine ⟨σ, Ent.refl _, .inr (.inl ⟨rfl, _, f, _, _, rfl, fun v σ1 => v = r ∧ σ1 = ⟨σ.tm, hupd σ.H k (.row (gen + 1) esz []), σ.cnt⟩, ?_, ?_⟩)⟩
          · refine pst_poison ?_ hk' h1
            rw [he]
            show PRet P f ((a.map (Rd.get σ.tm)).map _) r
            rw [ha]; exact h3
          · rintro v σ1 ⟨rfl, rfl⟩; exact hK
        · obtain rfl := List.mem_singleton.1 hq; exact hk
        · obtain rfl := List.mem_singleton.1 hq; exact List.mem_singleton.2 rfl
  | _ => exact h.elim
theorem vopsF_run {rid : Nat} {pz : Nat → Option Key} {los : List LOp} {fin : List Fk → Prop} {K : St → Prop} : ∀ (ops : List LOp) (i : Nat), ops = los.drop i → i + ops.length = los.length → ∀ (fs : List Fk) (σ : St), vopsF P rid pz fin ops i fs K σ →
    ∃ (ev : Nat → Ev) (gs : List Fk) (σe : St), (∀ k, i ≤ k → k < los.length → EvOk P (siteOf rid k) (loAt los k) (ev k) ∧ EvFk (ev k) (gs.getD (k - i) ⟨[], []⟩)) ∧ RunE rid (loAt los) ev (List.range' i ops.length) σ σe ∧ fin (fs ++ gs) ∧ K σe
  | [], i, hd, hn, fs, σ, h => by
    refine ⟨fun _ => ⟨.junk, [], none, false, fun _ => .junk, none⟩, [], σ, fun k h1 h2 => by simp at hn; omega, rfl, ?_, h.2⟩
    rw [List.append_nil]; exact h.1
  | p :: ops, i, hd, hn, fs, σ, h => by
    have one : ∃ (f : Fk) (ev0 : Ev) (σ1 : St), vopsF P rid pz fin ops (i + 1) (fs ++ [f]) K σ1 ∧ EvOk P (siteOf rid i) p ev0 ∧ rdyE (siteOf rid i) p ev0 σ ∧ apE (siteOf rid i) p.dst ev0 σ = σ1 ∧ EvFk ev0 f := by
      rw [vopsF] at h
      cases hp : pz i with
      | none =>
        rw [hp] at h
        obtain ⟨⟨h1, h2⟩, h3⟩ := h
        obtain ⟨σ1, hs, h3⟩ := vstep_iff.1 h3
        obtain ⟨ev0, v1, v2, v3, v4⟩ := ev_of_F h1 h2 hs
        exact ⟨_, ev0, σ1, h3, v1, v2, v3, v4⟩
      | some k =>
        rw [hp] at h
        obtain ⟨ev0, σ1, h3, v1, v2, v3, v4⟩ := ev_of_pz (s := siteOf rid i) h
        exact ⟨_, ev0, σ1, h3, v1, v2, v3, v4⟩
    obtain ⟨f, ev0, σ1, h3, v1, v2, v3, v4⟩ := one
    have hd1 : ops = los.drop (i + 1) := by rw [← List.tail_drop, ← hd]; rfl
    have hlo : loAt los i = p := by
      have := congrArg (fun l => l[0]?) hd
      simp only [List.getElem?_cons_zero, List.getElem?_drop, Nat.add_zero] at this
      simp only [loAt, List.getD_eq_getElem?_getD, ← this, Option.getD_some]
    obtain ⟨ev, gs, σe, w1, w2, w3, w4⟩ := vopsF_run ops (i + 1) hd1 (by simp only [List.length_cons] at hn; omega) _ σ1 h3
    refine ⟨fun k => if k = i then ev0 else ev k, f :: gs, σe, fun k k1 k2 => ?_, ?_, by rw [List.append_assoc] at w3; exact w3, w4⟩
    · by_cases hk : k = i
      · subst hk
        simp only [if_true, hlo, Nat.sub_self]
        exact ⟨v1, v4⟩
      · simp only [if_neg hk]
        obtain ⟨x1, x2⟩ := w1 k (by omega) k2
        have hs : k - i = (k - (i + 1)) + 1 := by omega
        rw [hs, List.getD_cons_succ]
        exact ⟨x1, x2⟩
    · rw [List.length_cons, List.range'_succ]
      refine ⟨?_, ?_⟩
      · simp only [if_true, hlo]; exact v2
      · simp only [if_true, hlo, v3]
        refine runE_congr (fun j hj => ?_) w2
        have := (List.mem_range'_1.1 hj).1
        rw [if_neg (by omega)]
theorem calmK {e : Ev} {f : Fk} (hf : EvFk e f) (h1 : f.R = []) (h2 : f.W = []) : calm e := by
  obtain ⟨f1, f2, f3, f4⟩ := hf
  have hw : e.w = none := by
    cases hw' : e.w with
    | none => rfl
    | some q =>
      have := f2 q.1 (by simp [kw, hw'])
      rw [h2] at this; cases this
  have hr : e.rd = [] := by
    cases hr' : e.rd with
    | nil => rfl
    | cons q r =>
      have := f1 q (by rw [hr']; exact List.mem_cons_self ..)
      rw [h1] at this; cases this
  exact ⟨hr, hw, f4 hw, f3⟩
theorem vregd_F {rid : Nat} {bs : List Nat} {pz : Nat → Option Key} {los : List LOp} {K : St → Prop} {σ : St} (h : vopsF P rid pz (fun fs => dkOk bs los fs = true) los 0 [] K σ) : vregd P rid bs los K σ := by
  obtain ⟨ev, gs, σe, w1, w2, w3, w4⟩ := vopsF_run los 0 rfl (by simp) [] σ h
  rw [List.nil_append] at w3
  refine ⟨ev, fun i hi => (w1 i (Nat.zero_le _) hi).1, fun i j hj hi hb => ?_, σe, by rw [List.range_eq_range']; exact w2, w4⟩
  have h1 := List.all_eq_true.1 w3 i (List.mem_range.2 hi)
  have h2 := List.all_eq_true.1 h1 j (List.mem_range.2 hj)
  rw [hb] at h2
  simp only [Bool.false_or, Bool.and_eq_true] at h2
  obtain ⟨a1, a2⟩ := h2
  obtain ⟨_, fi⟩ := w1 i (Nat.zero_le _) hi
  obtain ⟨_, fj⟩ := w1 j (Nat.zero_le _) (by omega)
  rw [Nat.sub_zero] at fi fj
  refine ⟨a1, ?_⟩
  simp only [fkOk, Bool.or_eq_true, Bool.and_eq_true, List.isEmpty_iff] at a2
  rcases a2 with a2 | a2 | ⟨b1, b2, b3⟩
  · exact .inr (.inl (calmK fj a2.1 a2.2))
  · exact .inr (.inr (.inl (calmK fi a2.1 a2.2)))
  · refine .inl ⟨fj.2.2.1, fi.2.2.1, fun k hk => ⟨fun hm => ?_, fun hm => disjK_ok b2 k (fj.2.1 k hk) (fi.2.1 k hm)⟩, fun k hk hm => ?_⟩
    · obtain ⟨q, hq, rfl⟩ := List.mem_map.1 hm
      exact disjK_ok b1 _ (fj.2.1 _ hk) (fi.1 q hq)
    · obtain ⟨q, hq, rfl⟩ := List.mem_map.1 hm
      exact disjK_ok b3 _ (fi.2.1 _ hk) (fj.1 q hq)
/-- A drawn region, walked in the text's order. -/
theorem vcg_regd_of {rid : Nat} {bs : List Nat} {los : List LOp} {Q : Exit → St → Prop} {σ : St} (pz : Nat → Option Key) (h : vopsF P rid pz (fun fs => dkOk bs los fs = true) los 0 [] (Q .normal) σ) : vcg P (.regd rid bs los) Q σ := vregd_F h
theorem vopsF_nil {rid i : Nat} {pz : Nat → Option Key} {fin : List Fk → Prop} {fs : List Fk} {K : St → Prop} {σ : St} : vopsF P rid pz fin [] i fs K σ = (fin fs ∧ K σ) := rfl
def vopsF1 (P : Program) (rid : Nat) (pz : Nat → Option Key) (fin : List Fk → Prop) (o : LOp) (os : List LOp) (i : Nat) (fs : List Fk) (K : St → Prop) (σ : St) : Option Key → Prop
  | none => (thereP σ.H (rdF o.op σ.tm) ∧ okF o.op σ) ∧ vstep P (siteOf rid i) o (vopsF P rid pz fin os (i + 1) (fs ++ [⟨rdF o.op σ.tm, wrK o.op σ.tm (siteOf rid i) (σ.cnt (siteOf rid i))⟩]) K) σ
  | some k => pzC P o k (vopsF P rid pz fin os (i + 1) (fs ++ [⟨[k], [k]⟩]) K) σ
theorem vopsF_cons {rid i : Nat} {pz : Nat → Option Key} {fin : List Fk → Prop} {o : LOp} {os : List LOp} {fs : List Fk} {K : St → Prop} {σ : St} : vopsF P rid pz fin (o :: os) i fs K σ = vopsF1 P rid pz fin o os i fs K σ (pz i) := by
  rw [vopsF, vopsF1.eq_def]
theorem vopsF1_none {rid i : Nat} {pz : Nat → Option Key} {fin : List Fk → Prop} {o : LOp} {os : List LOp} {fs : List Fk} {K : St → Prop} {σ : St} : vopsF1 P rid pz fin o os i fs K σ none = ((thereP σ.H (rdF o.op σ.tm) ∧ okF o.op σ) ∧ vstep P (siteOf rid i) o (vopsF P rid pz fin os (i + 1) (fs ++ [⟨rdF o.op σ.tm, wrK o.op σ.tm (siteOf rid i) (σ.cnt (siteOf rid i))⟩]) K) σ) := rfl
theorem vopsF1_some {rid i : Nat} {pz : Nat → Option Key} {fin : List Fk → Prop} {o : LOp} {os : List LOp} {fs : List Fk} {K : St → Prop} {σ : St} {k : Key} : vopsF1 P rid pz fin o os i fs K σ (some k) = pzC P o k (vopsF P rid pz fin os (i + 1) (fs ++ [⟨[k], [k]⟩]) K) σ := rfl
theorem pzC_call {f : FuncId} {a : List Rd} {d : Option Nat} {k : Key} {K : St → Prop} {σ : St} : pzC P ⟨d, .call f a, none⟩ k K σ = pzD P f (a.map (Rd.get σ.tm)) k d K σ (σ.H k) := propext ⟨fun h => h.2, fun h => ⟨rfl, h⟩⟩
theorem pzD_row {f : FuncId} {args : List V} {d : Option Nat} {k : Key} {K : St → Prop} {σ : St} {g esz : Nat} {cs : List V} : pzD P f args k d K σ (some (.row g esz cs)) = ((k.1 < PK ∧ args.all (sok (hRes σ.H [k]) 8) = true) ∧ ∃ r, PRet P f (args.map (snap (hRes σ.H [k]) 8)) r ∧ K (St.put ⟨σ.tm, hupd σ.H k (.row (g + 1) esz []), σ.cnt⟩ d r)) := rfl
end
theorem kv_sl (n : Nat) (cs : List V) : keysV (.sl n cs) = [] := rfl
theorem kv_agg (cs : List V) : keysV (.agg cs) = [] := rfl
theorem kv_tup (cs : List V) : keysV (.tup cs) = [] := rfl
theorem kv_int (k : IntKind) (n : Int) : keysV (.int k n) = [] := rfl
theorem kv_bool (b : Bool) : keysV (.bool b) = [] := rfl
theorem kv_str (b : ByteArray) : keysV (.str b) = [] := rfl
theorem kv_e0 : keysV .e0 = [] := rfl
theorem kv_ip (cs : List V) (o : Nat) : keysV (.ip cs o) = [] := rfl
theorem kv_im (cs : List (V × V)) : keysV (.im cs) = [] := rfl
theorem kv_nilp : keysV .nilp = [] := rfl
theorem kv_nili : keysV .nili = [] := rfl
theorem kv_ifc (t : TypeId) (v : V) : keysV (.ifc t v) = [] := rfl
theorem kv_msl (k : Key) (g o n : Nat) : keysV (.msl k g o n) = [k] := rfl
theorem kv_mp (k : Key) (g o : Nat) : keysV (.mp k g o) = [k] := rfl
theorem kv_mm (k : Key) : keysV (.mm k) = [k] := rfl
theorem kv_junk : keysV .junk = [] := rfl
theorem some_ex1 {α : Type} (a : α) : (∃ o, some a = some o) = True := propext ⟨fun _ => trivial, fun _ => ⟨a, rfl⟩⟩
end Go.Lg
