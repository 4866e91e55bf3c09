/-
  Gw Sf Lib Gs Fh Gx Gy Gz GA GB GC GD GE MirB RowA RowP: put together.
-/
import Derived.Test.YtlkdcgfjmhjjpaaGreatGUd
import Derived.Test.YtlkdcgfjmhjjpaaGreatGUf
import Derived.Test.YtlkdcgfjmhjjpaaGreatGUc
import Derived.Shelf.SlSortCmp.NoneTotal
import Derived.Shelf.SlGeneric
import Derived.Ground.SlsfProg
import Derived.Test.YtlkdcgfjmhjjpaaGreatProg
import Derived.Test.YtlkdcgfjmhjjpaaGreatGUe
import Derived.Test.YtlkdcgfjmhjjpaaGreatRows
import Derived.WalkKit
import Derived.ProofKit
import Derived.OpenShut
import Derived.ShutString
import Derived.ChangeOld
import Derived.Below
set_option linter.unusedSimpArgs false
set_option linter.unusedVariables false
namespace Go.Proofs.YtlkdcgfjmhjjpaaGreat
open Go Go.Lg Go.RowKit
set_option linter.unusedVariables false
set_option linter.unusedSimpArgs false
set_option maxRecDepth 20000

/-- What the walk asks of points. -/
structure gOk (m : Mir) : Prop where
  ok : m.ok
  may : mayB m = true
  n60 : m.code.length ≤ 60
  l30 : m.locals.length ≤ 30
  ops : ∀ x ∈ m.code, (opersL x.val).length ≤ 20
  smo : ∀ x ∈ m.code, smallO (opersL x.val)
  smt : ∀ x ∈ m.code, smallP x.to
theorem takes_len {l : List MInst} (h : ∀ x ∈ l, (opersL x.val).length ≤ 20) : (l.flatMap takes1).length ≤ l.length * 22 := by
  induction l with
  | nil => exact Nat.le_refl _
  | cons x l ih =>
    have h1 := h x (List.mem_cons_self ..)
    have h2 := ih fun y hy => h y (List.mem_cons_of_mem _ hy)
    rw [List.flatMap_cons, List.length_append, List.length_cons, takes1, List.length_cons, List.length_cons, List.length_map]
    omega
theorem univ_len {m : Mir} (h : gOk m) : (univ m).length ≤ 2000 := by
  have h1 := freeL_len m m.locals.length
  have h2 := takes_len h.ops
  have h3 := h.n60
  have h4 := h.l30
  rw [univ, List.length_append]; omega
theorem smallP_nil (n : Int) : smallP ⟨n, []⟩ := by unfold smallP; simp
theorem univ_small {m : Mir} (h : gOk m) : ∀ p ∈ univ m, smallP p := by
  intro p hp
  rcases List.mem_append.1 hp with hp | hp
  · have := freeL_small m _ p hp
    unfold smallP; rw [this]; simp
  · obtain ⟨x, hx, hp⟩ := List.mem_flatMap.1 hp
    rcases List.mem_cons.1 hp with rfl | hp
    · exact h.smt x hx
    · rcases List.mem_cons.1 hp with rfl | hp
      · exact smallP_nil _
      · obtain ⟨o, ho, rfl⟩ := List.mem_map.1 hp
        exact h.smo x hx o ho
theorem add_ownE (hS : SortsP) (l : List MPath) (p : MPath) (hs : Srt l) (hl : l.length ≤ 1000000) (hp : smallP p) (hx : ∀ x ∈ l, smallP x) : PRet Tryz.prog 11 [encE l, .agg p.cells] (encE (addS l p)) := by
  rw [encE_ne add_ne]; exact (add_own hS l p hs hl hp hx).ret.nz 6 (argsE l p)
theorem argsE0 (l : List MPath) (n : Int) : List.map (nz 6) [encE l, .agg [.int .i64 n, .e0]] = [encL MPath.cells l, .agg (MPath.mk n []).cells] := by
  unfold encE
  split
  · rename_i e; subst e; simp only [List.map_cons, List.map_nil, nz, mp_c, encL, List.length_nil, List.flatMap_nil]
  · simp only [List.map_cons, List.map_nil, nz, encL, mo_nz, mp_c, List.length_nil, List.flatMap_nil]
theorem add_ownE0 (hS : SortsP) (l : List MPath) (n : Int) (hs : Srt l) (hl : l.length ≤ 1000000) (hx : ∀ x ∈ l, smallP x) : PRet Tryz.prog 11 [encE l, .agg [.int .i64 n, .e0]] (encE (addS l ⟨n, []⟩)) := by
  rw [encE_ne add_ne]; exact (add_own hS l _ hs hl (smallP_nil n) hx).ret.nz 6 (argsE0 l n)
theorem li_nz (d : Nat) (l : List Int) : (l.flatMap cI).map (nz (d + 1)) = l.flatMap cI := by
  induction l with
  | nil => rfl
  | cons x r ih => rw [List.flatMap_cons, List.map_append, ih]; rfl
theorem ls_nz (d : Nat) (l : List ByteArray) : (l.flatMap cS).map (nz (d + 1)) = l.flatMap cS := by
  induction l with
  | nil => rfl
  | cons x r ih => rw [List.flatMap_cons, List.map_append, ih]; rfl
theorem mop_nz (d : Nat) (l : List MOper) : (l.flatMap MOper.cells).map (nz (d + 2)) = l.flatMap MOper.cells := by
  induction l with
  | nil => rfl
  | cons x r ih => rw [List.flatMap_cons, List.map_append, ih]; simp only [MOper.cells, encL, List.map_cons, List.map_nil, nz, ls_nz]
theorem mi_nz (x : MInst) : x.cells.map (nz 5) = x.cells := by
  simp only [MInst.cells, encL, List.map_cons, List.map_nil, nz, ls_nz, li_nz, mop_nz]
theorem aft_retE (hS : SortsP) (l : List MPath) (x : MInst) (hs : Srt l) (hl : l.length ≤ 800000) (hx : ∀ y ∈ l, smallP y) (hn : (opersL x.val).length ≤ 100000) (ho : smallO (opersL x.val)) (ht : smallP x.to) :
    PRet Tryz.prog 15 [encE l, .agg x.cells] (encL MPath.cells (aftS l x)) := (aft_ret hS l x hs hl hx hn ho ht).nz 6 (by
  unfold encE
  split
  · rename_i e; subst e; simp only [List.map_cons, List.map_nil, nz, mi_nz]; rfl
  · simp only [List.map_cons, List.map_nil, nz, encL, mo_nz, mi_nz])
theorem eqf_retE (a b : List MPath) (hl : a.length ≤ 1000000) (ha : ∀ x ∈ a, smallP x) (hb : ∀ x ∈ b, smallP x) :
    PRet Tryz.prog 47 [encE a, encE b, .fn 37 []] (.bool (decide (a = b))) := (eqf_ret a b hl ha hb).nz 6 (by
  have h : ∀ l : List MPath, nz 6 (encE l) = encL MPath.cells l := by
    intro l
    unfold encE
    split
    · rename_i e; subst e; rfl
    · simp only [nz, encL, mo_nz]
  simp only [List.map_cons, List.map_nil, h]; rfl)
theorem que_ld (F w : List Nat) (i : Nat) : ldV false 1 ((ints (F ++ i :: w)).flatMap cI) F.length = some (.int .i64 i) := by
  have h : F.length < (ints (F ++ i :: w)).length := by rw [ints_len, List.length_append, List.length_cons]; omega
  rw [ld_cI h, ints_get]; simp
theorem que_drop (G W : List Nat) : List.drop G.length ((ints (G ++ W)).flatMap cI) = (ints W).flatMap cI := by
  have h : (ints (G ++ W)).flatMap cI = (ints G).flatMap cI ++ (ints W).flatMap cI := by rw [ints, List.map_append, List.flatMap_append]; rfl
  have h2 : G.length = ((ints G).flatMap cI).length := by rw [li_len, ints_len]
  rw [h, h2, List.drop_left]
theorem vcg_regc {P : Program} {rid : Nat} {ops : List (Nat × LOp)} {Q : Exit → St → Prop} {σ : St} : vcg P (.regc rid ops) Q σ = vopsC P rid ops 0 (Q .normal) σ := rfl
theorem vopsC_nil {P : Program} {rid i : Nat} {K : St → Prop} {σ : St} : vopsC P rid [] i K σ = K σ := rfl
theorem vopsC_z {P : Program} {rid i : Nat} {o : LOp} {os : List (Nat × LOp)} {K : St → Prop} {σ : St} : vopsC P rid ((0, o) :: os) i K σ = vstepM P (siteOf rid i) o (vopsC P rid os (i + 1) K) σ := rfl
theorem vopsC_2 {P : Program} {rid i : Nat} {o : LOp} {os : List (Nat × LOp)} {K : St → Prop} {σ : St} : vopsC P rid ((2, o) :: os) i K σ = vstepC P (siteOf rid i) o (vopsC P rid os (i + 1) K) σ := rfl
theorem vstepC_app {P : Program} {s : Nat} {d : Option Nat} {esz by_ : Nat} {x y : Rd} {K : St → Prop} {σ : St} (key : Key) (gen q n m : Nat) (cs ys : List V) (h1 : x.get σ.tm = .qsl key gen esz q n) (h2 : σ.H key = some (.row gen esz cs)) (h3 : cs.length = q * esz + n * esz)
    (h4 : srcOf σ.H esz (y.get σ.tm) = some (m, ys)) (h5 : (n + m) * by_ ≤ 140737488355328 ∧ n + m ≤ 4611686018427387904) (h6 : ys.all V.one = true)
    (k1 : K (St.put ⟨σ.tm, hupd σ.H key (.row (gen + 1) esz (cs ++ ys)), σ.cnt⟩ d (.qsl key (gen + 1) esz q (n + m))))
    (k2 : K (St.put ⟨σ.tm, hupd σ.H key (.row (gen + 1) esz (cs.drop (q * esz) ++ ys)), σ.cnt⟩ d (.qsl key (gen + 1) esz 0 (n + m)))) :
    vstepC P s ⟨d, .app esz by_ x y, none⟩ K σ :=
  ⟨σ, Ent.refl σ, .inr (.inr (.inr ⟨rfl, esz, by_, x, y, key, gen, q, n, m, cs, ys, rfl, h1, h2, h3, h4, h5.1, h5.2, h6, k1, k2⟩))⟩
set_option maxHeartbeats 4000000 in
theorem in_ret (hS : SortsP) (m : Mir) (hg : gOk m) : PRet Tryz.prog 23 [.agg m.cells] (encL cE (runG m).out) := by
  have hG := okG_of hg.may
  have hN := hg.n60
  have hN1 := hG.pos
  have h30 := hg.l30
  have hul := univ_len hg
  have hus := univ_small hg
  have hN0 : ¬ ((m.code.length : Int) = 0) := by omega
  refine pret_intro_l fdg23 (by simp) ?_
  simp only [lcg23, VCA, simprocAttr, encL, MCA]
  refine callX_of (reach_ret m hg.ok) (.inl rfl) ?_
  simp only [VCA, simprocAttr, encL, MCA, hg.may, if_true, hN0]
  refine ⟨by omega, ?_⟩
  refine loop_vcg (ι := Nat × (Nat → Nat)) (fun y => stO [(1, .box m.cells), (4, .own 1 m.code.length ((out0 m y.1).flatMap cE)), (26, .val (encL MLocal.cells m.locals)), (27, .val (.int .i64 m.locals.length)), (28, .val (.int .i64 y.1))] y.2)
    (fun y => y.1 ≤ m.locals.length) (fun y => m.locals.length - y.1) (0, _) (Nat.zero_le _) (ent_of _ [] rfl rfl (by simp only [VCA, simprocAttr, encL, MCA, out0_z, lE_mk, lE_imv])) ?_
  rintro ⟨k, c⟩ hk
  have hk : k ≤ m.locals.length := hk
  simp only [VCA, simprocAttr, encL, MCA]
  refine condD_of (fun h => ?_) (fun h => ?_)
  · have hk' : k < m.locals.length := by omega
    have i1 : 0 ≤ (k : Int) ∧ (k : Int) < m.locals.length := by omega
    have i2 : InI64 ((k : Int) + 1) := by unfold InI64; omega
    simp only [VCA, simprocAttr, encL, MCA, hk', i1]
    cases b1 : m.locals[k].param <;> simp only [VCA, simprocAttr, encL, MCA, b1, i2]
    · have hl0 : 0 < (out0 m k).length := by rw [out0_len]; omega
      have hl1 := out0_len m k
      have hz : (0 : Int) < m.code.length := by omega
      have hz1 : 0 < m.code.length := hN1
      have hfs := foldA_srt (freeL m k) (l := []) List.Pairwise.nil
      have hfl := foldA_len (freeL m k) []
      have hfk := freeL_len m k
      simp only [List.length_nil] at hfl
      have hfx : ∀ x ∈ foldA [] (freeL m k), smallP x := by
        intro x hx
        rcases foldA_mem _ hx with hx | hx
        · cases hx
        · unfold smallP; rw [freeL_small m k x hx]; simp
      simp only [VCA, simprocAttr, encL, MCA, hz, hz1, hl1, ld_cE, out0_get, snap_encE, sok_encE, mp_setA, List.all_cons, List.all_nil, Bool.and_true, List.map_cons, List.map_nil]
      refine callX_of (add_ownE0 hS _ (k : Int) hfs (by omega) hfx) (.inl rfl) ?_
      simp only [VCA, simprocAttr, encL, MCA, hz, hz1, hl1, ld_cE, lE_set, lE_imv, lE_snap, lE_sok, lE_len, cells_encE, List.length_cons, List.length_nil, snap_encE, sok_encE, imv_encE, one_encE, out0_set hk' b1, i2]
      refine ⟨hN1, ?_⟩
      refine backTo_of (k + 1, _) hk' (by first | omega | (simp only []; omega)) (ent_of _ [] rfl rfl (by simp only [VCA, simprocAttr, encL, MCA, lE_imv]))
    · refine backTo_of (k + 1, _) hk' (by first | omega | (simp only []; omega)) (ent_of _ [] rfl rfl (by simp only [VCA, simprocAttr, encL, MCA, out0, freeL_yes hk' b1, lE_imv]))
  · have hk' : k = m.locals.length := by omega
    subst hk'
    clear h hk
    have hW0 := ws0_ok m hN1
    have hP0 : pot (univ m) m.code.length (ws0 m) ≤ 250000 := by
      have h1 := pot_le (U := univ m) hW0.ok
      have h2 : m.code.length * (univ m).length ≤ 60 * 2000 := Nat.mul_le_mul hN hul
      have h3 : (ws0 m).work.length = 1 := rfl
      omega
    have hc1 : (m.code.length : Int) ≤ 60 := by omega
    simp only [VCA, simprocAttr, encL, MCA]
    refine ⟨by omega, ?_⟩
    refine loop_vcg (ι := (WS × List Nat) × (Nat → Nat)) (fun y => stO [(1, .box m.cells), (4, .own 1 m.code.length (y.1.1.out.flatMap cE)), (7, .own 1 m.code.length (y.1.1.seen.flatMap cB)), (8, .que 1 y.1.2.length y.1.1.work.length ((ints (y.1.2 ++ y.1.1.work)).flatMap cI))] y.2)
      (fun y => WOk (univ m) m.code.length y.1.1 ∧ pot (univ m) m.code.length y.1.1 ≤ 250000 ∧ ∃ f, pot (univ m) m.code.length y.1.1 < f ∧ runS (afM m) (nx m) f y.1.1 = runG m) (fun y => pot (univ m) m.code.length y.1.1) ((ws0 m, []), _)
      ⟨hW0, hP0, _, Nat.lt_succ_self _, rfl⟩ (ent_of _ [] rfl rfl (by simp only [VCA, simprocAttr, encL, MCA, ws0, out0, List.nil_append, List.length_nil, List.length_cons, lE_imv, ints, List.map_cons, List.map_nil]; rfl)) ?_
    rintro ⟨⟨s, F⟩, c⟩ hk
    obtain ⟨hs, hpot, f, hf, hrun⟩ : WOk (univ m) m.code.length s ∧ pot (univ m) m.code.length s ≤ 250000 ∧ ∃ f, pot (univ m) m.code.length s < f ∧ runS (afM m) (nx m) f s = runG m := hk
    simp only [VCA, simprocAttr, encL, MCA]
    refine condD_of (fun h => ?_) (fun h => ?_)
    · cases hw : s.work with
      | nil => rw [hw] at h; simp at h
      | cons i w =>
        have hi : i < m.code.length := hs.work i (by rw [hw]; exact List.mem_cons_self ..)
        have his : i < s.seen.length := by rw [hs.ok.seen]; exact hi
        have hio : i < s.out.length := by rw [hs.ok.out]; exact hi
        have i1 : 0 ≤ (i : Int) ∧ (i : Int) < m.code.length := by omega
        have q0 : (0 : Int) < (w.length : Int) + 1 := by omega
        have q1 : (1 : Int) ≤ (w.length : Int) + 1 := by omega
        have q2 := que_ld F w i
        have q3 : ((w.length : Int) + 1).toNat - 1 = w.length := by omega
        have hle : i + 1 ≤ s.seen.length := his
        have hat : s.out[i] = s.at i := (at_eq hs.ok hi).symm
        obtain ⟨hma, hsa⟩ := hs.at_mem i
        have hla : (s.at i).length ≤ 2000 := Nat.le_trans (srt_len hsa hma) hul
        have hxa : ∀ y ∈ s.at i, smallP y := fun y hy => hus y (hma y hy)
        have hxm : m.code[i] ∈ m.code := List.getElem_mem hi
        have hxo := hg.ops _ hxm
        have haf : afM m i (s.at i) = aftS (s.at i) m.code[i] := by unfold afM; rw [List.getElem?_eq_getElem hi]
        simp only [VCA, simprocAttr, encL, MCA, hw, List.length_cons, q0, q1, q2, q3, i1, hi, hle, his, hio, ld_cE, lb_set his, hat, snap_encE, sok_encE]
        refine callV_of (aft_retE hS (s.at i) m.code[i] hsa (by omega) hxa (by omega) (hg.smo _ hxm) (hg.smt _ hxm)) (.inl rfl) ?_
        rw [← haf]
        have hbm := afM_mem m i _ hma
        have hbs : Srt (afM m i (s.at i)) := by rw [haf]; exact aft_srt _ hsa
        generalize hb : afM m i (s.at i) = b at hbm hbs
        have hbl : b.length ≤ 2000 := Nat.le_trans (srt_len hbs hbm) hul
        have hnx : m.code[i].next = ints (nx m i) := by
          have hy := (hG.nx _ hxm).2
          simp only [nx, List.getElem?_eq_getElem hi, ints, List.map_map]
          conv => lhs; rw [← List.map_id m.code[i].next]
          refine List.map_congr_left fun y h => ?_
          have := hy y h
          simp only [id, Function.comp_apply]; omega
        have hnl : (nx m i).length ≤ 2 := by
          have := (hG.nx _ hxm).1
          rw [hnx, ints_len] at this; exact this
        have hnn : ∀ n ∈ nx m i, n < m.code.length := by
          intro n hn
          have := (hG.nx _ hxm).2 n (by rw [hnx]; exact List.mem_map.2 ⟨n, hn, rfl⟩)
          omega
        have hs1 := hs.pop hw
        have hp1 := pop_pot (U := univ m) hs.ok hw hi
        simp only [VCA, simprocAttr, encL, MCA, hw, i1, hi, hnx, ints_len]
        refine loop_vcg (ι := (Nat × WS × List Nat) × (Nat → Nat)) (fun y => stO [(1, .box m.cells), (4, .own 1 m.code.length (y.1.2.1.out.flatMap cE)), (7, .own 1 m.code.length (y.1.2.1.seen.flatMap cB)), (8, .que 1 y.1.2.2.length y.1.2.1.work.length ((ints (y.1.2.2 ++ y.1.2.1.work)).flatMap cI)), (10, .val (encL MPath.cells b)), (76, .val (encL cI (ints (nx m i)))), (77, .val (.int .i64 (nx m i).length)), (78, .val (.int .i64 y.1.1))] y.2)
          (fun y => y.1.1 ≤ (nx m i).length ∧ y.1.2.1 = ((nx m i).take y.1.1).foldl (pushS b) ⟨s.seen.set i true, w, s.out⟩) (fun y => (nx m i).length - y.1.1) ((0, ⟨s.seen.set i true, w, s.out⟩, F ++ [i]), _)
          ⟨Nat.zero_le _, rfl⟩ (ent_of _ [] rfl rfl (by simp only [VCA, simprocAttr, encL, MCA, ld_cE, lE_set, lE_imv, lE_snap, lE_sok, lE_len, cells_encE, List.length_cons, List.length_nil, snap_encE, sok_encE, imv_encE, one_encE, ints_len, List.append_assoc, List.cons_append, List.nil_append, List.length_append])) ?_
        rintro ⟨⟨k, s', G⟩, c⟩ hk
        obtain ⟨hk, hs'⟩ : k ≤ (nx m i).length ∧ s' = ((nx m i).take k).foldl (pushS b) ⟨s.seen.set i true, w, s.out⟩ := hk
        have hsk : WOk (univ m) m.code.length s' := by rw [hs']; exact WOk.pushes hbm _ hs1 fun n hn => hnn n (List.mem_of_mem_take hn)
        have hpk : pot (univ m) m.code.length s' < pot (univ m) m.code.length s := by
          rw [hs']
          exact Nat.lt_of_le_of_lt (push_all_pot hbm _ hs1.ok fun n hn => hnn n (List.mem_of_mem_take hn)).1 hp1
        have hwk := work_pot (U := univ m) (N := m.code.length) s'
        simp only [VCA, simprocAttr, encL, MCA]
        refine condD_of (fun h => ?_) (fun h => ?_)
        · have hk' : k < (nx m i).length := by omega
          have j1 : 0 ≤ (k : Int) ∧ (k : Int) < (nx m i).length := by omega
          have j2 : InI64 ((k : Int) + 1) := by unfold InI64; omega
          have hstep : ((nx m i).take (k + 1)).foldl (pushS b) ⟨s.seen.set i true, w, s.out⟩ = pushS b s' (nx m i)[k] := by
            rw [List.take_succ_eq_append_getElem hk', List.foldl_append, ← hs']; rfl
          have hn : (nx m i)[k] < m.code.length := hnn _ (List.getElem_mem hk')
          simp only [VCA, simprocAttr, encL, MCA, ints_len, hk', j1, ints_get]
          generalize (nx m i)[k] = n at hstep hn
          have hnw : n < s'.seen.length := by rw [hsk.ok.seen]; exact hn
          have hno : n < s'.out.length := by rw [hsk.ok.out]; exact hn
          have n1 : 0 ≤ (n : Int) ∧ (n : Int) < m.code.length := by omega
          have hat : s'.out[n] = s'.at n := (at_eq hsk.ok hn).symm
          obtain ⟨hma, hsa⟩ := hsk.at_mem n
          simp only [VCA, simprocAttr, encL, MCA, n1, hno, hnw, ld_cE, lE_set, lE_imv, lE_snap, lE_sok, lE_len, cells_encE, List.length_cons, List.length_nil, snap_encE, sok_encE, imv_encE, one_encE, hat]
          refine loop_vcg (ι := Nat × (Nat → Nat)) (fun y => stO [(1, .box m.cells), (4, .own 1 m.code.length (s'.out.flatMap cE)), (7, .own 1 m.code.length (s'.seen.flatMap cB)), (8, .que 1 G.length s'.work.length ((ints (G ++ s'.work)).flatMap cI)), (10, .val (encL MPath.cells b)), (12, .val (.int .i64 n)), (13, .val (encE (foldA (s'.at n) (b.take y.1)))), (76, .val (encL cI (ints (nx m i)))), (77, .val (.int .i64 (nx m i).length)), (78, .val (.int .i64 k)),
              (86, .val (encL MPath.cells b)), (87, .val (.int .i64 b.length)), (88, .val (.int .i64 y.1))] y.2)
            (fun y => y.1 ≤ b.length) (fun y => b.length - y.1) (0, _) (Nat.zero_le _) (ent_of _ [] rfl rfl (by simp only [VCA, simprocAttr, encL, MCA, ld_cE, lE_set, lE_imv, lE_snap, lE_sok, lE_len, cells_encE, List.length_cons, List.length_nil, snap_encE, sok_encE, imv_encE, one_encE, List.take_zero, foldA, List.foldl_nil, ints_len])) ?_
          rintro ⟨j, c⟩ hj
          have hj : j ≤ b.length := hj
          simp only [VCA, simprocAttr, encL, MCA]
          have hfm : ∀ p ∈ foldA (s'.at n) (b.take j), p ∈ univ m := by
            intro p hp
            rcases foldA_mem _ hp with hp | hp
            · exact hma p hp
            · exact hbm p (List.mem_of_mem_take hp)
          have hfs := foldA_srt (b.take j) hsa
          have hfl : (foldA (s'.at n) (b.take j)).length ≤ 2000 := Nat.le_trans (srt_len hfs hfm) hul
          refine condD_of (fun h => ?_) (fun h => ?_)
          · have hj' : j < b.length := by omega
            have k1 : 0 ≤ (j : Int) ∧ (j : Int) < b.length := by omega
            have k2 : InI64 ((j : Int) + 1) := by unfold InI64; omega
            simp only [VCA, simprocAttr, encL, MCA, hj', k1, mp_set0, mp_ld, ld_cE, lE_set, lE_imv, lE_snap, lE_sok, lE_len, cells_encE, List.length_cons, List.length_nil, snap_encE, sok_encE, imv_encE, one_encE]
            refine callX_of (add_ownE hS _ b[j] hfs (by omega) (hus _ (hbm _ (List.getElem_mem hj'))) fun x hx => hus x (hfm x hx)) (.inl rfl) ?_
            simp only [VCA, simprocAttr, encL, MCA, k2]
            refine backTo_of (j + 1, _) hj' (by first | omega | (simp only []; omega)) (ent_of _ [] rfl rfl (by simp only [VCA, simprocAttr, encL, MCA, ld_cE, lE_set, lE_imv, lE_snap, lE_sok, lE_len, cells_encE, List.length_cons, List.length_nil, snap_encE, sok_encE, imv_encE, one_encE, ints_len, foldA_take hj']))
          · have hj' : j = b.length := by omega
            subst hj'
            rw [List.take_length] at hfm hfs hfl
            simp only [VCA, simprocAttr, encL, MCA, List.take_length, n1, hno, hnw, ld_cE, lE_set, lE_imv, lE_snap, lE_sok, lE_len, cells_encE, List.length_cons, List.length_nil, snap_encE, sok_encE, imv_encE, one_encE, hat]
            have hhas : ((ints s'.work).any fun x => decide ((n : Int) = x)) = s'.work.contains n := by
              rw [Bool.eq_iff_iff, List.any_eq_true]
              simp only [ints, List.mem_map, decide_eq_true_eq, List.contains_iff_mem]
              constructor
              · rintro ⟨x, ⟨y, hy, rfl⟩, h⟩
                have : n = y := by omega
                rw [this]; exact hy
              · exact fun h => ⟨_, ⟨n, h, rfl⟩, rfl⟩
            have hpu : pot (univ m) m.code.length (pushS b s' n) ≤ pot (univ m) m.code.length s' := push_pot hsk.ok hn hbm
            have hhr : PRet Tryz.prog 48 [.sl s'.work.length ((ints s'.work).flatMap cI), .int .i64 n] (.bool (s'.work.contains n)) := by
              have := hasI_ret (ints s'.work) n (by rw [ints_len]; omega)
              rw [encL, ints_len, hhas] at this; exact this
            have hle2 : n + 1 ≤ s'.out.length := hno
            have gq : G.length + s'.work.length ≤ (G ++ s'.work).length := by rw [List.length_append]; exact Nat.le_refl _
            have gq2 : (ints s'.work).length ≤ s'.work.length := by rw [ints_len]; exact Nat.le_refl _
            cases b1 : s'.seen[n] <;> simp only [VCA, simprocAttr, encL, MCA, b1, n1, hno, hnw, ld_cE, lE_set, lE_imv, lE_snap, lE_sok, lE_len, cells_encE, List.length_cons, List.length_nil, snap_encE, sok_encE, imv_encE, one_encE, hat]
            · have e := push_yes (b := b) hsk.ok hn (.inl b1)
              simp only [VCA, simprocAttr, encL, MCA, hle2, gq, que_drop, li_take gq2, li_snap, li_sok, ints_len]
              refine callX_of hhr (.inr rfl) ?_
              cases b2 : s'.work.contains n <;> simp only [VCA, simprocAttr, encL, MCA, b2, hle2, gq, que_drop, li_take gq2, li_snap, li_sok, ints_len]
              · rw [b2] at e
                simp only [Bool.false_eq_true, if_false] at e
                simp only [VCA, simprocAttr, encL, MCA, vcg_regc, vopsC_z, vopsC_2, vopsC_nil]
                refine vstepC_app (2199023255560, 0) 0 G.length s'.work.length 1 ((ints (G ++ s'.work)).flatMap cI) [.int .i64 n] (by simp only [VCA, simprocAttr, encL, MCA]) (by simp only [VCA, simprocAttr, encL, MCA]) (by rw [li_len, ints_len, List.length_append, Nat.mul_one, Nat.mul_one]) (by simp only [VCA, simprocAttr, encL, MCA, List.length_cons, List.length_nil, Nat.mul_one, Nat.zero_add, if_true]) ⟨by omega, by omega⟩ rfl ?_ ?_
                · simp only [VCA, simprocAttr, encL, MCA, vopsC_z, vopsC_nil]
                  refine ⟨j2, backTo_of ((k + 1, pushS b s' n, G), _) ⟨hk', hstep.symm⟩ (by first | omega | (simp only []; omega)) (ent_of _ [] rfl rfl (by simp only [VCA, simprocAttr, encL, MCA, e, lE_imv, ints_len, ints_app, List.append_assoc, List.length_append, List.length_cons, List.length_nil]))⟩
                · simp only [VCA, simprocAttr, encL, MCA, vopsC_z, vopsC_nil, que_drop]
                  refine ⟨j2, backTo_of ((k + 1, pushS b s' n, []), _) ⟨hk', hstep.symm⟩ (by first | omega | (simp only []; omega)) (ent_of _ [] rfl rfl (by simp only [VCA, simprocAttr, encL, MCA, e, lE_imv, ints_len, ints_app, List.nil_append, List.append_assoc, List.length_append, List.length_cons, List.length_nil]))⟩
              · rw [b2] at e
                simp only [if_true] at e
                refine ⟨j2, backTo_of ((k + 1, pushS b s' n, G), _) ⟨hk', hstep.symm⟩ (by first | omega | (simp only []; omega)) (ent_of _ [] rfl rfl (by simp only [VCA, simprocAttr, encL, MCA, e, lE_imv, ints_len]))⟩
            · refine callX_of (eqf_retE (foldA (s'.at n) b) (s'.at n) (by omega) (fun x hx => hus x (hfm x hx)) (fun x hx => hus x (hma x hx))) (.inr rfl) ?_
              cases b3 : decide (foldA (s'.at n) b = s'.at n) <;> simp only [VCA, simprocAttr, encL, MCA, b3]
              · have e := push_yes (b := b) hsk.ok hn (.inr (of_decide_eq_false b3))
                simp only [VCA, simprocAttr, encL, MCA, n1, hno, hnw, ld_cE, lE_set, lE_imv, lE_snap, lE_sok, lE_len, cells_encE, List.length_cons, List.length_nil, snap_encE, sok_encE, imv_encE, one_encE, hat, hle2, gq, que_drop, li_take gq2, li_snap, li_sok, ints_len]
                refine callX_of hhr (.inr rfl) ?_
                cases b2 : s'.work.contains n <;> simp only [VCA, simprocAttr, encL, MCA, b2, hle2, gq, que_drop, li_take gq2, li_snap, li_sok, ints_len]
                · rw [b2] at e
                  simp only [Bool.false_eq_true, if_false] at e
                  simp only [VCA, simprocAttr, encL, MCA, vcg_regc, vopsC_z, vopsC_2, vopsC_nil]
                  refine vstepC_app (2199023255560, 0) 0 G.length s'.work.length 1 ((ints (G ++ s'.work)).flatMap cI) [.int .i64 n] (by simp only [VCA, simprocAttr, encL, MCA]) (by simp only [VCA, simprocAttr, encL, MCA]) (by rw [li_len, ints_len, List.length_append, Nat.mul_one, Nat.mul_one]) (by simp only [VCA, simprocAttr, encL, MCA, List.length_cons, List.length_nil, Nat.mul_one, Nat.zero_add, if_true]) ⟨by omega, by omega⟩ rfl ?_ ?_
                  · simp only [VCA, simprocAttr, encL, MCA, vopsC_z, vopsC_nil]
                    refine ⟨j2, backTo_of ((k + 1, pushS b s' n, G), _) ⟨hk', hstep.symm⟩ (by first | omega | (simp only []; omega)) (ent_of _ [] rfl rfl (by simp only [VCA, simprocAttr, encL, MCA, e, lE_imv, ints_len, ints_app, List.append_assoc, List.length_append, List.length_cons, List.length_nil]))⟩
                  · simp only [VCA, simprocAttr, encL, MCA, vopsC_z, vopsC_nil, que_drop]
                    refine ⟨j2, backTo_of ((k + 1, pushS b s' n, []), _) ⟨hk', hstep.symm⟩ (by first | omega | (simp only []; omega)) (ent_of _ [] rfl rfl (by simp only [VCA, simprocAttr, encL, MCA, e, lE_imv, ints_len, ints_app, List.nil_append, List.append_assoc, List.length_append, List.length_cons, List.length_nil]))⟩
                · rw [b2] at e
                  simp only [if_true] at e
                  refine ⟨j2, backTo_of ((k + 1, pushS b s' n, G), _) ⟨hk', hstep.symm⟩ (by first | omega | (simp only []; omega)) (ent_of _ [] rfl rfl (by simp only [VCA, simprocAttr, encL, MCA, e, lE_imv, ints_len]))⟩
              · have e := push_no (b := b) hsk.ok hn b1 (of_decide_eq_true b3)
                rw [e] at hstep
                refine ⟨j2, backTo_of ((k + 1, s', G), _) ⟨hk', hstep.symm⟩ (by first | omega | (simp only []; omega)) (ent_of _ [] rfl rfl (by simp only [VCA, simprocAttr, encL, MCA, lE_imv, ints_len]))⟩
        · have hk' : k = (nx m i).length := by omega
          subst hk'
          rw [List.take_length] at hs'
          have hst : stepS (afM m) (nx m) s = s' := by rw [stepS, hw]; simp only []; rw [hb, hs']
          have hf1 : ∃ f', f = f' + 1 := ⟨f - 1, by omega⟩
          obtain ⟨f', rfl⟩ := hf1
          rw [runS, if_neg (by rw [hw]; exact List.cons_ne_nil _ _), hst] at hrun
          simp only [VCA, simprocAttr, encL, MCA]
          refine backTo_of ((s', G), _) ⟨hsk, Nat.le_trans (Nat.le_of_lt hpk) hpot, f', Nat.lt_of_lt_of_le hpk (Nat.le_of_lt_succ hf), hrun⟩ hpk (ent_of _ [] rfl rfl (by simp only [VCA, simprocAttr, encL, MCA, lE_imv, ints_len]))
    · have hw : s.work = [] := by
        cases hw : s.work with
        | nil => rfl
        | cons i w => rw [hw] at h; simp at h
      have hf1 : ∃ f', f = f' + 1 := ⟨f - 1, by omega⟩
      obtain ⟨f', rfl⟩ := hf1
      rw [runS, if_pos hw] at hrun
      have hol := hs.ok.out
      simp only [VCA, simprocAttr, encL, MCA, ← hrun, hol, lE_take (Nat.le_of_eq hol), lE_snap, lE_len]
end Go.Proofs.YtlkdcgfjmhjjpaaGreat

set_option linter.unusedSimpArgs false
set_option linter.unusedVariables false
namespace Go.Lg
open Go Go.RowKit

theorem flatMap_at {α β : Type} {f : α → List β} {k : Nat} (k0 : 0 < k) (hk : ∀ x, (f x).length = k) : ∀ (l : List α) (j : Nat), (l.flatMap f)[j]? = (l[j / k]?).bind fun x => (f x)[j % k]?
  | [], j => by simp
  | x :: r, j => by
    rw [List.flatMap_cons, List.getElem?_append, hk x]
    by_cases h : j < k
    · rw [if_pos h, Nat.div_eq_of_lt h, Nat.mod_eq_of_lt h]; rfl
    · rw [if_neg h, flatMap_at k0 hk r (j - k)]
      obtain ⟨m, rfl⟩ : ∃ m, j = m + k := ⟨j - k, by omega⟩
      rw [Nat.add_sub_cancel, Nat.add_div_right _ k0, Nat.add_mod_right]; rfl
theorem flatMap_size {α β : Type} {f : α → List β} {k : Nat} (hk : ∀ x, (f x).length = k) : ∀ l : List α, (l.flatMap f).length = l.length * k
  | [] => by simp
  | x :: r => by rw [List.flatMap_cons, List.length_append, hk, flatMap_size hk r, List.length_cons, Nat.add_mul, Nat.one_mul, Nat.add_comm]

theorem grow_of_below {W w' : World} (h : BelowD W.heap.size W w') : ∃ q os', w' = Go.Sort.grow (W.drewN q) os' := by
  refine ⟨w'.drawn - W.drawn, w'.heap.extract W.heap.size w'.heap.size, ?_⟩
  have hh : w'.heap = W.heap ++ w'.heap.extract W.heap.size w'.heap.size := by
    apply Array.ext_getElem?
    intro j
    rw [Array.getElem?_append]
    by_cases hj : j < W.heap.size
    · rw [if_pos hj, h.block j hj]
    · rw [if_neg hj, Array.getElem?_extract]
      split
      · congr 1; omega
      · rw [Array.getElem?_eq_none (by omega)]
  have h1 := h.os; have h2 := h.tape; have h3 := h.output; have h4 := h.drawn
  cases w' with
  | mk hp tp dr o out =>
    simp only at h1 h2 h3 h4 hh
    subst h1 h2 h3
    unfold Go.Sort.grow World.drewN
    simp only [World.mk.injEq, true_and, and_true]
    exact ⟨hh, by omega⟩

section
variable {P : Program} {ρ : Go.Shelf.Ren} {α : Type}

/-- An element as it lies: its cells, and what they stand for. -/
structure SElt (imm : Nat → Prop) (w : World) (enc : α → List V) (k : Nat) where
  cs : List Value
  x : α
  len : cs.length = k
  one : ∀ v ∈ cs, v.oneCell' = true
  rep : ∀ (j : Nat) (v : Value) (c : V), cs[j]? = some v → (enc x)[j]? = some c → RepI imm w v c

set_option maxHeartbeats 4000000 in
theorem sortFunc_mut (L : Go.Proofs.SlLaysF0.n6 P ρ) {k : Nat} (k0 : 0 < k) (aE : ∀ w, (isAgg (ρ.t 24)).run P w = .ok true w) (zE : ∀ w, (Go.sizeOf (ρ.t 24)).run P w = .ok k w)
    (enc : α → List V) (hk : ∀ x, (enc x).length = k) (hone : ∀ x, ∀ v ∈ enc x, v.one = true) (cf : α → α → Int) (hO : Go.Sort.SWO (Go.Proofs.ltOf cf)) (g : FuncId) (cap : List V) (hen : entersOk P (ρ.f 6) = true) (hg : entersOk P g = true)
    (hcmp : ∀ x y, PRet P g (.agg (enc x) :: .agg (enc y) :: cap) (.int .i64 (cf x y))) (l l' : List α) (hl : l.length < 4611686018427387904)
    (hu : ∀ l2 : List α, l2.Perm l → l2.Pairwise (fun x y => Go.Proofs.ltOf cf y x = false) → l2 = l') :
    PMut P (ρ.f 6) [.fn g cap] k l.length (l.flatMap enc) none (l'.flatMap enc) := by
  refine ⟨hen, fun imm w vs A c blk himm hvs hrv hnc hA hblk hgl => ?_⟩
  obtain ⟨fv, rfl⟩ : ∃ v, vs = #[v] := Array.size_eq_one_iff.1 hvs
  have hf := hrv 0 fv _ rfl rfl
  by_cases h0 : l.length = 0
  · obtain rfl := List.eq_nil_of_length_eq_zero h0
    obtain rfl : [] = l' := hu [] (.refl _) .nil
    refine (Go.Proofs.AnyF.slices_SortFunc_none (P := P) (ρ := ρ) { L with } A c fv w).mono ?_
    rintro e w' ⟨rfl, rfl⟩
    refine ⟨_, rfl, fun m h => (by cases h), .refl _ _ _, ?_⟩
    cases blk with
    | none => rfl
    | some b => exact hblk.2.2
  cases blk with
  | none =>
    have h1 := congrArg List.length hblk.1
    rw [flatMap_size hk] at h1
    simp only [List.length_nil] at h1
    rcases Nat.mul_eq_zero.1 h1 with h | h
    · exact absurd h h0
    · omega
  | some b =>
    obtain ⟨h1, h2, us, T, fz, q1, q2, q3, q4, q5⟩ := hblk
    rw [hA b rfl (by omega)]
    rw [flatMap_size hk] at q3
    obtain ⟨cb, rfl, hcs, hcr⟩ : ∃ cb : Array Value, fv = .func (.func g) #[] cb ∧ cb.size = cap.length ∧ ∀ (j : Nat) (v : Value) (c : V), cb[j]? = some v → cap[j]? = some c → RepI imm w v c := by
      cases hf with
      | fn _ cb _ hs hj => exact ⟨cb, rfl, hs, hj⟩
    -- the elements
    have hx : ∀ i : Fin l.length, ∀ (j : Nat) (v : Value) (c : V), ((us.toList.drop (i * k)).take k)[j]? = some v → (enc l[i])[j]? = some c → RepI imm w v c := by
      intro i j v c hv hc
      have hj : j < k := by
        have := (List.getElem?_eq_some_iff.1 hc).1
        rwa [hk] at this
      rw [List.getElem?_take, if_pos hj, List.getElem?_drop, Array.getElem?_toList] at hv
      refine q5 (i * k + j) v c hv ?_
      rw [flatMap_at k0 hk, Nat.mul_comm i.1 k, Nat.mul_add_div k0, Nat.div_eq_of_lt hj, Nat.mul_add_mod, Nat.mod_eq_of_lt hj, Nat.add_zero, List.getElem?_eq_getElem i.2]
      exact hc
    have hln : ∀ i : Fin l.length, ((us.toList.drop (i * k)).take k).length = k := by
      intro i
      have : (i.1 + 1) * k ≤ l.length * k := Nat.mul_le_mul_right k i.2
      rw [Nat.add_mul, Nat.one_mul] at this
      rw [List.length_take, List.length_drop, Array.length_toList]; omega
    let mk : Fin l.length → SElt imm w enc k := fun i => ⟨(us.toList.drop (i * k)).take k, l[i], hln i, fun v hv => by
      obtain ⟨j, hj, rfl⟩ := List.getElem_of_mem hv
      have hj2 : j < (enc l[i]).length := by rw [hk]; rw [hln] at hj; exact hj
      exact (Rep.imm _ _ (hx i j _ _ (List.getElem?_eq_getElem hj) (List.getElem?_eq_getElem hj2)) : Rep ⟨imm, fun _ _ => none⟩ w _ _).oneV (hone _ _ (List.getElem_mem hj2)), hx i⟩
    haveI : Inhabited (SElt imm w enc k) := ⟨mk ⟨0, by omega⟩⟩
    let d : Array (SElt imm w enc k) := Array.ofFn mk
    have hds : d.size = l.length := Array.size_ofFn
    have hdl : d.toList.map SElt.x = l := by
      apply List.ext_getElem?
      intro j
      rw [List.getElem?_map, Array.getElem?_toList, Array.getElem?_ofFn]
      by_cases hj : j < l.length
      · rw [dif_pos hj, List.getElem?_eq_getElem hj]; rfl
      · rw [dif_neg hj, List.getElem?_eq_none (by omega)]; rfl
    have hwf : ∀ W : World, (∀ j, imm j → W.heap[j]? = w.heap[j]?) → ∀ v x, RepI imm w v x → RepI imm W v x := fun W hW v x h => h.mono (fun _ h => h) hW
    have hworld : ∀ (m : Nat) (dk : Array (SElt imm w enc k)) (os : Array Obj), (∀ j, j < w.heap.size → j ≠ b → (Go.Proofs.sortWorldK SElt.cs k w b 0 m dk os).heap[j]? = w.heap[j]?) ∧ w.heap.size ≤ (Go.Proofs.sortWorldK SElt.cs k w b 0 m dk os).heap.size := by
      intro m dk os
      refine ⟨fun j hj hb => ?_, ?_⟩
      · simp only [Go.Proofs.sortWorldK]
        rw [Go.Sort.heap_grow_old _ _ (by simpa [Go.Sort.putRowK, Go.Sort.putRow, Go.Sort.mapBlock, Go.Sort.ahead] using hj)]
        simp [Go.Sort.putRowK, Go.Sort.putRow, Go.Sort.mapBlock, Array.getElem?_modify, Ne.symm hb, Go.Sort.ahead]
      · simp [Go.Proofs.sortWorldK, Go.Sort.grow, Go.Sort.putRowK, Go.Sort.putRow, Go.Sort.mapBlock, Go.Sort.ahead]
    have hcl : Go.Proofs.CmpLays P g cb (SElt.cs (imm := imm) (w := w) (enc := enc) (k := k)) k (fun x y => cf x.x y.x) b 0 d.size w := by
      intro m os dk _ x y
      have hW := hworld m dk os
      have hi : ∀ j, imm j → (Go.Proofs.sortWorldK SElt.cs k w b 0 m dk os).heap[j]? = w.heap[j]? := fun j hj => hW.1 j (himm.1 j hj) (fun e => h1 (e ▸ hj))
      refine ((hcmp x.x y.x).2 imm _ (#[.agg x.cs.toArray, .agg y.cs.toArray] ++ cb) ⟨fun j hj => Nat.lt_of_lt_of_le (himm.1 j hj) hW.2, fun p hp => ⟨Nat.lt_of_lt_of_le (himm.2 p hp).1 hW.2, gsOk_heap (hW.1 _ (himm.2 p hp).1 (fun e => hgl p hp (by rw [e]))) (himm.2 p hp).2⟩⟩
        (by simp [hcs]; omega) (fun j u c hu hc => ?_)).mono ?_
      · have ag : ∀ z : SElt imm w enc k, RepI imm (Go.Proofs.sortWorldK SElt.cs k w b 0 m dk os) (.agg z.cs.toArray) (.agg (enc z.x)) := fun z =>
          .agg _ _ (by rw [List.size_toArray, z.len, hk]) fun j v c hv hc => hwf _ hi _ _ (z.rep j v c (by simpa using hv) hc)
        match j, hu, hc with
        | 0, hu, hc => simp [Array.getElem?_append] at hu hc; subst hu hc; exact ag x
        | 1, hu, hc => simp [Array.getElem?_append] at hu hc; subst hu hc; exact ag y
        | j + 2, hu, hc =>
          rw [Array.getElem?_append, if_neg (by simp)] at hu
          exact hwf _ hi _ _ (hcr j u c (by simpa using hu) (by simpa using hc))
      · rintro e w' ⟨v, imm', rfl, hr, hb, _, _⟩
        cases hr
        exact ⟨rfl, grow_of_below hb⟩
    have hSW : Go.Sort.SWO (Go.Proofs.ltOf fun x y : SElt imm w enc k => cf x.x y.x) :=
      ⟨fun x => hO.irrefl x.x, fun x y z => hO.trans x.x y.x z.x, fun x y z => hO.ntrans x.x y.x z.x⟩
    have hH : Go.Sort.HoldsK SElt.cs k w b 0 d := by
      intro j hj
      rw [Go.Sort.size_flatK, hds] at hj
      have hju : j < us.size := by omega
      have hjk : j / k < l.length := (Nat.div_lt_iff_lt_mul k0).2 hj
      have hm : j % k < k := Nat.mod_lt _ k0
      have hd1 : d[j / k]! = mk ⟨j / k, hjk⟩ := by
        rw [getElem!_pos d (j / k) (by omega)]
        exact Array.getElem_ofFn _
      rw [Nat.zero_add, Go.Sort.get_flatK _ _ _ _ (by rw [hds]; exact hj), hd1]
      refine ⟨?_, frozen_at q1 (q2.1 j hju)⟩
      rw [cell_at q1, Array.getElem?_eq_getElem hju]
      show some us[j] = some (((us.toList.drop (j / k * k)).take k)[j % k]!)
      rw [getElem!_pos _ (j % k) (by rw [hln ⟨j / k, hjk⟩]; exact hm), List.getElem_take, List.getElem_drop, Array.getElem_toList]
      congr 2
      rw [Nat.mul_comm, Nat.div_add_mod]
    rw [← hds]
    refine (Go.Proofs.AnyQ.slices_SortFunc L k aE zE SElt.cs (fun x => x.len) (fun x v hv => x.one v hv) (fun x y => cf x.x y.x) hSW g cb b 0 c d w (fun args w => callFunc_run hg) hcl hH h2 (by rw [hds]; exact hl)).mono ?_
    rintro e w' ⟨rfl, d', n, os, hp, hs, rfl⟩
    have hds' : d'.size = l.length := hp.1.trans hds
    have hl' : d'.toList.map SElt.x = l' := by
      refine hu _ ?_ ?_
      · rw [← hdl]
        have h3 := hp.2.2
        rw [Array.extract_eq_self_of_le (by rw [hp.1]; exact Nat.le_refl _), Array.extract_eq_self_of_le (Nat.le_refl _)] at h3
        exact h3.map _
      · rw [List.pairwise_iff_getElem]
        intro i j hi hj hij
        have hi' : i < d'.size := by simpa using hi
        have hj' : j < d'.size := by simpa using hj
        have := hs i j (Nat.zero_le _) hij (by rw [hds]; rwa [hds'] at hj')
        rw [getElem!_pos d' i hi', getElem!_pos d' j hj'] at this
        have h9 : Go.Proofs.ltOf cf (d'[j]'hj').x (d'[i]'hi').x = false := this
        simpa using h9
    have hW := hworld n d' os
    have hi : ∀ j, imm j → (Go.Proofs.sortWorldK SElt.cs k w b 0 n d' os).heap[j]? = w.heap[j]? := fun j hj => hW.1 j (himm.1 j hj) (fun e => h1 (e ▸ hj))
    have hll : l'.length = l.length := by rw [← hl', List.length_map, Array.length_toList, hds']
    refine ⟨_, rfl, fun m h => (by cases h), ⟨rfl, rfl, rfl, hW.2, fun j hj hne => hW.1 j hj (fun e => hne (by rw [e])), Nat.le_add_right _ _⟩, Go.Sort.putCells id 0 (Go.Sort.flatK SElt.cs k d') us, T, fz, ?_, ?_, ?_, ?_, ?_⟩
    · simp only [Go.Proofs.sortWorldK]
      rw [Go.Sort.heap_grow_old _ _ (by simpa [Go.Sort.putRowK, Go.Sort.putRow, Go.Sort.mapBlock, Go.Sort.ahead] using h2)]
      simp [Go.Sort.putRowK, Go.Sort.putRow, Go.Sort.mapBlock, Array.getElem?_modify, Go.Sort.ahead, q1, Go.Sort.onCells]
    · rw [show (Go.Sort.putCells id 0 (Go.Sort.flatK SElt.cs k d') us).size = us.size by simp [Go.Sort.putCells]]; exact q2
    · rw [show (Go.Sort.putCells id 0 (Go.Sort.flatK SElt.cs k d') us).size = us.size by simp [Go.Sort.putCells], flatMap_size hk, hll]; exact q3
    · rw [show (Go.Sort.putCells id 0 (Go.Sort.flatK SElt.cs k d') us).size = us.size by simp [Go.Sort.putCells]]; exact q4
    · intro j u x hu hx
      have hj : j < l.length * k := by
        have := (List.getElem?_eq_some_iff.1 hx).1
        rwa [flatMap_size hk, hll] at this
      have hjk : j / k < l.length := (Nat.div_lt_iff_lt_mul k0).2 hj
      have hm : j % k < k := Nat.mod_lt _ k0
      simp only [Go.Sort.putCells, Array.getElem?_mapIdx, Option.map_eq_some_iff] at hu
      obtain ⟨v, hv, rfl⟩ := hu
      rw [if_pos ⟨Nat.zero_le _, by rw [Go.Sort.size_flatK, hds', Nat.zero_add]; exact hj⟩, Nat.sub_zero, Go.Sort.get_flatK _ _ _ _ (by rw [hds']; exact hj), getElem!_pos d' (j / k) (by rw [hds']; exact hjk)]
      rw [flatMap_at k0 hk, ← hl', List.getElem?_map, Array.getElem?_toList, Array.getElem?_eq_getElem (by rw [hds']; exact hjk)] at hx
      generalize d'[j / k]'(by rw [hds']; exact hjk) = z at hx ⊢
      refine hwf _ hi _ _ (z.rep (j % k) _ x ?_ (by simpa using hx))
      rw [id, getElem!_pos _ (j % k) (by rw [z.len]; exact hm)]
      exact List.getElem?_eq_getElem _
end
end Go.Lg

namespace Go.Proofs
open Go.Shelf
def Tryz.sortP_ren : Go.Shelf.Ren := ⟨fun | 6 => 59 | 15 => 70 | 14 => 72 | 28 => 86 | 29 => 87 | 20 => 88 | 21 => 89 | 22 => 90 | 23 => 91 | 24 => 92 | 25 => 93 | 26 => 94 | 27 => 95 | 46 => 108 | 47 => 104 | 48 => 105 | 49 => 109 | 50 => 110 | 57 => 118 | n => n, fun | 22 => 22 | 24 => 25 | 25 => 88 | 3 => 3 | 39 => 95 | 0 => 0 | 53 => 109 | 55 => 111 | 4 => 4 | 46 => 102 | 45 => 101 | 50 => 106 | 5 => 5 | 9 => 9 | 66 => 122 | 70 => 126 | 76 => 135 | 77 => 136 | n => n, fun | n => n⟩
theorem Tryz.sortP : Go.Proofs.SlLaysF0.n6 Tryz.prog Tryz.sortP_ren := {
  mixed := by kernel_rfl
  f6 := ⟨Tryz.f59.name, by decide, Tryz.func59.trans (congrArg some (by kernel_rfl))⟩
  f14 := ⟨Tryz.f72.name, by decide, Tryz.func72.trans (congrArg some (by kernel_rfl))⟩
  f15 := Tryz.func70.trans (congrArg some (by kernel_rfl))
  f20 := ⟨Tryz.f88.name, by decide, Tryz.func88.trans (congrArg some (by kernel_rfl))⟩
  f21 := ⟨Tryz.f89.name, by decide, Tryz.func89.trans (congrArg some (by kernel_rfl))⟩
  f22 := ⟨Tryz.f90.name, by decide, Tryz.func90.trans (congrArg some (by kernel_rfl))⟩
  f23 := ⟨Tryz.f91.name, by decide, Tryz.func91.trans (congrArg some (by kernel_rfl))⟩
  f24 := ⟨Tryz.f92.name, by decide, Tryz.func92.trans (congrArg some (by kernel_rfl))⟩
  f25 := ⟨Tryz.f93.name, by decide, Tryz.func93.trans (congrArg some (by kernel_rfl))⟩
  f26 := ⟨Tryz.f94.name, by decide, Tryz.func94.trans (congrArg some (by kernel_rfl))⟩
  f27 := ⟨Tryz.f95.name, by decide, Tryz.func95.trans (congrArg some (by kernel_rfl))⟩
  f28 := Tryz.func86.trans (congrArg some (by kernel_rfl))
  f29 := Tryz.func87.trans (congrArg some (by kernel_rfl))
  f46 := ⟨Tryz.f108.name, by decide, Tryz.func108.trans (congrArg some (by kernel_rfl))⟩
  f47 := Tryz.func104.trans (congrArg some (by kernel_rfl))
  f48 := Tryz.func105.trans (congrArg some (by kernel_rfl))
  f49 := ⟨Tryz.f109.name, by decide, Tryz.func109.trans (congrArg some (by kernel_rfl))⟩
  f50 := ⟨Tryz.f110.name, by decide, Tryz.func110.trans (congrArg some (by kernel_rfl))⟩
  f57 := ⟨Tryz.f118.name, by decide, Tryz.func118.trans (congrArg some (by kernel_rfl))⟩
  t0 := Tryz.underlying0
  a0 := Tryz.isAgg0
  z0 := Tryz.sizeOf0
  v0 := Tryz.zeroValue0
  t3 := Tryz.underlying3
  a3 := Tryz.isAgg3
  z3 := Tryz.sizeOf3
  v3 := Tryz.zeroValue3
  t4 := Tryz.underlying4
  a4 := Tryz.isAgg4
  z4 := Tryz.sizeOf4
  v4 := Tryz.zeroValue4
  t5 := Tryz.underlying5
  a5 := Tryz.isAgg5
  z5 := Tryz.sizeOf5
  v5 := Tryz.zeroValue5
  t9 := Tryz.underlying9
  a9 := Tryz.isAgg9
  z9 := Tryz.sizeOf9
  v9 := Tryz.zeroValue9
  t22 := Tryz.underlying22
  a22 := Tryz.isAgg22
  z22 := Tryz.sizeOf22
  v22 := Tryz.zeroValue22
  t25 := Tryz.underlying88
  a25 := Tryz.isAgg88
  z25 := Tryz.sizeOf88
  v25 := Tryz.zeroValue88
  t39 := Tryz.underlying95
  a39 := Tryz.isAgg95
  z39 := Tryz.sizeOf95
  v39 := Tryz.zeroValue95
  t45 := Tryz.underlying101
  a45 := Tryz.isAgg101
  z45 := Tryz.sizeOf101
  v45 := Tryz.zeroValue101
  t46 := Tryz.underlying102
  a46 := Tryz.isAgg102
  z46 := Tryz.sizeOf102
  v46 := Tryz.zeroValue102
  t50 := Tryz.underlying106
  a50 := Tryz.isAgg106
  z50 := Tryz.sizeOf106
  v50 := Tryz.zeroValue106
  t53 := Tryz.underlying109
  a53 := Tryz.isAgg109
  z53 := Tryz.sizeOf109
  v53 := Tryz.zeroValue109
  t55 := Tryz.underlying111
  a55 := Tryz.isAgg111
  z55 := Tryz.sizeOf111
  v55 := Tryz.zeroValue111
  t66 := Tryz.underlying122
  a66 := Tryz.isAgg122
  z66 := Tryz.sizeOf122
  v66 := Tryz.zeroValue122
  t70 := Tryz.underlying126
  a70 := Tryz.isAgg126
  z70 := Tryz.sizeOf126
  v70 := Tryz.zeroValue126
  t76 := Tryz.underlying135
  a76 := Tryz.isAgg135
  z76 := Tryz.sizeOf135
  v76 := Tryz.zeroValue135
  t77 := Tryz.underlying136
  a77 := Tryz.isAgg136
  z77 := Tryz.sizeOf136
  v77 := Tryz.zeroValue136 }
def Tryz.sortD_ren : Go.Shelf.Ren := ⟨fun | 6 => 51 | 15 => 70 | 14 => 69 | 28 => 86 | 29 => 87 | 20 => 78 | 21 => 79 | 22 => 80 | 23 => 81 | 24 => 82 | 25 => 83 | 26 => 84 | 27 => 85 | 46 => 103 | 47 => 104 | 48 => 105 | 49 => 106 | 50 => 107 | 57 => 117 | n => n, fun | 22 => 59 | 24 => 63 | 25 => 83 | 3 => 3 | 39 => 95 | 0 => 0 | 53 => 109 | 55 => 111 | 4 => 4 | 46 => 102 | 45 => 101 | 50 => 106 | 5 => 5 | 9 => 9 | 66 => 122 | 70 => 126 | 76 => 135 | 77 => 136 | n => n, fun | n => n⟩
theorem Tryz.sortD : Go.Proofs.SlLaysF0.n6 Tryz.prog Tryz.sortD_ren := {
  mixed := by kernel_rfl
  f6 := ⟨Tryz.f51.name, by decide, Tryz.func51.trans (congrArg some (by kernel_rfl))⟩
  f14 := ⟨Tryz.f69.name, by decide, Tryz.func69.trans (congrArg some (by kernel_rfl))⟩
  f15 := Tryz.func70.trans (congrArg some (by kernel_rfl))
  f20 := ⟨Tryz.f78.name, by decide, Tryz.func78.trans (congrArg some (by kernel_rfl))⟩
  f21 := ⟨Tryz.f79.name, by decide, Tryz.func79.trans (congrArg some (by kernel_rfl))⟩
  f22 := ⟨Tryz.f80.name, by decide, Tryz.func80.trans (congrArg some (by kernel_rfl))⟩
  f23 := ⟨Tryz.f81.name, by decide, Tryz.func81.trans (congrArg some (by kernel_rfl))⟩
  f24 := ⟨Tryz.f82.name, by decide, Tryz.func82.trans (congrArg some (by kernel_rfl))⟩
  f25 := ⟨Tryz.f83.name, by decide, Tryz.func83.trans (congrArg some (by kernel_rfl))⟩
  f26 := ⟨Tryz.f84.name, by decide, Tryz.func84.trans (congrArg some (by kernel_rfl))⟩
  f27 := ⟨Tryz.f85.name, by decide, Tryz.func85.trans (congrArg some (by kernel_rfl))⟩
  f28 := Tryz.func86.trans (congrArg some (by kernel_rfl))
  f29 := Tryz.func87.trans (congrArg some (by kernel_rfl))
  f46 := ⟨Tryz.f103.name, by decide, Tryz.func103.trans (congrArg some (by kernel_rfl))⟩
  f47 := Tryz.func104.trans (congrArg some (by kernel_rfl))
  f48 := Tryz.func105.trans (congrArg some (by kernel_rfl))
  f49 := ⟨Tryz.f106.name, by decide, Tryz.func106.trans (congrArg some (by kernel_rfl))⟩
  f50 := ⟨Tryz.f107.name, by decide, Tryz.func107.trans (congrArg some (by kernel_rfl))⟩
  f57 := ⟨Tryz.f117.name, by decide, Tryz.func117.trans (congrArg some (by kernel_rfl))⟩
  t0 := Tryz.underlying0
  a0 := Tryz.isAgg0
  z0 := Tryz.sizeOf0
  v0 := Tryz.zeroValue0
  t3 := Tryz.underlying3
  a3 := Tryz.isAgg3
  z3 := Tryz.sizeOf3
  v3 := Tryz.zeroValue3
  t4 := Tryz.underlying4
  a4 := Tryz.isAgg4
  z4 := Tryz.sizeOf4
  v4 := Tryz.zeroValue4
  t5 := Tryz.underlying5
  a5 := Tryz.isAgg5
  z5 := Tryz.sizeOf5
  v5 := Tryz.zeroValue5
  t9 := Tryz.underlying9
  a9 := Tryz.isAgg9
  z9 := Tryz.sizeOf9
  v9 := Tryz.zeroValue9
  t22 := Tryz.underlying59
  a22 := Tryz.isAgg59
  z22 := Tryz.sizeOf59
  v22 := Tryz.zeroValue59
  t25 := Tryz.underlying83
  a25 := Tryz.isAgg83
  z25 := Tryz.sizeOf83
  v25 := Tryz.zeroValue83
  t39 := Tryz.underlying95
  a39 := Tryz.isAgg95
  z39 := Tryz.sizeOf95
  v39 := Tryz.zeroValue95
  t45 := Tryz.underlying101
  a45 := Tryz.isAgg101
  z45 := Tryz.sizeOf101
  v45 := Tryz.zeroValue101
  t46 := Tryz.underlying102
  a46 := Tryz.isAgg102
  z46 := Tryz.sizeOf102
  v46 := Tryz.zeroValue102
  t50 := Tryz.underlying106
  a50 := Tryz.isAgg106
  z50 := Tryz.sizeOf106
  v50 := Tryz.zeroValue106
  t53 := Tryz.underlying109
  a53 := Tryz.isAgg109
  z53 := Tryz.sizeOf109
  v53 := Tryz.zeroValue109
  t55 := Tryz.underlying111
  a55 := Tryz.isAgg111
  z55 := Tryz.sizeOf111
  v55 := Tryz.zeroValue111
  t66 := Tryz.underlying122
  a66 := Tryz.isAgg122
  z66 := Tryz.sizeOf122
  v66 := Tryz.zeroValue122
  t70 := Tryz.underlying126
  a70 := Tryz.isAgg126
  z70 := Tryz.sizeOf126
  v70 := Tryz.zeroValue126
  t76 := Tryz.underlying135
  a76 := Tryz.isAgg135
  z76 := Tryz.sizeOf135
  v76 := Tryz.zeroValue135
  t77 := Tryz.underlying136
  a77 := Tryz.isAgg136
  z77 := Tryz.sizeOf136
  v77 := Tryz.zeroValue136 }
end Go.Proofs

set_option linter.unusedSimpArgs false
set_option linter.unusedVariables false
namespace Go.Proofs.YtlkdcgfjmhjjpaaGreat
open Go Go.Lg Go.RowKit
set_option linter.unusedVariables false

theorem ltOf_cmpP (a b : MPath) : Go.Proofs.ltOf cmpP a b = ltP a b := by
  unfold Go.Proofs.ltOf cmpP
  cases e : ltP a b
  · cases e2 : ltP b a <;> simp
  · simp
/-- A path that is small. -/
abbrev SPath := { p : MPath // smallP p }
def cmpSP (a b : SPath) : Int := cmpP a.1 b.1
theorem swoSP : Go.Sort.SWO (Go.Proofs.ltOf cmpSP) := by
  have h : ∀ a b : SPath, Go.Proofs.ltOf cmpSP a b = ltP a.1 b.1 := fun a b => ltOf_cmpP a.1 b.1
  refine ⟨fun x => by rw [h]; exact ltP_irrefl _, fun x y z h1 h2 => ?_, fun x y z h1 h2 => ?_⟩
  · rw [h] at *; exact ltP_trans h1 h2
  · rw [h] at *
    cases e : ltP x.1 z.1 with
    | false => rfl
    | true =>
      cases e2 : ltP y.1 x.1 with
      | true => rw [ltP_trans e2 e] at h2; cases h2
      | false => rw [ltP_tri h1 e2, h2] at e; cases e
theorem map_sub {l : List MPath} (h : ∀ x ∈ l, smallP x) : ∃ m : List SPath, m.map (·.1) = l := by
  induction l with
  | nil => exact ⟨[], rfl⟩
  | cons x l ih =>
    obtain ⟨m, hm⟩ := ih fun y hy => h y (List.mem_cons_of_mem _ hy)
    exact ⟨⟨x, h x (List.mem_cons_self ..)⟩ :: m, by rw [List.map_cons, hm]⟩
theorem sub_inj : ∀ {a b : List SPath}, a.map (·.1) = b.map (·.1) → a = b
  | [], [], _ => rfl
  | [], _ :: _, h => by cases h
  | _ :: _, [], h => by cases h
  | x :: a, y :: b, h => by
    simp only [List.map_cons, List.cons.injEq] at h
    rw [Subtype.ext h.1, sub_inj h.2]
theorem sortsP : SortsP := by
  intro l l' hx hl hu
  obtain ⟨m, rfl⟩ := map_sub hx
  have hp : ∀ m2 : List SPath, m2.Perm m → m2.Pairwise (fun x y => Go.Proofs.ltOf cmpSP y x = false) → m2.map (·.1) = l' := by
    intro m2 h1 h2
    refine hu _ (h1.map _) ?_
    rw [List.pairwise_map]
    exact h2.imp fun {a b} h => by rw [← ltOf_cmpP]; exact h
  have hl' : ∃ m' : List SPath, m'.map (·.1) = l' := by
    refine ⟨m.mergeSort (fun x y => !Go.Proofs.ltOf cmpSP y x), hp _ (List.mergeSort_perm ..) ?_⟩
    have hsw := swoSP
    have := List.pairwise_mergeSort (le := fun x y : SPath => !Go.Proofs.ltOf cmpSP y x) (fun a b c h1 h2 => ?_) (fun a b => ?_) m
    · exact this.imp fun {a b} h => by simpa using h
    · simp only [Bool.not_eq_true'] at h1 h2 ⊢
      exact hsw.ntrans _ _ _ h2 h1
    · have h : ∀ a b : SPath, Go.Proofs.ltOf cmpSP a b = ltP a.1 b.1 := fun a b => ltOf_cmpP a.1 b.1
      simp only [h]
      cases e : ltP b.1 a.1 with
      | false => rfl
      | true => rw [ltP_asymm e]; rfl
  obtain ⟨m', rfl⟩ := hl'
  have e1 : (m.map (·.1)).flatMap MPath.cells = m.flatMap fun x => x.1.cells := by rw [List.flatMap_map]
  have e2 : (m'.map (·.1)).flatMap MPath.cells = m'.flatMap fun x => x.1.cells := by rw [List.flatMap_map]
  rw [e1, e2, List.length_map]
  rw [List.length_map] at hl
  refine sortFunc_mut Tryz.sortP (k := 2) (by decide) Tryz.isAgg25 Tryz.sizeOf25 (fun x : SPath => x.1.cells) (fun x => MPath.len x.1) (fun x v hv => List.all_eq_true.1 (MPath.onec x.1) v hv) cmpSP swoSP 60 [] (by kernel_rfl) (by kernel_rfl) (fun x y => ?_) m m' (by omega) (fun m2 h1 h2 => sub_inj (hp m2 h1 h2))
  have hx : x.1.steps.length ≤ 4611686018427387904 := by have := x.2; unfold smallP at this; omega
  have hy : y.1.steps.length ≤ 4611686018427387904 := by have := y.2; unfold smallP at this; omega
  exact sorted1_ret x.1 y.1 hx hy
end Go.Proofs.YtlkdcgfjmhjjpaaGreat

namespace Go.Proofs.YtlkdcgfjmhjjpaaGreat
open Go Go.Lg
set_option maxRecDepth 100000

def lch49 : LC := .seq (.rego 0 [⟨some 3, .box (.tmp 1), none⟩, ⟨some 4, .mov (.con (.bool false)), none⟩, ⟨some 5, .mov (.con .e0), none⟩]) (.keep [0, 3] (.seq (.rego 1 [⟨some 6, .new [.bool false], none⟩, ⟨none, .store 1 (.tmp 6) (.con (.bool false)), none⟩]) (.keep [0, 3, 6] (.seq (.rego 2 [⟨some 8, .mkfn 66 [.tmp 6], none⟩, ⟨some 7, .mov (.tmp 8), none⟩]) (.keep [0, 3, 6, 7] (.seq (.seq (.rego 3 [⟨some 9, .fad 0 (.tmp 3), none⟩, ⟨some 10, .load false 1 (.tmp 9), none⟩]) (.keep [0, 3, 6, 7, 10] (.block 0 (.seq (.rego 4 [⟨some 12, .bin .eql (.tmp 10) (.con (.int .i64 1)), none⟩, ⟨some 11, .mov (.tmp 12), none⟩]) (.keep [0, 3, 6, 7, 10, 11] (.cond (.tmp 11) (.keep [0, 3, 6, 7] (.seq (.seq (.rego 5 [⟨some 13, .fad 5 (.tmp 3), none⟩, ⟨some 14, .fad 0 (.tmp 13), none⟩, ⟨some 15, .load false 1 (.tmp 14), none⟩, ⟨some 16, .bin .eql (.tmp 15) (.con (.int .i64 2)), none⟩, ⟨some 17, .mov (.tmp 16), none⟩, ⟨some 18, .fad 5 (.tmp 3), some ⟨17, false⟩⟩, ⟨some 19, .fad 0 (.tmp 18), some ⟨17, false⟩⟩, ⟨some 20, .load false 1 (.tmp 19), some ⟨17, false⟩⟩, ⟨some 21, .bin .eql (.tmp 20) (.con (.int .i64 3)), some ⟨17, false⟩⟩, ⟨some 22, .pick (.tmp 17) (.con (.bool true)) (.tmp 21), none⟩]) (.keep [0, 3, 6, 7, 22] (.cond (.tmp 22) (.keep [0, 3, 6, 7] (.rego 6 [⟨some 23, .mov (.tmp 0), none⟩, ⟨some 24, .fad 5 (.tmp 3), none⟩, ⟨some 25, .fad 10 (.tmp 24), none⟩, ⟨some 26, .load true 2 (.tmp 25), none⟩, ⟨some 27, .call 67 [.tmp 23, .tmp 26], none⟩, ⟨none, .store 1 (.tmp 6) (.tmp 27), none⟩])) .skip))) (.keep [0, 3, 6, 7] (.seq (.rego 7 [⟨some 28, .mov (.tmp 0), none⟩, ⟨some 29, .fad 5 (.tmp 3), none⟩, ⟨some 30, .load true 16 (.tmp 29), none⟩, ⟨some 31, .mov (.tmp 7), none⟩, ⟨some 32, .call 40 [.tmp 28, .tmp 30, .tmp 31], none⟩, ⟨some 0, .mov (.tmp 32), none⟩]) (.keep [0, 3, 6] (.rego 8 [⟨some 33, .load false 1 (.tmp 6), none⟩, ⟨some 34, .mov (.tmp 33), none⟩, ⟨some 35, .fad 2 (.tmp 3), some ⟨34, false⟩⟩, ⟨some 36, .load false 1 (.tmp 35), some ⟨34, false⟩⟩, ⟨some 37, .mov (.tmp 36), some ⟨34, false⟩⟩, ⟨some 38, .fad 3 (.tmp 3), some ⟨37, true⟩⟩, ⟨some 39, .fad 1 (.tmp 38), some ⟨37, true⟩⟩, ⟨some 40, .load false 1 (.tmp 39), some ⟨37, true⟩⟩, ⟨some 41, .call 35 [.tmp 40, .con (.str { data := #[42] })], some ⟨37, true⟩⟩, ⟨some 42, .pick (.tmp 37) (.tmp 41) (.con (.bool false)), some ⟨34, false⟩⟩, ⟨some 43, .mov (.tmp 42), some ⟨34, false⟩⟩, ⟨some 44, .mov (.tmp 0), some ⟨43, true⟩⟩, ⟨some 45, .fad 3 (.tmp 3), some ⟨43, true⟩⟩, ⟨some 46, .load true 2 (.tmp 45), some ⟨43, true⟩⟩, ⟨some 47, .call 67 [.tmp 44, .tmp 46], some ⟨43, true⟩⟩, ⟨some 48, .pick (.tmp 43) (.tmp 47) (.con (.bool false)), some ⟨34, false⟩⟩, ⟨some 49, .pick (.tmp 34) (.con (.bool true)) (.tmp 48), none⟩, ⟨none, .store 1 (.tmp 6) (.tmp 49), none⟩])))))) (.keep [0, 3, 6, 7, 10] (.seq (.rego 9 [⟨some 51, .bin .eql (.tmp 10) (.con (.int .i64 3)), none⟩, ⟨some 50, .mov (.tmp 51), none⟩]) (.keep [0, 3, 6, 7, 10, 50] (.cond (.tmp 50) (.keep [0, 3, 6] (.rego 10 [⟨some 52, .mov (.tmp 0), none⟩, ⟨some 53, .fad 3 (.tmp 3), none⟩, ⟨some 54, .load true 2 (.tmp 53), none⟩, ⟨some 55, .call 67 [.tmp 52, .tmp 54], none⟩, ⟨none, .store 1 (.tmp 6) (.tmp 55), none⟩])) (.keep [0, 3, 6, 7, 10] (.seq (.rego 11 [⟨some 57, .bin .eql (.tmp 10) (.con (.int .i64 4)), none⟩, ⟨some 56, .mov (.tmp 57), none⟩]) (.keep [0, 3, 6, 7, 56] (.cond (.tmp 56) (.keep [0, 3, 6, 7] (.rego 12 [⟨some 58, .mov (.tmp 7), none⟩, ⟨some 59, .mov (.tmp 0), none⟩, ⟨some 60, .fad 5 (.tmp 3), none⟩, ⟨some 61, .fad 1 (.tmp 60), none⟩, ⟨some 62, .load true 4 (.tmp 61), none⟩, ⟨some 63, .callv (.tmp 58) [.tmp 59, .tmp 62], none⟩])) .skip)))))))))))))) (.keep [0, 6] (.seq (.rego 13 [⟨some 64, .load false 1 (.tmp 6), none⟩, ⟨some 65, .mov (.tmp 0), none⟩, ⟨some 4, .mov (.tmp 64), none⟩, ⟨some 5, .mov (.tmp 65), none⟩]) .ret))))))))
theorem fdh49 : fnData Tryz.prog 49 = some (66, lch49.erase, [LRV.tmp 4, LRV.tmp 5]) := by kernel_rfl

def lch66 : LC := .seq (.rego 0 [⟨some 4, .box (.tmp 1), none⟩]) (.rego 1 [⟨some 5, .load false 1 (.tmp 2), none⟩, ⟨some 6, .mov (.tmp 5), none⟩, ⟨some 7, .fad 0 (.tmp 4), some ⟨6, false⟩⟩, ⟨some 8, .load false 1 (.tmp 7), some ⟨6, false⟩⟩, ⟨some 9, .bin .eql (.tmp 8) (.con (.int .i64 3)), some ⟨6, false⟩⟩, ⟨some 10, .mov (.tmp 9), some ⟨6, false⟩⟩, ⟨some 11, .fad 0 (.tmp 4), some ⟨10, false⟩⟩, ⟨some 12, .load false 1 (.tmp 11), some ⟨10, false⟩⟩, ⟨some 13, .bin .eql (.tmp 12) (.con (.int .i64 4)), some ⟨10, false⟩⟩, ⟨some 14, .pick (.tmp 10) (.con (.bool true)) (.tmp 13), some ⟨6, false⟩⟩, ⟨some 15, .mov (.tmp 14), some ⟨6, false⟩⟩, ⟨some 16, .mov (.tmp 0), some ⟨15, true⟩⟩, ⟨some 17, .fad 2 (.tmp 4), some ⟨15, true⟩⟩, ⟨some 18, .load true 2 (.tmp 17), some ⟨15, true⟩⟩, ⟨some 19, .call 67 [.tmp 16, .tmp 18], some ⟨15, true⟩⟩, ⟨some 20, .pick (.tmp 15) (.tmp 19) (.con (.bool false)), some ⟨6, false⟩⟩, ⟨some 21, .pick (.tmp 6) (.con (.bool true)) (.tmp 20), none⟩, ⟨none, .store 1 (.tmp 2) (.tmp 21), none⟩])
theorem fdh66 : fnData Tryz.prog 66 = some (22, lch66.erase, []) := by kernel_rfl

def lch40 : LC := .seq (.rego 0 [⟨some 4, .box (.tmp 1), none⟩, ⟨some 6, .mov (.con .e0), none⟩]) (.seq (.seq (.rego 1 [⟨some 9, .load true 16 (.tmp 4), none⟩, ⟨some 10, .call 63 [.tmp 9], none⟩, ⟨some 11, .len false (.tmp 10), none⟩, ⟨some 12, .mov (.con (.int .i64 0)), none⟩]) (.block 0 (.loop (.seq (.rego 2 [⟨some 13, .bin .lss (.tmp 12) (.tmp 11), none⟩]) (.seq (.cond (.tmp 13) .skip (.exit 0)) (.seq (.block 1 (.seq (.rego 3 [⟨some 14, .iaS 4 (.tmp 10) (.tmp 12), none⟩, ⟨some 15, .load true 4 (.tmp 14), none⟩, ⟨some 8, .new [.int .i64 0, .int .i64 0, .int .i64 0, .e0], none⟩, ⟨none, .store 4 (.tmp 8) (.tmp 15), none⟩]) (.seq (.seq (.rego 4 [⟨some 16, .mov (.tmp 2), none⟩, ⟨some 17, .eqf true (.tmp 16) (.con .nilf), none⟩]) (.cond (.tmp 17) (.rego 5 [⟨some 18, .mov (.tmp 2), none⟩, ⟨some 19, .mov (.tmp 0), none⟩, ⟨some 20, .load true 4 (.tmp 8), none⟩, ⟨some 21, .callv (.tmp 18) [.tmp 19, .tmp 20], none⟩]) .skip)) (.seq (.rego 6 [⟨some 22, .fad 0 (.tmp 8), none⟩, ⟨some 23, .load false 1 (.tmp 22), none⟩, ⟨some 24, .bin .eql (.tmp 23) (.con (.int .i64 4)), none⟩]) (.cond (.tmp 24) (.rego 7 [⟨some 25, .mov (.tmp 0), none⟩, ⟨some 26, .fad 2 (.tmp 8), none⟩, ⟨some 27, .load true 2 (.tmp 26), none⟩, ⟨some 28, .call 11 [.tmp 25, .tmp 27], none⟩, ⟨some 0, .mov (.tmp 28), none⟩]) .skip))))) (.rego 8 [⟨some 29, .bin .add (.tmp 12) (.con (.int .i64 1)), none⟩, ⟨some 12, .mov (.tmp 29), none⟩]))))))) (.seq (.rego 9 [⟨some 30, .mov (.tmp 0), none⟩, ⟨some 6, .mov (.tmp 30), none⟩]) .ret))
theorem fdh40 : fnData Tryz.prog 40 = some (31, lch40.erase, [LRV.tmp 6]) := by kernel_rfl

def lch25 : LC := .seq (.rego 0 [⟨some 1, .box (.tmp 0), none⟩, ⟨some 2, .mov (.con .e0), none⟩]) (.keep [1] (.seq (.rego 1 [⟨some 9, .load true 6 (.tmp 1), none⟩, ⟨some 10, .call 23 [.tmp 9], none⟩, ⟨some 3, .mov (.tmp 10), none⟩]) (.keep [1, 3] (.seq (.rego 2 [⟨some 4, .mov (.con .e0), none⟩]) (.keep [1, 3, 4] (.seq (.seq (.rego 3 [⟨some 11, .load true 6 (.tmp 1), none⟩, ⟨some 12, .call 46 [.tmp 11], none⟩, ⟨some 13, .len false (.tmp 12), none⟩, ⟨some 14, .mov (.con (.int .i64 0)), none⟩]) (.keep [1, 3, 4, 12, 13, 14] (.block 0 (.loop (.seq (.rego 4 [⟨some 15, .bin .lss (.tmp 14) (.tmp 13), none⟩]) (.keep [1, 3, 4, 12, 13, 14, 15] (.seq (.cond (.tmp 15) .skip (.exit 0)) (.keep [1, 3, 4, 12, 13, 14] (.seq (.block 1 (.seq (.rego 5 [⟨some 16, .mov (.tmp 14), none⟩, ⟨some 17, .iaS 1 (.tmp 12) (.tmp 14), none⟩, ⟨some 18, .load false 1 (.tmp 17), none⟩, ⟨some 5, .mov (.tmp 16), none⟩, ⟨some 6, .mov (.tmp 18), none⟩]) (.keep [1, 3, 4, 5, 6, 12, 13, 14] (.seq (.seq (.rego 6 [⟨some 19, .mov (.tmp 6), none⟩, ⟨some 20, .un .not (.tmp 19), none⟩]) (.keep [1, 3, 4, 5, 12, 13, 14, 20] (.cond (.tmp 20) (.exit 1) .skip))) (.keep [1, 3, 4, 5, 12, 13, 14] (.seq (.regf 7 [0, 0, 3, 7, 0, 16, 0, 112, 240, 511, 1023, 2047, 2047, 4095, 16383] [⟨some 22, .mov (.tmp 3), none⟩, ⟨some 23, .mov (.tmp 5), none⟩, ⟨some 24, .iaS 1 (.tmp 22) (.tmp 23), none⟩, ⟨some 25, .load false 1 (.tmp 24), none⟩, ⟨some 26, .fad 5 (.tmp 1), none⟩, ⟨some 27, .load false 1 (.tmp 26), none⟩, ⟨some 28, .mov (.tmp 5), none⟩, ⟨some 29, .iaS 22 (.tmp 27) (.tmp 28), none⟩, ⟨some 30, .load true 22 (.tmp 29), none⟩, ⟨some 31, .call 49 [.tmp 25, .tmp 30], none⟩, ⟨some 21, .mov (.tmp 31), none⟩, ⟨some 32, .ext (.tmp 21) 0, none⟩, ⟨some 33, .ext (.tmp 21) 1, none⟩, ⟨some 7, .mov (.tmp 32), none⟩, ⟨some 8, .mov (.tmp 33), none⟩]) (.keep [1, 3, 4, 5, 7, 8, 12, 13, 14] (.seq (.seq (.rego 8 [⟨some 34, .mov (.tmp 7), none⟩]) (.keep [1, 3, 4, 5, 8, 12, 13, 14, 34] (.cond (.tmp 34) (.keep [1, 3, 4, 5, 8, 12, 13, 14] (.rego 9 [⟨some 35, .mov (.tmp 4), none⟩, ⟨some 36, .fad 5 (.tmp 1), none⟩, ⟨some 37, .load false 1 (.tmp 36), none⟩, ⟨some 38, .mov (.tmp 5), none⟩, ⟨some 39, .iaS 22 (.tmp 37) (.tmp 38), none⟩, ⟨some 40, .fad 1 (.tmp 39), none⟩, ⟨some 41, .load false 1 (.tmp 40), none⟩, ⟨some 42, .build [.int .i64 0, .int .i64 0, .int .i64 0, .int .i64 0] [⟨0, 1, .tmp 41⟩, ⟨1, 1, .con (.int .i64 1)⟩], none⟩, ⟨some 43, .bsl 1 [.int .i64 0, .int .i64 0, .int .i64 0, .int .i64 0] [⟨0, 4, .tmp 42⟩], none⟩, ⟨some 44, .app 4 32 (.tmp 35) (.tmp 43), none⟩, ⟨some 4, .mov (.tmp 44), none⟩])) .skip))) (.keep [1, 3, 4, 5, 8, 12, 13, 14] (.seq (.rego 10 [⟨some 45, .mov (.tmp 8), none⟩, ⟨some 46, .fad 5 (.tmp 1), none⟩, ⟨some 47, .load false 1 (.tmp 46), none⟩, ⟨some 48, .mov (.tmp 5), none⟩, ⟨some 49, .iaS 22 (.tmp 47) (.tmp 48), none⟩, ⟨some 50, .load true 22 (.tmp 49), none⟩, ⟨some 51, .call 50 [.tmp 45, .tmp 50], none⟩]) (.keep [1, 3, 4, 5, 12, 13, 14, 51] (.cond (.tmp 51) (.keep [1, 3, 4, 5, 12, 13, 14] (.rego 11 [⟨some 52, .mov (.tmp 4), none⟩, ⟨some 53, .fad 5 (.tmp 1), none⟩, ⟨some 54, .load false 1 (.tmp 53), none⟩, ⟨some 55, .mov (.tmp 5), none⟩, ⟨some 56, .iaS 22 (.tmp 54) (.tmp 55), none⟩, ⟨some 57, .fad 1 (.tmp 56), none⟩, ⟨some 58, .load false 1 (.tmp 57), none⟩, ⟨some 59, .build [.int .i64 0, .int .i64 0, .int .i64 0, .int .i64 0] [⟨0, 1, .tmp 58⟩, ⟨1, 1, .con (.int .i64 2)⟩], none⟩, ⟨some 60, .bsl 1 [.int .i64 0, .int .i64 0, .int .i64 0, .int .i64 0] [⟨0, 4, .tmp 59⟩], none⟩, ⟨some 61, .app 4 32 (.tmp 52) (.tmp 60), none⟩, ⟨some 4, .mov (.tmp 61), none⟩])) .skip)))))))))))) (.keep [1, 3, 4, 12, 13, 14] (.rego 12 [⟨some 62, .bin .add (.tmp 14) (.con (.int .i64 1)), none⟩, ⟨some 14, .mov (.tmp 62), none⟩]))))))))))) (.keep [4] (.seq (.rego 13 [⟨some 63, .mov (.tmp 4), none⟩, ⟨some 64, .call 51 [.tmp 63, .con (.fn 52 [])], none⟩]) (.keep [4] (.seq (.rego 14 [⟨some 65, .mov (.tmp 4), none⟩, ⟨some 66, .call 55 [.tmp 65], none⟩, ⟨some 2, .mov (.tmp 66), none⟩]) .ret))))))))))
theorem fdh25 : fnData Tryz.prog 25 = some (67, lch25.erase, [LRV.tmp 2]) := by kernel_rfl

def lch26 : LC := .seq (.rego 0 [⟨some 4, .mov (.con (.bool false)), none⟩]) (.keep [0, 1] (.seq (.seq (.rego 1 [⟨some 6, .mov (.tmp 0), none⟩, ⟨some 7, .len false (.tmp 6), none⟩, ⟨some 8, .mov (.tmp 1), none⟩, ⟨some 9, .len false (.tmp 8), none⟩, ⟨some 10, .bin .neq (.tmp 7) (.tmp 9), none⟩]) (.keep [0, 1, 10] (.cond (.tmp 10) (.keep [] (.seq (.rego 2 [⟨some 4, .mov (.con (.bool false)), none⟩]) .ret)) .skip))) (.keep [0, 1] (.seq (.seq (.rego 3 [⟨some 5, .mov (.con (.int .i64 0)), none⟩]) (.keep [0, 1, 5] (.block 0 (.loop (.seq (.seq (.rego 4 [⟨some 11, .mov (.tmp 5), none⟩, ⟨some 12, .mov (.tmp 0), none⟩, ⟨some 13, .len false (.tmp 12), none⟩, ⟨some 14, .bin .lss (.tmp 11) (.tmp 13), none⟩]) (.keep [0, 1, 5, 14] (.cond (.tmp 14) .skip (.exit 0)))) (.keep [0, 1, 5] (.seq (.block 1 (.seq (.reg 6 [⟨some 17, .mov (.tmp 0), none⟩, ⟨some 18, .mov (.tmp 5), none⟩, ⟨some 19, .iaS 4 (.tmp 17) (.tmp 18), none⟩, ⟨some 20, .load true 4 (.tmp 19), none⟩, ⟨some 21, .mov (.tmp 1), none⟩, ⟨some 22, .mov (.tmp 5), none⟩, ⟨some 23, .iaS 4 (.tmp 21) (.tmp 22), none⟩, ⟨some 24, .load true 4 (.tmp 23), none⟩, ⟨some 25, .eqa 4 .i64 true (.tmp 20) (.tmp 24), none⟩]) (.keep [0, 1, 5, 25] (.cond (.tmp 25) (.keep [] (.seq (.rego 7 [⟨some 4, .mov (.con (.bool false)), none⟩]) .ret)) .skip)))) (.keep [0, 1, 5] (.rego 5 [⟨some 15, .mov (.tmp 5), none⟩, ⟨some 16, .bin .add (.tmp 15) (.con (.int .i64 1)), none⟩, ⟨some 5, .mov (.tmp 16), none⟩]))))))))) (.keep [] (.seq (.rego 8 [⟨some 4, .mov (.con (.bool true)), none⟩]) .ret))))))
theorem fdh26 : fnData Tryz.prog 26 = some (26, lch26.erase, [LRV.tmp 4]) := by kernel_rfl

def lch55 : LC := .seq (.rego 0 [⟨some 2, .mov (.con .e0), none⟩]) (.seq (.seq (.rego 1 [⟨some 6, .mov (.tmp 0), none⟩, ⟨some 7, .len false (.tmp 6), none⟩, ⟨some 8, .bin .lss (.tmp 7) (.con (.int .i64 2)), none⟩]) (.cond (.tmp 8) (.seq (.rego 2 [⟨some 9, .mov (.tmp 0), none⟩, ⟨some 2, .mov (.tmp 9), none⟩]) .ret) .skip)) (.seq (.seq (.rego 3 [⟨some 3, .mov (.con (.int .i64 1)), none⟩]) (.block 0 (.loop (.seq (.seq (.rego 4 [⟨some 10, .mov (.tmp 3), none⟩, ⟨some 11, .mov (.tmp 0), none⟩, ⟨some 12, .len false (.tmp 11), none⟩, ⟨some 13, .bin .lss (.tmp 10) (.tmp 12), none⟩]) (.cond (.tmp 13) .skip (.exit 0))) (.seq (.block 1 (.seq (.reg 6 [⟨some 16, .mov (.tmp 0), none⟩, ⟨some 17, .mov (.tmp 3), none⟩, ⟨some 18, .iaS 4 (.tmp 16) (.tmp 17), none⟩, ⟨some 19, .load true 4 (.tmp 18), none⟩, ⟨some 20, .mov (.tmp 0), none⟩, ⟨some 21, .mov (.tmp 3), none⟩, ⟨some 22, .bin .sub (.tmp 21) (.con (.int .i64 1)), none⟩, ⟨some 23, .iaS 4 (.tmp 20) (.tmp 22), none⟩, ⟨some 24, .load true 4 (.tmp 23), none⟩, ⟨some 25, .eqa 4 .i64 false (.tmp 19) (.tmp 24), none⟩]) (.cond (.tmp 25) (.seq (.rego 7 [⟨some 26, .mov (.tmp 0), none⟩, ⟨some 27, .mov (.tmp 3), none⟩, ⟨some 28, .slV 4 (.tmp 26) (some (.tmp 27)) none, none⟩, ⟨some 4, .mov (.tmp 28), none⟩]) (.seq (.seq (.rego 8 [⟨some 5, .mov (.con (.int .i64 1)), none⟩]) (.block 2 (.loop (.seq (.seq (.rego 9 [⟨some 29, .mov (.tmp 5), none⟩, ⟨some 30, .mov (.tmp 4), none⟩, ⟨some 31, .len false (.tmp 30), none⟩, ⟨some 32, .bin .lss (.tmp 29) (.tmp 31), none⟩]) (.cond (.tmp 32) .skip (.exit 2))) (.seq (.block 3 (.seq (.reg 11 [⟨some 35, .mov (.tmp 4), none⟩, ⟨some 36, .mov (.tmp 5), none⟩, ⟨some 37, .iaS 4 (.tmp 35) (.tmp 36), none⟩, ⟨some 38, .load true 4 (.tmp 37), none⟩, ⟨some 39, .mov (.tmp 4), none⟩, ⟨some 40, .mov (.tmp 5), none⟩, ⟨some 41, .bin .sub (.tmp 40) (.con (.int .i64 1)), none⟩, ⟨some 42, .iaS 4 (.tmp 39) (.tmp 41), none⟩, ⟨some 43, .load true 4 (.tmp 42), none⟩, ⟨some 44, .eqa 4 .i64 true (.tmp 38) (.tmp 43), none⟩]) (.cond (.tmp 44) (.seq (.rego 12 [⟨some 45, .mov (.tmp 0), none⟩, ⟨some 46, .mov (.tmp 3), none⟩, ⟨some 47, .mov (.tmp 4), none⟩, ⟨some 48, .mov (.tmp 5), none⟩, ⟨some 49, .iaS 4 (.tmp 47) (.tmp 48), none⟩, ⟨some 50, .load true 4 (.tmp 49), none⟩, ⟨some 51, .iaS 4 (.tmp 45) (.tmp 46), none⟩, ⟨none, .store 4 (.tmp 51) (.tmp 50), none⟩]) (.rego 13 [⟨some 52, .mov (.tmp 3), none⟩, ⟨some 53, .bin .add (.tmp 52) (.con (.int .i64 1)), none⟩, ⟨some 3, .mov (.tmp 53), none⟩])) .skip))) (.rego 10 [⟨some 33, .mov (.tmp 5), none⟩, ⟨some 34, .bin .add (.tmp 33) (.con (.int .i64 1)), none⟩, ⟨some 5, .mov (.tmp 34), none⟩])))))) (.seq (.rego 14 [⟨some 54, .mov (.tmp 0), none⟩, ⟨some 55, .mov (.tmp 3), none⟩, ⟨some 56, .slV 4 (.tmp 54) (some (.tmp 55)) none, none⟩, ⟨none, .bad, none⟩]) (.seq (.rego 15 [⟨some 57, .mov (.tmp 0), none⟩, ⟨some 58, .mov (.tmp 3), none⟩, ⟨some 59, .slV 4 (.tmp 57) none (some (.tmp 58)), none⟩, ⟨some 2, .mov (.tmp 59), none⟩]) .ret)))) .skip))) (.rego 5 [⟨some 14, .mov (.tmp 3), none⟩, ⟨some 15, .bin .add (.tmp 14) (.con (.int .i64 1)), none⟩, ⟨some 3, .mov (.tmp 15), none⟩])))))) (.seq (.rego 16 [⟨some 60, .mov (.tmp 0), none⟩, ⟨some 2, .mov (.tmp 60), none⟩]) .ret)))
theorem fdh55 : fnData Tryz.prog 55 = some (61, lch55.erase, [LRV.tmp 2]) := by kernel_rfl

def lch8 : LC := .seq (.rego 0 [⟨some 0, .mov (.con (.bool false)), none⟩]) (.keep [] (.seq (.rego 1 [⟨some 7, .build [.int .i64 0, .e0] [⟨0, 1, .con (.int .i64 1)⟩], none⟩, ⟨some 8, .bsl 1 [.str { data := #[] }] [⟨0, 1, .con (.str { data := #[102] })⟩], none⟩, ⟨some 9, .build [.int .i64 0, .e0] [⟨0, 1, .con (.int .i64 1)⟩, ⟨1, 1, .tmp 8⟩], none⟩, ⟨some 10, .build [.int .i64 0, .e0] [⟨0, 1, .con (.int .i64 2)⟩], none⟩, ⟨some 1, .new [.int .i64 0, .e0], none⟩, ⟨some 2, .new [.int .i64 0, .e0], none⟩, ⟨some 3, .new [.int .i64 0, .e0], none⟩, ⟨none, .store 2 (.tmp 1) (.tmp 7), none⟩, ⟨none, .store 2 (.tmp 2) (.tmp 9), none⟩, ⟨none, .store 2 (.tmp 3) (.tmp 10), none⟩]) (.keep [1, 2, 3] (.seq (.regf 2 [0, 1, 0, 7, 15] [⟨some 11, .load true 2 (.tmp 3), none⟩, ⟨some 12, .call 11 [.con .e0, .tmp 11], none⟩, ⟨some 13, .load true 2 (.tmp 2), none⟩, ⟨some 14, .call 11 [.tmp 12, .tmp 13], none⟩, ⟨some 4, .mov (.tmp 14), none⟩]) (.keep [1, 2, 3, 4] (.seq (.rego 3 [⟨some 15, .bsl 1 [.int .i64 0] [⟨0, 1, .con (.int .i64 1)⟩], none⟩, ⟨some 16, .load true 2 (.tmp 1), none⟩, ⟨some 17, .build [.int .i64 0, .int .i64 0, .bool false, .int .i64 0, .e0, .int .i64 0, .int .i64 0, .int .i64 0, .int .i64 0, .e0, .int .i64 0, .int .i64 0, .int .i64 0, .e0, .int .i64 0, .int .i64 0, .e0, .int .i64 0, .str { data := #[] }, .e0, .e0, .e0] [⟨0, 1, .con (.int .i64 3)⟩, ⟨21, 1, .tmp 15⟩, ⟨3, 2, .tmp 16⟩], none⟩, ⟨some 5, .new [.int .i64 0, .int .i64 0, .bool false, .int .i64 0, .e0, .int .i64 0, .int .i64 0, .int .i64 0, .int .i64 0, .e0, .int .i64 0, .int .i64 0, .int .i64 0, .e0, .int .i64 0, .int .i64 0, .e0, .int .i64 0, .str { data := #[] }, .e0, .e0, .e0], none⟩, ⟨none, .store 22 (.tmp 5) (.tmp 17), none⟩]) (.keep [1, 2, 3, 4, 5] (.seq (.rego 4 [⟨some 18, .build [.str { data := #[] }, .int .i64 0, .str { data := #[] }, .e0, .e0, .bool false] [], none⟩, ⟨some 19, .build [.str { data := #[] }, .int .i64 0, .str { data := #[] }, .e0, .e0, .bool false] [⟨5, 1, .con (.bool true)⟩], none⟩, ⟨some 20, .bsl 2 [.str { data := #[] }, .int .i64 0, .str { data := #[] }, .e0, .e0, .bool false, .str { data := #[] }, .int .i64 0, .str { data := #[] }, .e0, .e0, .bool false] [⟨0, 6, .tmp 18⟩, ⟨6, 6, .tmp 19⟩], none⟩, ⟨some 21, .load true 22 (.tmp 5), none⟩, ⟨some 22, .bsl 1 [.int .i64 0] [⟨0, 1, .con (.int .i64 0)⟩], none⟩, ⟨some 23, .build [.int .i64 0, .int .i64 0, .bool false, .int .i64 0, .e0, .int .i64 0, .int .i64 0, .int .i64 0, .int .i64 0, .e0, .int .i64 0, .int .i64 0, .int .i64 0, .e0, .int .i64 0, .int .i64 0, .e0, .int .i64 0, .str { data := #[] }, .e0, .e0, .e0] [⟨0, 1, .con (.int .i64 5)⟩, ⟨21, 1, .tmp 22⟩], none⟩, ⟨some 24, .bsl 2 [.int .i64 0, .int .i64 0, .bool false, .int .i64 0, .e0, .int .i64 0, .int .i64 0, .int .i64 0, .int .i64 0, .e0, .int .i64 0, .int .i64 0, .int .i64 0, .e0, .int .i64 0, .int .i64 0, .e0, .int .i64 0, .str { data := #[] }, .e0, .e0, .e0, .int .i64 0, .int .i64 0, .bool false, .int .i64 0, .e0, .int .i64 0, .int .i64 0, .int .i64 0, .int .i64 0, .e0, .int .i64 0, .int .i64 0, .int .i64 0, .e0, .int .i64 0, .int .i64 0, .e0, .int .i64 0, .str { data := #[] }, .e0, .e0, .e0] [⟨0, 22, .tmp 21⟩, ⟨22, 22, .tmp 23⟩], none⟩, ⟨some 25, .build [.int .i64 0, .int .i64 0, .int .i64 0, .e0, .e0, .e0] [⟨4, 1, .tmp 20⟩, ⟨5, 1, .tmp 24⟩], none⟩, ⟨some 6, .new [.int .i64 0, .int .i64 0, .int .i64 0, .e0, .e0, .e0], none⟩, ⟨none, .store 6 (.tmp 6) (.tmp 25), none⟩]) (.keep [1, 2, 3, 4, 6] (.seq (.regf 5 [0, 0, 0, 6, 15, 31, 63, 63, 255, 63, 63, 1599, 4095, 8191, 16383, 32767, 32767, 131071, 32767, 294911, 1048575, 2097151, 4194303, 8388607, 16777215, 8388607, 41943039, 134217727, 268435455, 536870911] [⟨some 26, .mov (.tmp 4), none⟩, ⟨some 27, .load true 2 (.tmp 2), none⟩, ⟨some 28, .load true 2 (.tmp 3), none⟩, ⟨some 29, .bsl 2 [.int .i64 0, .e0, .int .i64 0, .e0] [⟨0, 2, .tmp 27⟩, ⟨2, 2, .tmp 28⟩], none⟩, ⟨some 30, .call 10 [.tmp 26, .tmp 29], none⟩, ⟨some 31, .mov (.tmp 30), none⟩, ⟨some 32, .mov (.tmp 4), some ⟨31, true⟩⟩, ⟨some 33, .load true 2 (.tmp 1), some ⟨31, true⟩⟩, ⟨some 34, .call 11 [.tmp 32, .tmp 33], some ⟨31, true⟩⟩, ⟨some 35, .load true 2 (.tmp 1), some ⟨31, true⟩⟩, ⟨some 36, .load true 2 (.tmp 3), some ⟨31, true⟩⟩, ⟨some 37, .bsl 2 [.int .i64 0, .e0, .int .i64 0, .e0] [⟨0, 2, .tmp 35⟩, ⟨2, 2, .tmp 36⟩], some ⟨31, true⟩⟩, ⟨some 38, .call 10 [.tmp 34, .tmp 37], some ⟨31, true⟩⟩, ⟨some 39, .pick (.tmp 31) (.tmp 38) (.con (.bool false)), none⟩, ⟨some 40, .mov (.tmp 39), none⟩, ⟨some 41, .mov (.tmp 4), some ⟨40, true⟩⟩, ⟨some 42, .load true 2 (.tmp 1), some ⟨40, true⟩⟩, ⟨some 43, .call 13 [.tmp 41, .tmp 42], some ⟨40, true⟩⟩, ⟨some 44, .load true 2 (.tmp 3), some ⟨40, true⟩⟩, ⟨some 45, .bsl 1 [.int .i64 0, .e0] [⟨0, 2, .tmp 44⟩], some ⟨40, true⟩⟩, ⟨some 46, .call 10 [.tmp 43, .tmp 45], some ⟨40, true⟩⟩, ⟨some 47, .pick (.tmp 40) (.tmp 46) (.con (.bool false)), none⟩, ⟨some 48, .mov (.tmp 47), none⟩, ⟨some 49, .load true 6 (.tmp 6), some ⟨48, true⟩⟩, ⟨some 50, .call 25 [.tmp 49], some ⟨48, true⟩⟩, ⟨some 51, .build [.int .i64 0, .int .i64 0, .int .i64 0, .int .i64 0] [⟨1, 1, .con (.int .i64 1)⟩], some ⟨48, true⟩⟩, ⟨some 52, .bsl 1 [.int .i64 0, .int .i64 0, .int .i64 0, .int .i64 0] [⟨0, 4, .tmp 51⟩], some ⟨48, true⟩⟩, ⟨some 53, .call 26 [.tmp 50, .tmp 52], some ⟨48, true⟩⟩, ⟨some 54, .pick (.tmp 48) (.tmp 53) (.con (.bool false)), none⟩, ⟨some 0, .mov (.tmp 54), none⟩]) .ret))))))))))
theorem fdh8 : fnData Tryz.prog 8 = some (55, lch8.erase, [LRV.tmp 0]) := by kernel_rfl

def lch6 : LC := .seq (.rego 0 [⟨some 1, .box (.tmp 0), none⟩, ⟨some 2, .mov (.con (.bool false)), none⟩]) (.keep [1] (.seq (.seq (.rego 1 [⟨some 15, .load true 6 (.tmp 1), none⟩, ⟨some 16, .call 21 [.tmp 15], none⟩, ⟨some 17, .mov (.tmp 16), none⟩, ⟨some 18, .load true 6 (.tmp 1), some ⟨17, false⟩⟩, ⟨some 19, .call 22 [.tmp 18], some ⟨17, false⟩⟩, ⟨some 20, .un .not (.tmp 19), some ⟨17, false⟩⟩, ⟨some 21, .pick (.tmp 17) (.con (.bool true)) (.tmp 20), none⟩]) (.keep [1, 21] (.cond (.tmp 21) (.keep [] (.seq (.rego 2 [⟨some 22, .call 8 [], none⟩, ⟨some 2, .mov (.tmp 22), none⟩]) .ret)) .skip))) (.keep [1] (.seq (.rego 3 [⟨some 23, .load true 6 (.tmp 1), none⟩, ⟨some 24, .call 23 [.tmp 23], none⟩, ⟨some 3, .mov (.tmp 24), none⟩]) (.keep [1, 3] (.seq (.seq (.rego 4 [⟨some 25, .mov (.tmp 3), none⟩, ⟨some 26, .len false (.tmp 25), none⟩, ⟨some 27, .fad 5 (.tmp 1), none⟩, ⟨some 28, .load false 1 (.tmp 27), none⟩, ⟨some 29, .len false (.tmp 28), none⟩, ⟨some 30, .bin .neq (.tmp 26) (.tmp 29), none⟩]) (.keep [1, 3, 30] (.cond (.tmp 30) (.keep [] (.seq (.rego 5 [⟨some 2, .mov (.con (.bool false)), none⟩]) .ret)) .skip))) (.keep [1, 3] (.seq (.rego 6 [⟨some 31, .fad 4 (.tmp 1), none⟩, ⟨some 32, .load false 1 (.tmp 31), none⟩, ⟨some 33, .len false (.tmp 32), none⟩, ⟨some 34, .mksl 1 1 [.bool false] (.tmp 33) (.tmp 33), none⟩, ⟨some 4, .mov (.tmp 34), none⟩]) (.keep [1, 3, 4] (.seq (.seq (.rego 7 [⟨some 5, .mov (.con (.int .i64 0)), none⟩]) (.keep [1, 3, 4, 5] (.block 0 (.loop (.seq (.seq (.rego 8 [⟨some 35, .mov (.tmp 5), none⟩, ⟨some 36, .fad 4 (.tmp 1), none⟩, ⟨some 37, .load false 1 (.tmp 36), none⟩, ⟨some 38, .len false (.tmp 37), none⟩, ⟨some 39, .bin .lss (.tmp 35) (.tmp 38), none⟩]) (.keep [1, 3, 4, 5, 39] (.cond (.tmp 39) .skip (.exit 0)))) (.keep [1, 3, 4, 5] (.seq (.block 1 (.rego 10 [⟨some 42, .mov (.tmp 4), none⟩, ⟨some 43, .mov (.tmp 5), none⟩, ⟨some 44, .fad 4 (.tmp 1), none⟩, ⟨some 45, .load false 1 (.tmp 44), none⟩, ⟨some 46, .mov (.tmp 5), none⟩, ⟨some 47, .iaS 6 (.tmp 45) (.tmp 46), none⟩, ⟨some 48, .fad 5 (.tmp 47), none⟩, ⟨some 49, .load false 1 (.tmp 48), none⟩, ⟨some 50, .un .not (.tmp 49), none⟩, ⟨some 51, .iaS 1 (.tmp 42) (.tmp 43), none⟩, ⟨none, .store 1 (.tmp 51) (.tmp 50), none⟩])) (.keep [1, 3, 4, 5] (.rego 9 [⟨some 40, .mov (.tmp 5), none⟩, ⟨some 41, .bin .add (.tmp 40) (.con (.int .i64 1)), none⟩, ⟨some 5, .mov (.tmp 41), none⟩]))))))))) (.keep [1, 3, 4] (.seq (.seq (.rego 11 [⟨some 6, .mov (.con (.int .i64 0)), none⟩]) (.keep [1, 3, 4, 6] (.block 2 (.loop (.seq (.seq (.rego 12 [⟨some 52, .mov (.tmp 6), none⟩, ⟨some 53, .fad 5 (.tmp 1), none⟩, ⟨some 54, .load false 1 (.tmp 53), none⟩, ⟨some 55, .len false (.tmp 54), none⟩, ⟨some 56, .bin .lss (.tmp 52) (.tmp 55), none⟩]) (.keep [1, 3, 4, 6, 56] (.cond (.tmp 56) .skip (.exit 2)))) (.keep [1, 3, 4, 6] (.seq (.block 3 (.seq (.rego 14 [⟨some 59, .fad 5 (.tmp 1), none⟩, ⟨some 60, .load false 1 (.tmp 59), none⟩, ⟨some 61, .mov (.tmp 6), none⟩, ⟨some 62, .iaS 22 (.tmp 60) (.tmp 61), none⟩, ⟨some 63, .load true 22 (.tmp 62), none⟩, ⟨some 7, .new [.int .i64 0, .int .i64 0, .bool false, .int .i64 0, .e0, .int .i64 0, .int .i64 0, .int .i64 0, .int .i64 0, .e0, .int .i64 0, .int .i64 0, .int .i64 0, .e0, .int .i64 0, .int .i64 0, .e0, .int .i64 0, .str { data := #[] }, .e0, .e0, .e0], none⟩, ⟨none, .store 22 (.tmp 7) (.tmp 63), none⟩]) (.keep [1, 3, 4, 6, 7] (.seq (.seq (.rego 15 [⟨some 64, .fad 0 (.tmp 7), none⟩, ⟨some 65, .load false 1 (.tmp 64), none⟩, ⟨some 66, .bin .eql (.tmp 65) (.con (.int .i64 3)), none⟩, ⟨some 67, .mov (.tmp 66), none⟩, ⟨some 68, .fad 0 (.tmp 7), some ⟨67, false⟩⟩, ⟨some 69, .load false 1 (.tmp 68), some ⟨67, false⟩⟩, ⟨some 70, .bin .eql (.tmp 69) (.con (.int .i64 2)), some ⟨67, false⟩⟩, ⟨some 71, .pick (.tmp 67) (.con (.bool true)) (.tmp 70), none⟩]) (.keep [1, 3, 4, 6, 7, 71] (.cond (.tmp 71) (.keep [1, 3, 4, 6, 7] (.rego 16 [⟨some 72, .mov (.tmp 4), none⟩, ⟨some 73, .fad 3 (.tmp 7), none⟩, ⟨some 74, .fad 0 (.tmp 73), none⟩, ⟨some 75, .load false 1 (.tmp 74), none⟩, ⟨some 76, .iaS 1 (.tmp 72) (.tmp 75), none⟩, ⟨none, .store 1 (.tmp 76) (.con (.bool true)), none⟩])) .skip))) (.keep [1, 3, 4, 6, 7] (.seq (.rego 17 [⟨some 77, .fad 5 (.tmp 7), none⟩, ⟨some 78, .load true 16 (.tmp 77), none⟩, ⟨some 79, .call 24 [.tmp 78], none⟩, ⟨some 8, .mov (.tmp 79), none⟩]) (.keep [1, 3, 4, 6, 7, 8] (.seq (.rego 18 [⟨some 9, .mov (.con (.int .i64 0)), none⟩]) (.keep [1, 3, 4, 6, 7, 8, 9] (.block 4 (.loop (.seq (.seq (.rego 19 [⟨some 80, .mov (.tmp 9), none⟩, ⟨some 81, .mov (.tmp 8), none⟩, ⟨some 82, .len false (.tmp 81), none⟩, ⟨some 83, .bin .lss (.tmp 80) (.tmp 82), none⟩, ⟨some 84, .mov (.tmp 83), none⟩, ⟨some 85, .fad 0 (.tmp 7), some ⟨84, true⟩⟩, ⟨some 86, .load false 1 (.tmp 85), some ⟨84, true⟩⟩, ⟨some 87, .bin .eql (.tmp 86) (.con (.int .i64 1)), some ⟨84, true⟩⟩, ⟨some 88, .pick (.tmp 84) (.tmp 87) (.con (.bool false)), none⟩]) (.keep [1, 3, 4, 6, 7, 8, 9, 88] (.cond (.tmp 88) .skip (.exit 4)))) (.keep [1, 3, 4, 6, 7, 8, 9] (.seq (.block 5 (.seq (.rego 21 [⟨some 91, .mov (.tmp 8), none⟩, ⟨some 92, .mov (.tmp 9), none⟩, ⟨some 93, .iaS 4 (.tmp 91) (.tmp 92), none⟩, ⟨some 94, .fad 0 (.tmp 93), none⟩, ⟨some 95, .load false 1 (.tmp 94), none⟩, ⟨some 96, .bin .eql (.tmp 95) (.con (.int .i64 4)), none⟩]) (.keep [1, 3, 4, 6, 7, 8, 9, 96] (.cond (.tmp 96) (.keep [1, 3, 4, 6, 7, 8, 9] (.rego 22 [⟨some 97, .mov (.tmp 4), none⟩, ⟨some 98, .mov (.tmp 8), none⟩, ⟨some 99, .mov (.tmp 9), none⟩, ⟨some 100, .iaS 4 (.tmp 98) (.tmp 99), none⟩, ⟨some 101, .fad 2 (.tmp 100), none⟩, ⟨some 102, .fad 0 (.tmp 101), none⟩, ⟨some 103, .load false 1 (.tmp 102), none⟩, ⟨some 104, .iaS 1 (.tmp 97) (.tmp 103), none⟩, ⟨none, .store 1 (.tmp 104) (.con (.bool true)), none⟩])) .skip)))) (.keep [1, 3, 4, 6, 7, 8, 9] (.rego 20 [⟨some 89, .mov (.tmp 9), none⟩, ⟨some 90, .bin .add (.tmp 89) (.con (.int .i64 1)), none⟩, ⟨some 9, .mov (.tmp 90), none⟩])))))))))))))))) (.keep [1, 3, 4, 6] (.rego 13 [⟨some 57, .mov (.tmp 6), none⟩, ⟨some 58, .bin .add (.tmp 57) (.con (.int .i64 1)), none⟩, ⟨some 6, .mov (.tmp 58), none⟩]))))))))) (.keep [1, 3, 4] (.seq (.rego 23 [⟨some 10, .mov (.con (.bool true)), none⟩]) (.keep [1, 3, 4, 10] (.seq (.seq (.rego 24 [⟨some 11, .mov (.con (.int .i64 0)), none⟩]) (.keep [1, 3, 4, 10, 11] (.block 6 (.loop (.seq (.seq (.rego 25 [⟨some 105, .mov (.tmp 11), none⟩, ⟨some 106, .mov (.tmp 4), none⟩, ⟨some 107, .len false (.tmp 106), none⟩, ⟨some 108, .bin .lss (.tmp 105) (.tmp 107), none⟩]) (.keep [1, 3, 4, 10, 11, 108] (.cond (.tmp 108) .skip (.exit 6)))) (.keep [1, 3, 4, 10, 11] (.seq (.block 7 (.rego 27 [⟨some 111, .mov (.tmp 10), none⟩, ⟨some 112, .mov (.tmp 111), none⟩, ⟨some 113, .mov (.tmp 4), some ⟨112, true⟩⟩, ⟨some 114, .mov (.tmp 11), some ⟨112, true⟩⟩, ⟨some 115, .iaS 1 (.tmp 113) (.tmp 114), some ⟨112, true⟩⟩, ⟨some 116, .load false 1 (.tmp 115), some ⟨112, true⟩⟩, ⟨some 117, .un .not (.tmp 116), some ⟨112, true⟩⟩, ⟨some 118, .pick (.tmp 112) (.tmp 117) (.con (.bool false)), none⟩, ⟨some 10, .mov (.tmp 118), none⟩])) (.keep [1, 3, 4, 10, 11] (.rego 26 [⟨some 109, .mov (.tmp 11), none⟩, ⟨some 110, .bin .add (.tmp 109) (.con (.int .i64 1)), none⟩, ⟨some 11, .mov (.tmp 110), none⟩]))))))))) (.keep [1, 3, 4, 10] (.seq (.seq (.rego 28 [⟨some 12, .mov (.con (.int .i64 0)), none⟩]) (.keep [1, 3, 4, 10, 12] (.block 8 (.loop (.seq (.seq (.rego 29 [⟨some 119, .mov (.tmp 12), none⟩, ⟨some 120, .mov (.tmp 3), none⟩, ⟨some 121, .len false (.tmp 120), none⟩, ⟨some 122, .bin .lss (.tmp 119) (.tmp 121), none⟩]) (.keep [1, 3, 4, 10, 12, 122] (.cond (.tmp 122) .skip (.exit 8)))) (.keep [1, 3, 4, 10, 12] (.seq (.block 9 (.seq (.rego 31 [⟨some 13, .mov (.con (.int .i64 0)), none⟩]) (.keep [1, 3, 4, 10, 12, 13] (.block 10 (.loop (.seq (.seq (.rego 32 [⟨some 125, .mov (.tmp 13), none⟩, ⟨some 126, .mov (.tmp 3), none⟩, ⟨some 127, .mov (.tmp 12), none⟩, ⟨some 128, .iaS 1 (.tmp 126) (.tmp 127), none⟩, ⟨some 129, .load false 1 (.tmp 128), none⟩, ⟨some 130, .len false (.tmp 129), none⟩, ⟨some 131, .bin .lss (.tmp 125) (.tmp 130), none⟩]) (.keep [1, 3, 4, 10, 12, 13, 131] (.cond (.tmp 131) .skip (.exit 10)))) (.keep [1, 3, 4, 10, 12, 13] (.seq (.block 11 (.seq (.rego 34 [⟨some 134, .mov (.tmp 3), none⟩, ⟨some 135, .mov (.tmp 12), none⟩, ⟨some 136, .iaS 1 (.tmp 134) (.tmp 135), none⟩, ⟨some 137, .load false 1 (.tmp 136), none⟩, ⟨some 138, .mov (.tmp 13), none⟩, ⟨some 139, .iaS 2 (.tmp 137) (.tmp 138), none⟩, ⟨some 140, .fad 0 (.tmp 139), none⟩, ⟨some 141, .load false 1 (.tmp 140), none⟩, ⟨some 14, .mov (.tmp 141), none⟩]) (.keep [1, 3, 4, 10, 12, 13, 14] (.seq (.rego 35 [⟨some 142, .mov (.tmp 14), none⟩, ⟨some 143, .bin .lss (.tmp 142) (.con (.int .i64 0)), none⟩, ⟨some 144, .mov (.tmp 143), none⟩, ⟨some 145, .mov (.tmp 14), some ⟨144, false⟩⟩, ⟨some 146, .mov (.tmp 4), some ⟨144, false⟩⟩, ⟨some 147, .len false (.tmp 146), some ⟨144, false⟩⟩, ⟨some 148, .bin .geq (.tmp 145) (.tmp 147), some ⟨144, false⟩⟩, ⟨some 149, .pick (.tmp 144) (.con (.bool true)) (.tmp 148), none⟩, ⟨some 150, .mov (.tmp 149), none⟩, ⟨some 151, .mov (.tmp 4), some ⟨150, false⟩⟩, ⟨some 152, .mov (.tmp 14), some ⟨150, false⟩⟩, ⟨some 153, .iaS 1 (.tmp 151) (.tmp 152), some ⟨150, false⟩⟩, ⟨some 154, .load false 1 (.tmp 153), some ⟨150, false⟩⟩, ⟨some 155, .un .not (.tmp 154), some ⟨150, false⟩⟩, ⟨some 156, .pick (.tmp 150) (.con (.bool true)) (.tmp 155), none⟩]) (.keep [1, 3, 4, 10, 12, 13, 156] (.cond (.tmp 156) (.keep [] (.seq (.rego 36 [⟨some 2, .mov (.con (.bool false)), none⟩]) .ret)) .skip)))))) (.keep [1, 3, 4, 10, 12, 13] (.rego 33 [⟨some 132, .mov (.tmp 13), none⟩, ⟨some 133, .bin .add (.tmp 132) (.con (.int .i64 1)), none⟩, ⟨some 13, .mov (.tmp 133), none⟩])))))))))) (.keep [1, 3, 4, 10, 12] (.rego 30 [⟨some 123, .mov (.tmp 12), none⟩, ⟨some 124, .bin .add (.tmp 123) (.con (.int .i64 1)), none⟩, ⟨some 12, .mov (.tmp 124), none⟩]))))))))) (.keep [1, 10] (.seq (.rego 37 [⟨some 157, .call 8 [], none⟩, ⟨some 158, .mov (.tmp 157), none⟩, ⟨some 159, .mov (.tmp 10), some ⟨158, true⟩⟩, ⟨some 160, .un .not (.tmp 159), some ⟨158, true⟩⟩, ⟨some 161, .mov (.tmp 160), some ⟨158, true⟩⟩, ⟨some 162, .load true 6 (.tmp 1), some ⟨161, false⟩⟩, ⟨some 163, .call 25 [.tmp 162], some ⟨161, false⟩⟩, ⟨some 164, .len false (.tmp 163), some ⟨161, false⟩⟩, ⟨some 165, .bin .eql (.tmp 164) (.con (.int .i64 0)), some ⟨161, false⟩⟩, ⟨some 166, .pick (.tmp 161) (.con (.bool true)) (.tmp 165), some ⟨158, true⟩⟩, ⟨some 167, .pick (.tmp 158) (.tmp 166) (.con (.bool false)), none⟩, ⟨some 2, .mov (.tmp 167), none⟩]) .ret))))))))))))))))))))
theorem fdh6 : fnData Tryz.prog 6 = some (168, lch6.erase, [LRV.tmp 2]) := by kernel_rfl

end Go.Proofs.YtlkdcgfjmhjjpaaGreat

set_option linter.unusedSimpArgs false
set_option linter.unusedVariables false
namespace Go.Proofs.YtlkdcgfjmhjjpaaGreat
open Go Go.Lg Go.RowKit
set_option linter.unusedVariables false
set_option linter.unusedSimpArgs false
set_option maxRecDepth 20000

theorem idx_front : ∀ (l : List ByteArray) (k : Int), idx (fun x => decide ((⟨#[42]⟩ : ByteArray) = x)) l k = if frontN l = l.length then -1 else k + frontN l
  | [], _ => rfl
  | x :: r, k => by
    rw [idx, frontN]
    by_cases h : x = (⟨#[42]⟩ : ByteArray)
    · rw [if_pos (by rw [h]; simp), if_pos h, if_neg (by simp)]; omega
    · rw [if_neg (by simpa using fun e => h e.symm), if_neg h, idx_front r (k + 1)]
      have : (frontN r + 1 = (x :: r).length) ↔ frontN r = r.length := by rw [List.length_cons]; omega
      by_cases h2 : frontN r = r.length
      · rw [if_pos h2, if_pos (this.2 h2)]
      · rw [if_neg h2, if_neg (fun e => h2 (this.1 e))]; omega
theorem ls_takeN : ∀ (n : Nat) (l : List ByteArray), List.take n (l.flatMap cS) = (l.take n).flatMap cS
  | 0, _ => rfl
  | _ + 1, [] => rfl
  | n + 1, x :: l => by
    have := ls_takeN n l
    rw [List.flatMap_cons, List.take_succ_cons, List.flatMap_cons, ← this]; rfl
theorem mp_setB (a b c : V) : setCells [a, b] 1 [c] = [a, c] := rfl
theorem mp_setC' (a b : V) (p : MPath) : setCells [a, b] 0 p.cells = p.cells := mp_set0 a b p
theorem mp_setC (a b c d : V) : setCells [a, b] 0 [c, d] = [c, d] := rfl
theorem frontM_ret (p : MPath) (hp : smallP p) : PRet Tryz.prog 76 [.agg p.cells] (.agg (frontP p).cells) := by
  unfold smallP at hp
  have hle := frontN_le p.steps
  refine pret_intro fdg76 (by simp) ?_
  simp only [lcg76, VCA, simprocAttr, encL, MCA]
  refine callX_of (idxS_ret p.steps _ (by omega)) (.inr rfl) ?_
  simp only [VCA, simprocAttr, encL, MCA]
  rw [idx_front]
  by_cases h : frontN p.steps = p.steps.length
  · rw [if_pos h]
    simp only [VCA, simprocAttr, encL, MCA, mp_setA, mp_setB, mp_setC, mp_ld, List.all_cons, List.all_nil, Bool.and_true, List.length_cons, List.length_nil]
    have e : frontP p = p := by rw [frontP, h, List.take_length]
    refine ⟨by omega, ⟨by omega, by omega⟩, ?_⟩
    rw [e]
    simp only [VCA, simprocAttr, encL, MCA, mp_c, List.map_cons, List.map_nil]
  · rw [if_neg h]
    have h1 : ¬ (0 + (frontN p.steps : Int) < 0) := by omega
    have h2 : (0 : Int) ≤ 0 + (frontN p.steps : Int) ∧ 0 + (frontN p.steps : Int) ≤ p.steps.length := by omega
    have h3 : (0 + (frontN p.steps : Int)).toNat = frontN p.steps := by omega
    simp only [VCA, simprocAttr, encL, MCA, h1, decide_false, h2, h3, mp_setA, mp_setB, mp_setC, mp_ld, List.all_cons, List.all_nil, Bool.and_true, List.length_cons, List.length_nil]
    have e1 : List.take (frontN p.steps) (p.steps.flatMap cS) = (frontP p).steps.flatMap cS := ls_takeN _ _
    have e2 : (frontP p).steps.length = frontN p.steps := by rw [frontP, List.length_take]; omega
    simp only [VCA, simprocAttr, encL, MCA, e1, ls_len, e2, if_true, ls_one, mp_setA, mp_setB, mp_setC, mp_ld, List.all_cons, List.all_nil, Bool.and_true, List.length_cons, List.length_nil]
    refine ⟨hle, ⟨by omega, by omega⟩, ?_⟩
    rw [mp_c, e2]
    rfl
theorem small_front {p : MPath} (h : smallP p) : smallP (frontP p) := by
  unfold smallP at h ⊢
  have : (frontP p).steps.length ≤ p.steps.length := by rw [frontP, List.length_take]; exact Nat.min_le_right _ _
  omega
theorem lost1_ret (x f : MPath) (hx : smallP x) (hf : smallP f) : PRet Tryz.prog 77 [.agg x.cells, .ip f.cells 0] (.bool (prefS f x || prefS x f)) := by
  have h1 : x.steps.length ≤ 4611686018427387904 := by unfold smallP at hx; omega
  have h2 : f.steps.length ≤ 4611686018427387904 := by unfold smallP at hf; omega
  refine pret_intro fdg77 (by simp) ?_
  simp only [lcg77, VCA, simprocAttr, encL, MCA]
  refine callX_of (pref_ret f x h2) (.inr rfl) ?_
  cases b1 : prefS f x <;> simp only [VCA, simprocAttr, encL, MCA, b1, Bool.false_or, Bool.true_or]
  refine callX_of (pref_ret x f h1) (.inr rfl) ?_
  simp only [VCA, simprocAttr, encL, MCA]
/-- May a path, or a part of it, be gone? -/
def lostS (l : List MPath) (p : MPath) : Bool := l.any fun x => prefS (frontP p) x || prefS x (frontP p)
theorem lost_ret (l : List MPath) (p : MPath) (hl : l.length ≤ 1000000) (hp : smallP p) (hx : ∀ x ∈ l, smallP x) : PRet Tryz.prog 67 [encL MPath.cells l, .agg p.cells] (.bool (lostS l p)) := by
  refine pret_intro fdg67 (by simp) ?_
  simp only [lcg67, VCA, simprocAttr, encL, MCA]
  refine callX_of (frontM_ret p hp) (.inl rfl) ?_
  simp only [VCA, simprocAttr, encL, MCA, mp_setC', mp_ld]
  refine callX_of (containsP_ret l _ [.ip (frontP p).cells 0] (fun x => prefS (frontP p) x || prefS x (frontP p)) (by rw [maxLen_eq]; omega) (fun H => rfl) (fun H => rfl) (fun H => rfl) (fun H => rfl) (fun x h => lost1_ret x (frontP p) (hx x h) (small_front hp))) (.inr rfl) ?_
  simp only [VCA, simprocAttr, encL, MCA, lostS]
theorem part_no (l : List MPath) (x : MInst) (h : x.kind ≠ 1 ∨ l = []) (ht : smallP x.to) : PRet Tryz.prog 50 [encL MPath.cells l, .agg x.cells] (.bool false) := by
  have hps : x.to.steps.length ≤ 4611686018427387904 := by unfold smallP at ht; omega
  refine pret_intro fdg50 (by simp) ?_
  simp only [lcg50, VCA, simprocAttr, encL, MCA]
  cases b1 : decide (x.kind = 1) <;> simp only [VCA, simprocAttr, encL, MCA, b1]
  cases b2 : x.has <;> simp only [VCA, simprocAttr, encL, MCA, b2]
  cases b3 : decide ((x.to.steps.length : Int) = 0) <;> simp only [VCA, simprocAttr, encL, MCA, b3]
  refine callX_of (hasS_ret x.to.steps _ hps) (.inr rfl) ?_
  cases b4 : x.to.steps.any (fun y => decide ((⟨#[42]⟩ : ByteArray) = y)) <;> simp only [VCA, simprocAttr, encL, MCA, b4]
  have hl : l = [] := by
    rcases h with h | h
    · exact absurd (of_decide_eq_true b1) h
    · exact h
  subst hl
  refine callX_of (containsP_ret [] _ [.ip x.cells 0] (fun _ => false) (Nat.zero_le _) (fun H => by simp only [VCA, simprocAttr, encL, MCA, List.all_cons, List.all_nil, Bool.and_true]) (fun H => by simp only [VCA, simprocAttr, encL, MCA, List.map_cons, List.map_nil]) (fun H => by simp only [VCA, simprocAttr, encL, MCA, List.map_cons, List.map_nil]) (fun H => by simp only [VCA, simprocAttr, encL, MCA, List.all_cons, List.all_nil, Bool.and_true]) (fun x h => by cases h)) (.inr rfl) ?_
  simp only [VCA, simprocAttr, encL, MCA, List.any_nil]
/-! What is told, in order. -/
def cD (d : Int × Int) : List V := [.int .i64 d.1, .int .i64 d.2, .int .i64 0, .int .i64 0]
theorem cD_len (d : Int × Int) : (cD d).length = 4 := rfl
theorem ld_len (l : List (Int × Int)) : (l.flatMap cD).length = l.length * 4 := flat_len cD_len l
theorem ld_snap (H : Heap) (d : Nat) (l : List (Int × Int)) : (l.flatMap cD).map (snap H (d + 1)) = l.flatMap cD := by
  induction l with
  | nil => rfl
  | cons x r ih => rw [List.flatMap_cons, List.map_append, ih]; rfl
theorem ld_sok (H : Heap) (d : Nat) (l : List (Int × Int)) : (l.flatMap cD).all (sok H (d + 1)) = true := by
  induction l with
  | nil => rfl
  | cons x r ih => rw [List.flatMap_cons, List.all_append, ih]; rfl
theorem ld_imv (d : Nat) (l : List (Int × Int)) : (l.flatMap cD).all (imV d) = true := by
  induction l with
  | nil => rfl
  | cons x r ih => rw [List.flatMap_cons, List.all_append, ih]; cases d <;> rfl
theorem ld_take {l : List (Int × Int)} {n : Nat} (h : l.length * 4 ≤ n) : (l.flatMap cD).take n = l.flatMap cD := List.take_of_length_le (by rw [ld_len]; exact h)
theorem ld_app (l : List (Int × Int)) (a c : Int) : l.flatMap cD ++ [.int .i64 a, .int .i64 c, .int .i64 0, .int .i64 0] = (l ++ [(a, c)]).flatMap cD := by rw [List.flatMap_append]; rfl
theorem nanI_ret (a : Int) : PRet Tryz.prog 71 [.int .i64 a] (.bool false) := by
  refine pret_intro fdg71 (by simp) ?_
  simp only [lcg71, VCA, simprocAttr, encL, MCA]
theorem cmpI_ret (a : Int) : PRet Tryz.prog 54 [.int .i64 a, .int .i64 a] (.int .i64 0) := by
  refine pret_intro fdg54 (by simp) ?_
  simp only [lcg54, VCA, simprocAttr, encL, MCA]
  refine callX_of (nanI_ret a) (.inr rfl) ?_
  simp only [VCA, simprocAttr, encL, MCA]
  refine callX_of (nanI_ret a) (.inr rfl) ?_
  have h : decide (a < a) = false := by simp
  simp only [VCA, simprocAttr, encL, MCA, h]
theorem orI_ret (l : List Int) (hl : ∀ x ∈ l, x = 0) (hn : l.length ≤ 100) : PRet Tryz.prog 53 [encL cI l] (.int .i64 0) := by
  refine pret_intro fdg53 (by simp) ?_
  simp only [lcg53, VCA, simprocAttr, encL, MCA]
  refine loop_vcg (ι := Nat × (Nat → Nat)) (fun y => stO [(3, .val (.int .i64 0)), (6, .val (encL cI l)), (7, .val (.int .i64 l.length)), (8, .val (.int .i64 y.1))] y.2)
    (fun y => y.1 ≤ l.length) (fun y => l.length - y.1) (0, _) (Nat.zero_le _) (ent_of _ [] rfl rfl (by simp only [VCA, simprocAttr, encL, MCA])) ?_
  rintro ⟨k, c⟩ hk
  have hk : k ≤ l.length := hk
  simp only [VCA, simprocAttr, encL, MCA]
  refine condD_of (fun h => ?_) (fun h => ?_)
  · have hk' : k < l.length := by omega
    have i1 : 0 ≤ (k : Int) ∧ (k : Int) < l.length := by omega
    have i2 : InI64 ((k : Int) + 1) := by unfold InI64; omega
    have e : l[k] = 0 := hl _ (List.getElem_mem hk')
    have e2 : decide ((0 : Int) = 0) = true := rfl
    simp only [VCA, simprocAttr, encL, MCA, hk', i1, i2, e, e2]
    exact backTo_of (k + 1, _) hk' (by first | omega | (simp only []; omega)) (ent_of _ [] rfl rfl (by simp only [VCA, simprocAttr, encL, MCA]))
  · simp only [VCA, simprocAttr, encL, MCA]
theorem diags1_ret (d : Int × Int) : PRet Tryz.prog 52 [.agg (cD d), .agg (cD d)] (.int .i64 0) := by
  refine pret_intro fdg52 (by simp) ?_
  simp only [lcg52, VCA, simprocAttr, encL, MCA, cD]
  have e1 : (ldV false 1 [V.int .i64 d.1, .int .i64 d.2, .int .i64 0, .int .i64 0] 0) = some (.int .i64 d.1) := rfl
  have e2 : (ldV false 1 [V.int .i64 d.1, .int .i64 d.2, .int .i64 0, .int .i64 0] 1) = some (.int .i64 d.2) := rfl
  simp only [VCA, simprocAttr, encL, MCA, e1, e2]
  refine callV_of (cmpI_ret d.1) (.inr rfl) ?_
  simp only [VCA, simprocAttr, encL, MCA, e1, e2]
  refine callV_of (cmpI_ret d.2) (.inr rfl) ?_
  simp only [VCA, simprocAttr, encL, MCA]
  refine ⟨rfl, callV_of (orI_ret [0, 0] (by simp) (by simp)) (.inr rfl) ?_⟩
  simp only [VCA, simprocAttr, encL, MCA]
/-- One thing told, or none, is in order. -/
theorem sortD_mut (l : List (Int × Int)) (hl : l.length < 2) : PMut Tryz.prog 51 [.fn 52 []] 4 l.length (l.flatMap cD) none (l.flatMap cD) := by
  have key : ∀ d : Int × Int, ∀ m : List PUnit, m.length < 2 → PMut Tryz.prog 51 [.fn 52 []] 4 m.length (m.flatMap fun _ => cD d) none (m.flatMap fun _ => cD d) := by
    intro d m hm
    refine sortFunc_mut Tryz.sortD (k := 4) (by decide) Tryz.isAgg63 Tryz.sizeOf63 (fun _ : PUnit => cD d) (fun _ => rfl) (fun x v hv => ?_) (fun _ _ => 0) ?_ 52 [] (by kernel_rfl) (by kernel_rfl) (fun x y => diags1_ret d) m m (by omega) (fun m2 h1 h2 => ?_)
    · have : (cD d).all V.one = true := rfl
      exact List.all_eq_true.1 this v hv
    · have h : ∀ a b : PUnit, Go.Proofs.ltOf (fun _ _ : PUnit => (0 : Int)) a b = false := fun a b => rfl
      refine ⟨fun x => h _ _, fun x y z h1 h2 => ?_, fun x y z h1 h2 => h _ _⟩
      rw [h] at h1; cases h1
    · have := h1.length_eq
      have e : ∀ a b : List PUnit, a.length = b.length → a = b := by
        intro a
        induction a with
        | nil => intro b hb; cases b with
          | nil => rfl
          | cons => cases hb
        | cons x a ih => intro b hb; cases b with
          | nil => cases hb
          | cons y b => rw [ih b (by simpa using hb)]
      exact e _ _ this
  cases l with
  | nil => exact key (0, 0) [] (by decide)
  | cons d l =>
    cases l with
    | nil => exact key d [PUnit.unit] (by decide)
    | cons _ _ => simp only [List.length_cons] at hl; omega
end Go.Proofs.YtlkdcgfjmhjjpaaGreat

set_option linter.unusedSimpArgs false
set_option linter.unusedVariables false
namespace Go.Proofs.YtlkdcgfjmhjjpaaGreat
open Go Go.Lg Go.RowKit
set_option linter.unusedVariables false
set_option linter.unusedSimpArgs false
set_option maxRecDepth 20000

theorem lost_nil (p : MPath) (hp : smallP p) : PRet Tryz.prog 67 [encL MPath.cells [], .agg p.cells] (.bool false) := lost_ret [] p (Nat.zero_le _) hp fun x h => by cases h
set_option maxHeartbeats 2000000 in
theorem uses_set (x : MInst) (h1 : x.kind = 1) (h4 : ∀ o ∈ opersL x.val, o.kind ≠ 4) (hn : (opersL x.val).length ≤ 100000) (ho : smallO (opersL x.val)) (hp : smallP x.val.path) (ht : smallP x.to) :
    PRet Tryz.prog 49 [encL MPath.cells [], .agg x.cells] (.tup [.bool false, encL MPath.cells []]) := by
  have hps : x.to.steps.length ≤ 4611686018427387904 := by unfold smallP at ht; omega
  have b1 : decide (x.kind = 1) = true := decide_eq_true h1
  refine pret_intro fdh49 (by simp) ?_
  simp only [lch49, VCA, simprocAttr, encL, MCA, b1]
  have tail0 : InI64 0 := by unfold InI64; omega
  cases b2 : decide (x.val.kind = 2) <;> simp only [VCA, simprocAttr, encL, MCA, b2]
  · cases b3 : decide (x.val.kind = 3) <;> simp only [VCA, simprocAttr, encL, MCA, b3]
    case true => 
      refine callX_of (lost_nil x.val.path hp) (.inr rfl) ?_
      simp only [VCA, simprocAttr, encL, MCA]
      refine callX_inl fdh40 (by simp) ?_
      simp only [lch40, VCA, simprocAttr, encL, MCA]
      refine callX_of (opersG_ret x.val) (.inl rfl) ?_
      simp only [VCA, simprocAttr, encL, MCA]
      generalize hos : opersL x.val = os at *
      refine loop_vcg (ι := Nat × (Nat → Nat)) (fun y => stO [(0, .val (encL MPath.cells [])), (2, .clo 66 [100012]), (10, .val (encL MOper.cells os)), (11, .val (.int .i64 os.length)), (12, .val (.int .i64 y.1)), (100006, .box x.cells), (100012, .box [.bool false])] y.2)
        (fun y => y.1 ≤ os.length) (fun y => os.length - y.1) (0, _) (Nat.zero_le _) (ent_of _ [] rfl rfl (by simp only [VCA, simprocAttr, encL, MCA]; rfl)) ?_
      rintro ⟨k, c⟩ hk
      have hk : k ≤ os.length := hk
      simp only [VCA, simprocAttr, encL, MCA]
      refine condD_of (fun h => ?_) (fun h => ?_)
      · have hk' : k < os.length := by omega
        have i1 : 0 ≤ (k : Int) ∧ (k : Int) < os.length := by omega
        have i2 : InI64 ((k : Int) + 1) := by unfold InI64; omega
        have k4 : decide (os[k].kind = 4) = false := decide_eq_false (h4 _ (List.getElem_mem hk'))
        simp only [VCA, simprocAttr, encL, MCA, hk', i1]
        refine callX_inl fdh66 (by simp) ?_
        simp only [lch66, VCA, simprocAttr, encL, MCA]
        cases c3 : decide (os[k].kind = 3) <;> simp only [VCA, simprocAttr, encL, MCA, c3, k4]
        · simp only [VCA, simprocAttr, encL, MCA, List.mapM_nil, List.mapM_cons, Option.pure_def, Option.bind_eq_bind, Option.bind_some, Option.map_some, Option.some.injEq, exists_eq_left']
          exact ⟨i2, backTo_of (k + 1, _) hk' (by first | omega | (simp only []; omega)) (ent_of _ [] rfl rfl (by simp only [VCA, simprocAttr, encL, MCA]; rfl))⟩
        · refine callX_of (lost_nil os[k].path (ho _ (List.getElem_mem hk'))) (.inr rfl) ?_
          simp only [VCA, simprocAttr, encL, MCA, k4]
          simp only [VCA, simprocAttr, encL, MCA, List.mapM_nil, List.mapM_cons, Option.pure_def, Option.bind_eq_bind, Option.bind_some, Option.map_some, Option.some.injEq, exists_eq_left']
          exact ⟨i2, backTo_of (k + 1, _) hk' (by first | omega | (simp only []; omega)) (ent_of _ [] rfl rfl (by simp only [VCA, simprocAttr, encL, MCA]; rfl))⟩
      · have hk' : k = os.length := by omega
        subst hk'
        simp only [VCA, simprocAttr, encL, MCA]
        cases d1 : x.has <;> simp only [VCA, simprocAttr, encL, MCA, d1]
        · simp only [VCA, simprocAttr, encL, MCA, List.mapM_nil, List.mapM_cons, Option.pure_def, Option.bind_eq_bind, Option.bind_some, Option.map_some, Option.some.injEq, exists_eq_left']
        · refine callX_of (hasS_ret x.to.steps _ hps) (.inr rfl) ?_
          cases d2 : x.to.steps.any (fun y => decide ((⟨#[42]⟩ : ByteArray) = y)) <;> simp only [VCA, simprocAttr, encL, MCA, d2]
          · simp only [VCA, simprocAttr, encL, MCA, List.mapM_nil, List.mapM_cons, Option.pure_def, Option.bind_eq_bind, Option.bind_some, Option.map_some, Option.some.injEq, exists_eq_left']
          · refine callX_of (lost_nil x.to ht) (.inr rfl) ?_
            simp only [VCA, simprocAttr, encL, MCA]
            simp only [VCA, simprocAttr, encL, MCA, List.mapM_nil, List.mapM_cons, Option.pure_def, Option.bind_eq_bind, Option.bind_some, Option.map_some, Option.some.injEq, exists_eq_left']
    case false =>
      refine callX_inl fdh40 (by simp) ?_
      simp only [lch40, VCA, simprocAttr, encL, MCA]
      refine callX_of (opersG_ret x.val) (.inl rfl) ?_
      simp only [VCA, simprocAttr, encL, MCA]
      generalize hos : opersL x.val = os at *
      refine loop_vcg (ι := Nat × (Nat → Nat)) (fun y => stO [(0, .val (encL MPath.cells [])), (2, .clo 66 [100012]), (10, .val (encL MOper.cells os)), (11, .val (.int .i64 os.length)), (12, .val (.int .i64 y.1)), (100006, .box x.cells), (100012, .box [.bool false])] y.2)
        (fun y => y.1 ≤ os.length) (fun y => os.length - y.1) (0, _) (Nat.zero_le _) (ent_of _ [] rfl rfl (by simp only [VCA, simprocAttr, encL, MCA]; rfl)) ?_
      rintro ⟨k, c⟩ hk
      have hk : k ≤ os.length := hk
      simp only [VCA, simprocAttr, encL, MCA]
      refine condD_of (fun h => ?_) (fun h => ?_)
      · have hk' : k < os.length := by omega
        have i1 : 0 ≤ (k : Int) ∧ (k : Int) < os.length := by omega
        have i2 : InI64 ((k : Int) + 1) := by unfold InI64; omega
        have k4 : decide (os[k].kind = 4) = false := decide_eq_false (h4 _ (List.getElem_mem hk'))
        simp only [VCA, simprocAttr, encL, MCA, hk', i1]
        refine callX_inl fdh66 (by simp) ?_
        simp only [lch66, VCA, simprocAttr, encL, MCA]
        cases c3 : decide (os[k].kind = 3) <;> simp only [VCA, simprocAttr, encL, MCA, c3, k4]
        · simp only [VCA, simprocAttr, encL, MCA, List.mapM_nil, List.mapM_cons, Option.pure_def, Option.bind_eq_bind, Option.bind_some, Option.map_some, Option.some.injEq, exists_eq_left']
          exact ⟨i2, backTo_of (k + 1, _) hk' (by first | omega | (simp only []; omega)) (ent_of _ [] rfl rfl (by simp only [VCA, simprocAttr, encL, MCA]; rfl))⟩
        · refine callX_of (lost_nil os[k].path (ho _ (List.getElem_mem hk'))) (.inr rfl) ?_
          simp only [VCA, simprocAttr, encL, MCA, k4]
          simp only [VCA, simprocAttr, encL, MCA, List.mapM_nil, List.mapM_cons, Option.pure_def, Option.bind_eq_bind, Option.bind_some, Option.map_some, Option.some.injEq, exists_eq_left']
          exact ⟨i2, backTo_of (k + 1, _) hk' (by first | omega | (simp only []; omega)) (ent_of _ [] rfl rfl (by simp only [VCA, simprocAttr, encL, MCA]; rfl))⟩
      · have hk' : k = os.length := by omega
        subst hk'
        simp only [VCA, simprocAttr, encL, MCA]
        cases d1 : x.has <;> simp only [VCA, simprocAttr, encL, MCA, d1]
        · simp only [VCA, simprocAttr, encL, MCA, List.mapM_nil, List.mapM_cons, Option.pure_def, Option.bind_eq_bind, Option.bind_some, Option.map_some, Option.some.injEq, exists_eq_left']
        · refine callX_of (hasS_ret x.to.steps _ hps) (.inr rfl) ?_
          cases d2 : x.to.steps.any (fun y => decide ((⟨#[42]⟩ : ByteArray) = y)) <;> simp only [VCA, simprocAttr, encL, MCA, d2]
          · simp only [VCA, simprocAttr, encL, MCA, List.mapM_nil, List.mapM_cons, Option.pure_def, Option.bind_eq_bind, Option.bind_some, Option.map_some, Option.some.injEq, exists_eq_left']
          · refine callX_of (lost_nil x.to ht) (.inr rfl) ?_
            simp only [VCA, simprocAttr, encL, MCA]
            simp only [VCA, simprocAttr, encL, MCA, List.mapM_nil, List.mapM_cons, Option.pure_def, Option.bind_eq_bind, Option.bind_some, Option.map_some, Option.some.injEq, exists_eq_left']
  · refine callX_of (lost_nil x.val.path hp) (.inr rfl) ?_
    simp only [VCA, simprocAttr, encL, MCA]
    refine callX_inl fdh40 (by simp) ?_
    simp only [lch40, VCA, simprocAttr, encL, MCA]
    refine callX_of (opersG_ret x.val) (.inl rfl) ?_
    simp only [VCA, simprocAttr, encL, MCA]
    generalize hos : opersL x.val = os at *
    refine loop_vcg (ι := Nat × (Nat → Nat)) (fun y => stO [(0, .val (encL MPath.cells [])), (2, .clo 66 [100012]), (10, .val (encL MOper.cells os)), (11, .val (.int .i64 os.length)), (12, .val (.int .i64 y.1)), (100006, .box x.cells), (100012, .box [.bool false])] y.2)
      (fun y => y.1 ≤ os.length) (fun y => os.length - y.1) (0, _) (Nat.zero_le _) (ent_of _ [] rfl rfl (by simp only [VCA, simprocAttr, encL, MCA]; rfl)) ?_
    rintro ⟨k, c⟩ hk
    have hk : k ≤ os.length := hk
    simp only [VCA, simprocAttr, encL, MCA]
    refine condD_of (fun h => ?_) (fun h => ?_)
    · have hk' : k < os.length := by omega
      have i1 : 0 ≤ (k : Int) ∧ (k : Int) < os.length := by omega
      have i2 : InI64 ((k : Int) + 1) := by unfold InI64; omega
      have k4 : decide (os[k].kind = 4) = false := decide_eq_false (h4 _ (List.getElem_mem hk'))
      simp only [VCA, simprocAttr, encL, MCA, hk', i1]
      refine callX_inl fdh66 (by simp) ?_
      simp only [lch66, VCA, simprocAttr, encL, MCA]
      cases c3 : decide (os[k].kind = 3) <;> simp only [VCA, simprocAttr, encL, MCA, c3, k4]
      · simp only [VCA, simprocAttr, encL, MCA, List.mapM_nil, List.mapM_cons, Option.pure_def, Option.bind_eq_bind, Option.bind_some, Option.map_some, Option.some.injEq, exists_eq_left']
        exact ⟨i2, backTo_of (k + 1, _) hk' (by first | omega | (simp only []; omega)) (ent_of _ [] rfl rfl (by simp only [VCA, simprocAttr, encL, MCA]; rfl))⟩
      · refine callX_of (lost_nil os[k].path (ho _ (List.getElem_mem hk'))) (.inr rfl) ?_
        simp only [VCA, simprocAttr, encL, MCA, k4]
        simp only [VCA, simprocAttr, encL, MCA, List.mapM_nil, List.mapM_cons, Option.pure_def, Option.bind_eq_bind, Option.bind_some, Option.map_some, Option.some.injEq, exists_eq_left']
        exact ⟨i2, backTo_of (k + 1, _) hk' (by first | omega | (simp only []; omega)) (ent_of _ [] rfl rfl (by simp only [VCA, simprocAttr, encL, MCA]; rfl))⟩
    · have hk' : k = os.length := by omega
      subst hk'
      simp only [VCA, simprocAttr, encL, MCA]
      cases d1 : x.has <;> simp only [VCA, simprocAttr, encL, MCA, d1]
      · simp only [VCA, simprocAttr, encL, MCA, List.mapM_nil, List.mapM_cons, Option.pure_def, Option.bind_eq_bind, Option.bind_some, Option.map_some, Option.some.injEq, exists_eq_left']
      · refine callX_of (hasS_ret x.to.steps _ hps) (.inr rfl) ?_
        cases d2 : x.to.steps.any (fun y => decide ((⟨#[42]⟩ : ByteArray) = y)) <;> simp only [VCA, simprocAttr, encL, MCA, d2]
        · simp only [VCA, simprocAttr, encL, MCA, List.mapM_nil, List.mapM_cons, Option.pure_def, Option.bind_eq_bind, Option.bind_some, Option.map_some, Option.some.injEq, exists_eq_left']
        · refine callX_of (lost_nil x.to ht) (.inr rfl) ?_
          simp only [VCA, simprocAttr, encL, MCA]
          simp only [VCA, simprocAttr, encL, MCA, List.mapM_nil, List.mapM_cons, Option.pure_def, Option.bind_eq_bind, Option.bind_some, Option.map_some, Option.some.injEq, exists_eq_left']
/-- What is told of a point that is no setting: only that it drops what may be gone. -/
theorem uses_not (l : List MPath) (x : MInst) (h1 : x.kind ≠ 1) (h4 : x.kind = 4 → l = []) (hl : l.length ≤ 1000000) (hx : ∀ y ∈ l, smallP y) (ht : smallP x.to) (ha : smallP x.val.a.path) :
    PRet Tryz.prog 49 [encL MPath.cells l, .agg x.cells] (.tup [.bool (decide (x.kind = 3) && lostS l x.to), encL MPath.cells l]) := by
  have b1 : decide (x.kind = 1) = false := decide_eq_false h1
  refine pret_intro fdh49 (by simp) ?_
  simp only [lch49, VCA, simprocAttr, encL, MCA, b1]
  cases b3 : decide (x.kind = 3) <;> simp only [VCA, simprocAttr, encL, MCA, b3, Bool.false_and, Bool.true_and]
  · cases b4 : decide (x.kind = 4) <;> simp only [VCA, simprocAttr, encL, MCA, b4]
    · simp only [VCA, simprocAttr, encL, MCA, List.mapM_nil, List.mapM_cons, Option.pure_def, Option.bind_eq_bind, Option.bind_some, Option.map_some, Option.some.injEq, exists_eq_left', mp_snap, List.map_cons, List.map_nil]
    · have hl0 := h4 (of_decide_eq_true b4)
      subst hl0
      refine callX_inl fdh66 (by simp) ?_
      simp only [lch66, VCA, simprocAttr, encL, MCA]
      cases c3 : decide (x.val.a.kind = 3) <;> simp only [VCA, simprocAttr, encL, MCA, c3]
      · cases c4 : decide (x.val.a.kind = 4) <;> simp only [VCA, simprocAttr, encL, MCA, c4]
        · simp only [VCA, simprocAttr, encL, MCA, List.mapM_nil, List.mapM_cons, Option.pure_def, Option.bind_eq_bind, Option.bind_some, Option.map_some, Option.some.injEq, exists_eq_left', mp_snap, List.map_cons, List.map_nil]
          exact ⟨_, rfl⟩
        · refine callX_of (lost_nil x.val.a.path ha) (.inr rfl) ?_
          simp only [VCA, simprocAttr, encL, MCA, List.mapM_nil, List.mapM_cons, Option.pure_def, Option.bind_eq_bind, Option.bind_some, Option.map_some, Option.some.injEq, exists_eq_left', mp_snap, List.map_cons, List.map_nil]
          exact ⟨_, rfl⟩
      · refine callX_of (lost_nil x.val.a.path ha) (.inr rfl) ?_
        simp only [VCA, simprocAttr, encL, MCA, List.mapM_nil, List.mapM_cons, Option.pure_def, Option.bind_eq_bind, Option.bind_some, Option.map_some, Option.some.injEq, exists_eq_left', mp_snap, List.map_cons, List.map_nil]
        exact ⟨_, rfl⟩
  · refine callX_of (lost_ret l x.to hl ht hx) (.inr rfl) ?_
    simp only [VCA, simprocAttr, encL, MCA, List.mapM_nil, List.mapM_cons, Option.pure_def, Option.bind_eq_bind, Option.bind_some, Option.map_some, Option.some.injEq, exists_eq_left', mp_snap, List.map_cons, List.map_nil]
end Go.Proofs.YtlkdcgfjmhjjpaaGreat

set_option linter.unusedSimpArgs false
set_option linter.unusedVariables false
namespace Go.Lg
open Go Go.RowKit Go.Proofs.YtlkdcgfjmhjjpaaGreat
noncomputable def reachL (m : Mir) : List Bool := (List.range m.code.length).map (fun t => decide (0 ≤ dist0 (nx m) 0 t))
theorem reachL_len (m : Mir) : (reachL m).length = m.code.length := by simp [reachL]
/-- Is a point told of? -/
noncomputable def badAt (m : Mir) (i : Nat) : Bool := (reachL m).getD i false && (match m.code[i]? with
  | some x => decide (x.kind = 3) && lostS ((runG m).at i) x.to
  | none => false)
/-- What is told of the first points. -/
noncomputable def dgL (m : Mir) : Nat → List (Int × Int)
  | 0 => []
  | k + 1 => dgL m k ++ (if badAt m k = true then [(((m.code[k]?.map (·.at')).getD 0), 1)] else [])
theorem dgL_len (m : Mir) : ∀ k, (dgL m k).length ≤ k
  | 0 => Nat.le_refl _
  | k + 1 => by
    have := dgL_len m k
    rw [dgL, List.length_append]
    split
    · simp only [List.length_cons, List.length_nil]; omega
    · simp only [List.length_nil]; omega
theorem dgL_no {m : Mir} {k : Nat} (h : badAt m k = false) : dgL m (k + 1) = dgL m k := by rw [dgL, h]; simp
theorem dgL_yes {m : Mir} {k : Nat} (hk : k < m.code.length) (h : badAt m k = true) : dgL m (k + 1) = dgL m k ++ [(m.code[k].at', 1)] := by
  rw [dgL, h, List.getElem?_eq_getElem hk]; rfl
theorem badAt_eq {m : Mir} {k : Nat} (hk : k < m.code.length) : badAt m k = ((reachL m)[k]'(by rw [reachL_len]; exact hk) && (decide (m.code[k].kind = 3) && lostS ((runG m).at k) m.code[k].to)) := by
  unfold badAt
  rw [List.getElem?_eq_getElem hk, List.getD_eq_getElem?_getD, List.getElem?_eq_getElem (by rw [reachL_len]; exact hk)]; rfl
end Go.Lg
namespace Go.Proofs.YtlkdcgfjmhjjpaaGreat
open Go Go.Lg Go.RowKit
set_option linter.unusedVariables false
set_option linter.unusedSimpArgs false
set_option maxRecDepth 20000

theorem nz_encE (l : List MPath) : nz 6 (encE l) = encL MPath.cells l := by
  unfold encE
  split
  · rename_i e; subst e; rfl
  · simp only [nz, encL, mo_nz]
theorem nz_mi (x : MInst) : nz 6 (.agg x.cells) = .agg x.cells := by simp only [nz, mi_nz]
theorem sd_cells (a c : Int) : setCells (setCells [V.int .i64 0, .int .i64 0, .int .i64 0, .int .i64 0] 0 [V.int .i64 a]) 1 [V.int .i64 c] = [V.int .i64 a, .int .i64 c, .int .i64 0, .int .i64 0] := rfl
/-- What holds of the points at which something is gone. -/
structure dOk (m : Mir) : Prop where
  g : gOk m
  smp : ∀ x ∈ m.code, smallP x.val.path
  sma : ∀ x ∈ m.code, smallP x.val.a.path
  set : ∀ (i : Nat) (h : i < m.code.length), (reachL m)[i]'(by rw [reachL_len]; exact h) = true → m.code[i].kind = 1 → (runG m).at i = [] ∧ ∀ o ∈ opersL m.code[i].val, o.kind ≠ 4
  iff : ∀ (i : Nat) (h : i < m.code.length), (reachL m)[i]'(by rw [reachL_len]; exact h) = true → m.code[i].kind = 4 → (runG m).at i = []
theorem runG_end {m : Mir} (hN : 0 < m.code.length) (hG : okG m) : (runG m).work = [] ∧ WOk (univ m) m.code.length (runG m) := by
  refine run_end (afM_mem m) (fun i hi n hn => ?_) _ (ws0_ok m hN) (Nat.lt_succ_self _)
  unfold nx at hn
  rw [List.getElem?_eq_getElem hi] at hn
  obtain ⟨y, hy, rfl⟩ := List.mem_map.1 hn
  have := (hG.nx _ (List.getElem_mem hi)).2 y hy
  omega
theorem uses_at (m : Mir) (hd : dOk m) (i : Nat) (h : i < m.code.length) (hr : (reachL m)[i]'(by rw [reachL_len]; exact h) = true) :
    PRet Tryz.prog 49 [encE ((runG m).at i), .agg m.code[i].cells] (.tup [.bool (decide (m.code[i].kind = 3) && lostS ((runG m).at i) m.code[i].to), encL MPath.cells ((runG m).at i)]) := by
  have hxm : m.code[i] ∈ m.code := List.getElem_mem h
  have hG := okG_of hd.g.may
  obtain ⟨_, hw⟩ := runG_end hG.pos hG
  obtain ⟨hma, hsa⟩ := hw.at_mem i
  have hul := univ_len hd.g
  have hla : ((runG m).at i).length ≤ 2000 := Nat.le_trans (srt_len hsa hma) hul
  have key : PRet Tryz.prog 49 [encL MPath.cells ((runG m).at i), .agg m.code[i].cells] (.tup [.bool (decide (m.code[i].kind = 3) && lostS ((runG m).at i) m.code[i].to), encL MPath.cells ((runG m).at i)]) := by
   by_cases h1 : m.code[i].kind = 1
   · obtain ⟨e, h4⟩ := hd.set i h hr h1
     rw [e, decide_eq_false (by omega), Bool.false_and]
     exact uses_set _ h1 h4 (Nat.le_trans (hd.g.ops _ hxm) (by decide)) (hd.g.smo _ hxm) (hd.smp _ hxm) (hd.g.smt _ hxm)
   · exact uses_not _ _ h1 (hd.iff i h hr) (by omega) (fun y hy => univ_small hd.g y (hma y hy)) (hd.g.smt _ hxm) (hd.sma _ hxm)
  exact key.nz 6 (by simp only [List.map_cons, List.map_nil, nz_encE, nz_mi])
theorem part_at (m : Mir) (hd : dOk m) (i : Nat) (h : i < m.code.length) (hr : (reachL m)[i]'(by rw [reachL_len]; exact h) = true) :
    PRet Tryz.prog 50 [encL MPath.cells ((runG m).at i), .agg m.code[i].cells] (.bool false) := by
  refine part_no _ _ ?_ (hd.g.smt _ (List.getElem_mem h))
  by_cases h1 : m.code[i].kind = 1
  · exact .inr (hd.set i h hr h1).1
  · exact .inl h1
set_option maxHeartbeats 1000000 in
theorem diags_ret (hS : SortsP) (m : Mir) (hd : dOk m) (h2 : (dgL m m.code.length).length < 2) : PRet Tryz.prog 25 [.agg m.cells] (encL cD (dgL m m.code.length)) := by
  have hG := okG_of hd.g.may
  have hN := hd.g.n60
  have hN1 := hG.pos
  obtain ⟨_, hw⟩ := runG_end hG.pos hG
  have hol := hw.ok.out
  have hrl := reachL_len m
  have hre := reach_ret m hd.g.ok
  rw [if_pos hd.g.may] at hre
  refine pret_intro_l fdh25 (by simp) ?_
  simp only [lch25, VCA, simprocAttr, encL, MCA]
  refine callX_of (in_ret hS m hd.g) (.inl rfl) ?_
  simp only [VCA, simprocAttr, encL, MCA]
  refine callX_of hre (.inl rfl) ?_
  have hrr : (List.map (fun t => decide (0 ≤ dist0 (nx m) 0 t)) (List.range m.code.length)) = reachL m := rfl
  simp only [VCA, simprocAttr, encL, MCA, hrr]
  refine loop_vcg (ι := Nat × (Nat → Nat)) (fun y => stO [(1, .box m.cells), (3, .val (encL cE (runG m).out)), (4, .own 4 (dgL m y.1).length ((dgL m y.1).flatMap cD)), (12, .val (encL cB (reachL m))), (13, .val (.int .i64 m.code.length)), (14, .val (.int .i64 y.1))] y.2)
    (fun y => y.1 ≤ m.code.length) (fun y => m.code.length - y.1) (0, _) (Nat.zero_le _) (ent_of _ [] rfl rfl (by simp only [VCA, simprocAttr, encL, MCA, dgL, List.length_nil, List.flatMap_nil, lE_imv, hrl])) ?_
  rintro ⟨k, c⟩ hk
  have hk : k ≤ m.code.length := hk
  simp only [VCA, simprocAttr, encL, MCA]
  refine condD_of (fun h => ?_) (fun h => ?_)
  · have hk' : k < m.code.length := by omega
    have hkr : k < (reachL m).length := by rw [hrl]; exact hk'
    have hko : k < (runG m).out.length := by rw [hol]; exact hk'
    have i1 : 0 ≤ (k : Int) ∧ (k : Int) < m.code.length := by omega
    have i2 : InI64 ((k : Int) + 1) := by unfold InI64; omega
    have hbe := badAt_eq hk'
    have hdl := dgL_len m k
    simp only [VCA, simprocAttr, encL, MCA, hrl, hk', i1]
    cases b1 : (reachL m)[k] <;> simp only [VCA, simprocAttr, encL, MCA, b1, hrl, hk', i1]
    · rw [b1, Bool.false_and] at hbe
      refine ⟨i2, backTo_of (k + 1, _) hk' (by first | omega | (simp only []; omega)) (ent_of _ [] rfl rfl (by simp only [VCA, simprocAttr, encL, MCA, dgL_no hbe, ld_imv, lE_imv]))⟩
    · have hat : (runG m).out[k] = (runG m).at k := (at_eq hw.ok hk').symm
      simp only [VCA, simprocAttr, encL, MCA, hol, hk', i1, ld_cE, hat, snap_encE, sok_encE, lE_sok, lE_snap]
      refine callV_of (uses_at m hd k hk' b1) (.inl rfl) ?_
      rw [b1, Bool.true_and] at hbe
      rw [← hbe]
      have hpa := part_at m hd k hk' b1
      have hb1 : (dgL m k).length * 4 + 4 ≤ 140737488355328 := by omega
      cases b2 : badAt m k <;> simp only [VCA, simprocAttr, encL, MCA, b2, hk', i1, List.length_cons, List.length_nil, List.getElem?_cons_zero, List.getElem?_cons_succ, mp_snap, mp_sok]
      · refine callX_of hpa (.inr rfl) ?_
        simp only [VCA, simprocAttr, encL, MCA]
        refine ⟨i2, backTo_of (k + 1, _) hk' (by first | omega | (simp only []; omega)) (ent_of _ [] rfl rfl (by simp only [VCA, simprocAttr, encL, MCA, dgL_no b2, ld_imv, lE_imv, hrl]))⟩
      · simp only [VCA, simprocAttr, encL, MCA, hk', i1, sd_cells, ld_len, ld_app, List.length_cons, List.length_nil]
        refine ⟨⟨by omega, by omega⟩, callX_of hpa (.inr rfl) ?_⟩
        simp only [VCA, simprocAttr, encL, MCA]
        refine ⟨i2, backTo_of (k + 1, _) hk' (by first | omega | (simp only []; omega)) (ent_of _ [] rfl rfl (by simp only [VCA, simprocAttr, encL, MCA, dgL_yes hk' b2, ld_imv, lE_imv, hrl, List.length_append, List.length_cons, List.length_nil]))⟩
  · have hk' : k = m.code.length := by omega
    subst hk'
    have hq := sortD_mut _ h2
    have hq2 : decide (((dgL m m.code.length).length : Int) < 2) = true := decide_eq_true (by omega)
    simp only [VCA, simprocAttr, encL, MCA, ld_len, ld_sok, ld_snap, ld_take (Nat.le_refl _), Nat.le_refl, decide_true, Bool.and_true, if_true]
    refine callX_mut hq (by simp only [VCA, simprocAttr, encL, MCA]) ?_ rfl ?_ <;> simp only [VCA, simprocAttr, encL, MCA, ld_snap, rmut, ownR, ld_len, ld_sok, ld_take (Nat.le_refl _), Nat.le_refl, decide_true, Bool.and_true, if_true]
    refine callX_inl fdh55 (by simp) ?_
    simp only [lch55, VCA, simprocAttr, encL, MCA, hq2, ld_snap, ld_len, ld_take (Nat.le_refl _), Nat.le_refl, if_true]
end Go.Proofs.YtlkdcgfjmhjjpaaGreat

set_option linter.unusedSimpArgs false
set_option linter.unusedVariables false
namespace Go.Proofs.YtlkdcgfjmhjjpaaGreat
open Go Go.Lg Go.RowKit
set_option linter.unusedVariables false
set_option linter.unusedSimpArgs false
set_option maxRecDepth 20000

theorem ld_cD {l : List (Int × Int)} {i : Nat} (h : i < l.length) : ldV true 4 (l.flatMap cD) (i * 4) = some (.agg (cD l[i])) := by
  have := ld_flat0 (agg := true) (n := 4) cD_len h (by decide) (by decide)
  rw [this]; rfl
theorem rdiags_ret (l : List (Int × Int)) (hl : l.length ≤ 1000) : PRet Tryz.prog 26 [encL cD l, encL cD l] (.bool true) := by
  refine pret_intro fdh26 (by simp) ?_
  have h0 : decide ((l.length : Int) = l.length) = true := decide_eq_true rfl
  simp only [lch26, VCA, simprocAttr, encL, MCA, h0]
  refine loop_vcg (ι := Nat × (Nat → Nat)) (fun y => stO [(0, .val (encL cD l)), (1, .val (encL cD l)), (5, .val (.int .i64 y.1))] y.2)
    (fun y => y.1 ≤ l.length) (fun y => l.length - y.1) (0, _) (Nat.zero_le _) (ent_of _ [] rfl rfl (by simp only [VCA, simprocAttr, encL, MCA])) ?_
  rintro ⟨k, c⟩ hk
  have hk : k ≤ l.length := hk
  simp only [VCA, simprocAttr, encL, MCA]
  refine condD_of (fun h => ?_) (fun h => ?_)
  · have hk' : k < l.length := by omega
    have i1 : 0 ≤ (k : Int) ∧ (k : Int) < l.length := by omega
    have i2 : InI64 ((k : Int) + 1) := by unfold InI64; omega
    simp only [VCA, simprocAttr, encL, MCA, hk', i1, i2, ld_cD]
    have e1 : (decide ((cD l[k]).length = 4) && intsK IntKind.i64 (cD l[k])) = true := rfl
    have e2 : eqInts (cD l[k]) (cD l[k]) = true := by simp [eqInts, cD]
    simp only [VCA, simprocAttr, encL, MCA, e1, e2, i2]
    exact backTo_of (k + 1, _) hk' (by first | omega | (simp only []; omega)) (ent_of _ [] rfl rfl (by simp only [VCA, simprocAttr, encL, MCA]))
  · simp only [VCA, simprocAttr, encL, MCA]
/-! The small cases. -/
def tpa : MPath := ⟨1, []⟩
def tpb : MPath := ⟨1, [⟨#[102]⟩]⟩
def tpc : MPath := ⟨2, []⟩
def o00 : MOper := ⟨0, 0, ⟨0, []⟩⟩
def v00 : MVal := ⟨0, o00, o00, 0, ⟨0, []⟩, 0, ⟨#[]⟩, [], []⟩
def tx0 : MInst := ⟨3, 0, false, tpa, v00, [1]⟩
def tx1 : MInst := ⟨5, 0, false, ⟨0, []⟩, v00, [0]⟩
def tl (p : Bool) : MLocal := ⟨⟨#[]⟩, .mk 0 ⟨#[]⟩ [] [], p⟩
def tm0 : Mir := ⟨0, 0, 0, [], [tl false, tl true], [tx0, tx1]⟩
theorem t_e1 : addS [] tpc = [tpc] := rfl
theorem t_e2 : addS [tpc] tpb = [tpb, tpc] := by kernel_rfl
theorem t_e3 : addS [tpb, tpc] tpa = [tpa, tpc] := by kernel_rfl
theorem t_e4 : putS [tpb, tpc] tpa = [tpc] := by kernel_rfl
theorem small_ta : smallP tpa := by unfold smallP; decide
theorem small_tb : smallP tpb := by unfold smallP; decide
theorem small_tc : smallP tpc := by unfold smallP; decide
theorem tm0_may : mayB tm0 = true := by kernel_rfl
theorem i64_small {n : Int} (h : 0 ≤ n ∧ n ≤ 5) : InI64 n := by unfold InI64; omega
theorem small_nil (n : Int) : smallP ⟨n, []⟩ := by unfold smallP; simp
theorem pnil_ok {n : Int} (h : 0 ≤ n ∧ n ≤ 5) : (MPath.mk n []).ok := ⟨i64_small h, by rw [maxLen_eq]; simp, fun s hs => by cases hs⟩
theorem o00_ok : o00.ok := ⟨i64_small (by decide), i64_small (by decide), pnil_ok (by decide)⟩
theorem v00_ok : v00.ok := ⟨i64_small (by decide), o00_ok, o00_ok, i64_small (by decide), pnil_ok (by decide), i64_small (by decide), by rw [maxLen_eq]; decide, ⟨by rw [maxLen_eq]; decide, fun x hx => by cases hx⟩, ⟨by rw [maxLen_eq]; decide, fun x hx => by cases hx⟩⟩
theorem tx_ok {x : MInst} (h : x ∈ [tx0, tx1]) : x.ok := by
  rcases List.mem_cons.1 h with rfl | h
  · exact ⟨i64_small (by decide), i64_small (by decide), pnil_ok (by decide), v00_ok, by rw [maxLen_eq]; decide, fun y hy => by rw [List.mem_singleton.1 hy]; exact i64_small (by decide)⟩
  · rw [List.mem_singleton.1 h]
    exact ⟨i64_small (by decide), i64_small (by decide), pnil_ok (by decide), v00_ok, by rw [maxLen_eq]; decide, fun y hy => by rw [List.mem_singleton.1 hy]; exact i64_small (by decide)⟩
theorem tl_ok (p : Bool) : (tl p).ok := by
  have h : tl p = ⟨⟨#[]⟩, .mk 0 ⟨#[]⟩ [] [], p⟩ := rfl
  rw [h]
  refine ⟨(by rw [maxLen_eq]; decide : (ByteArray.mk #[]).size ≤ maxLen), ?_⟩
  show (RT.mk 0 ⟨#[]⟩ [] []).ok
  rw [RT.ok_iff]
  exact ⟨i64_small (by decide), by rw [maxLen_eq]; decide, ⟨by rw [maxLen_eq]; decide, fun x hx => by cases hx⟩, by rw [maxLen_eq]; decide, fun x hx => by cases hx⟩
theorem tm0_ok : tm0.ok := by
  refine ⟨i64_small (by decide), i64_small (by decide), i64_small (by decide), ⟨by rw [maxLen_eq]; decide, fun k hk => by cases hk⟩, ⟨by rw [maxLen_eq]; decide, fun x hx => ?_⟩, ⟨by rw [maxLen_eq]; decide, fun x hx => tx_ok hx⟩⟩
  rcases List.mem_cons.1 hx with rfl | h
  · exact tl_ok false
  · rw [List.mem_singleton.1 h]; exact tl_ok true
theorem smO0 : smallO (opersL v00) := by intro o ho; cases ho
theorem tx_small {x : MInst} (h : x ∈ [tx0, tx1]) : (opersL x.val).length ≤ 20 ∧ smallO (opersL x.val) ∧ smallP x.to ∧ smallP x.val.path ∧ smallP x.val.a.path ∧ x.kind ≠ 1 ∧ x.kind ≠ 4 := by
  rcases List.mem_cons.1 h with rfl | h
  · exact ⟨by decide, smO0, small_ta, small_nil _, small_nil _, by decide, by decide⟩
  · rw [List.mem_singleton.1 h]
    exact ⟨by decide, smO0, small_nil _, small_nil _, small_nil _, by decide, by decide⟩
theorem tm0_g : gOk tm0 := ⟨tm0_ok, tm0_may, by decide, by decide, fun x h => (tx_small h).1, fun x h => (tx_small h).2.1, fun x h => (tx_small h).2.2.1⟩
theorem tm0_d : dOk tm0 := ⟨tm0_g, fun x h => (tx_small h).2.2.2.1, fun x h => (tx_small h).2.2.2.2.1, fun i h _ h1 => absurd h1 (tx_small (List.getElem_mem h)).2.2.2.2.2.1, fun i h _ h1 => absurd h1 (tx_small (List.getElem_mem h)).2.2.2.2.2.2⟩
theorem tm0_run : (runG tm0).out = [[⟨0, []⟩, ⟨1, []⟩], [⟨0, []⟩, ⟨1, []⟩]] := by kernel_rfl
theorem tm0_dg : dgL tm0 tm0.code.length = [(0, 1)] := by
  have h0 : badAt tm0 0 = true := by
    rw [badAt_eq (by decide)]
    have e1 : (reachL tm0)[0]'(by rw [reachL_len]; decide) = true := by
      simp only [reachL, List.getElem_map, List.getElem_range, dist0_self]; decide
    have e2 : (runG tm0).at 0 = [⟨0, []⟩, ⟨1, []⟩] := by unfold WS.at; rw [tm0_run]; rfl
    
    have e3 : (decide ((tm0.code[0]'(by decide)).kind = 3) && lostS [⟨0, []⟩, ⟨1, []⟩] (tm0.code[0]'(by decide)).to) = true := by kernel_rfl
    rw [e1, e2, e3]; rfl
  have h1 : badAt tm0 1 = false := by
    rw [badAt_eq (by decide)]
    have e : decide ((tm0.code[1]'(by decide)).kind = 3) = false := rfl
    rw [e, Bool.false_and, Bool.and_false]
  show dgL tm0 2 = _
  rw [dgL_no h1, dgL_yes (by decide) h0]; rfl
theorem tm0_diags (hS : SortsP) : PRet Tryz.prog 25 [.agg tm0.cells] (encL cD [(0, 1)]) := by
  have := diags_ret hS tm0 tm0_d (by rw [tm0_dg]; decide)
  rwa [tm0_dg] at this
theorem srt1 (p : MPath) : Srt [p] := List.pairwise_singleton _ _
theorem t_srt2 : Srt [tpb, tpc] := by rw [← t_e2]; exact srt_add (srt1 _)
theorem mem2 {P : MPath → Prop} {a b : MPath} (h1 : P a) (h2 : P b) : ∀ x ∈ [a, b], P x := fun x hx => by
  rcases List.mem_cons.1 hx with rfl | hx
  · exact h1
  · rw [List.mem_singleton.1 hx]; exact h2
theorem t_c1 (hS : SortsP) : PRet Tryz.prog 11 [.e0, .agg [.int .i64 2, .e0]] (encL MPath.cells [tpc]) := by
  rw [← t_e1]
  exact (add_own hS [] tpc List.Pairwise.nil (by decide) small_tc (fun x h => by cases h)).ret.nz 6 (by simp only [List.map_cons, List.map_nil, nz, encL, tpc, mp_c, List.flatMap_nil, List.length_nil])
theorem t_c2 (hS : SortsP) : PRet Tryz.prog 11 [encL MPath.cells [tpc], .agg [.int .i64 1, .sl 1 [.str ⟨#[102]⟩]]] (encL MPath.cells [tpb, tpc]) := by
  rw [← t_e2]
  exact (add_own hS [tpc] tpb (srt1 _) (by decide) small_tb (fun x h => by rw [List.mem_singleton.1 h]; exact small_tc)).ret.nz 6 (by
    simp only [List.map_cons, List.map_nil, nz, encL, mp_c, tpb, mo_nz]; rfl)
theorem t_c3 (hS : SortsP) : PRet Tryz.prog 11 [encL MPath.cells [tpb, tpc], .agg [.int .i64 1, .e0]] (encL MPath.cells [tpa, tpc]) := by
  rw [← t_e3]
  exact (add_own hS [tpb, tpc] tpa t_srt2 (by decide) small_ta (mem2 small_tb small_tc)).ret.nz 6 (by
    simp only [List.map_cons, List.map_nil, nz, encL, mp_c, tpa, mo_nz]; rfl)
theorem t_c4 : PRet Tryz.prog 13 [encL MPath.cells [tpb, tpc], .agg [.int .i64 1, .e0]] (encL MPath.cells [tpc]) := by
  rw [← t_e4]
  exact (put_own [tpb, tpc] tpa (by decide) small_ta (mem2 small_tb small_tc)).ret.nz 6 (by
    simp only [List.map_cons, List.map_nil, nz, encL, mp_c, tpa, mo_nz]; rfl)
theorem small_b {p : MPath} (h : p.steps.length ≤ 1) : p.steps.length ≤ 4611686018427387904 := by omega
theorem t_p1 : PRet Tryz.prog 10 [encL MPath.cells [tpb, tpc], .sl 2 [.int .i64 1, .sl 1 [.str ⟨#[102]⟩], .int .i64 2, .e0]] (.bool true) :=
  (paths_ret [tpb, tpc] [tpb, tpc] (by decide) (mem2 (small_b (by decide)) (small_b (by decide)))).nz 6 (by
    simp only [List.map_cons, List.map_nil, nz, encL, mp_c, tpb, tpc, List.flatMap_cons, List.flatMap_nil, List.append_nil, List.cons_append, List.nil_append]; rfl)
theorem t_p2 : PRet Tryz.prog 10 [encL MPath.cells [tpa, tpc], .sl 2 [.int .i64 1, .e0, .int .i64 2, .e0]] (.bool true) :=
  (paths_ret [tpa, tpc] [tpa, tpc] (by decide) (mem2 (small_b (by decide)) (small_b (by decide)))).nz 6 (by
    simp only [List.map_cons, List.map_nil, nz, encL, mp_c, tpa, tpc, List.flatMap_cons, List.flatMap_nil, List.append_nil, List.cons_append, List.nil_append]; rfl)
theorem t_p3 : PRet Tryz.prog 10 [encL MPath.cells [tpc], .sl 1 [.int .i64 2, .e0]] (.bool true) :=
  (paths_ret [tpc] [tpc] (by decide) (fun x h => by rw [List.mem_singleton.1 h]; exact small_b (by decide))).nz 6 (by
    simp only [List.map_cons, List.map_nil, nz, encL, mp_c, tpc, List.flatMap_cons, List.flatMap_nil, List.append_nil, List.cons_append, List.nil_append]; rfl)
theorem t_d1 (hS : SortsP) : PRet Tryz.prog 25 [.agg [.int .i64 0, .int .i64 0, .int .i64 0, .e0, .sl 2 [.str ⟨#[]⟩, .int .i64 0, .str ⟨#[]⟩, .e0, .e0, .bool false, .str ⟨#[]⟩, .int .i64 0, .str ⟨#[]⟩, .e0, .e0, .bool true], .sl 2 ([.int .i64 3, .int .i64 0, .bool false, .int .i64 1, .e0, .int .i64 0, .int .i64 0, .int .i64 0, .int .i64 0, .e0, .int .i64 0, .int .i64 0, .int .i64 0, .e0, .int .i64 0, .int .i64 0, .e0, .int .i64 0, .str ⟨#[]⟩, .e0, .e0, .sl 1 [.int .i64 1], .int .i64 5, .int .i64 0, .bool false, .int .i64 0, .e0, .int .i64 0, .int .i64 0, .int .i64 0, .int .i64 0, .e0, .int .i64 0, .int .i64 0, .int .i64 0, .e0, .int .i64 0, .int .i64 0, .e0, .int .i64 0, .str ⟨#[]⟩, .e0, .e0, .sl 1 [.int .i64 0]])]] (encL cD [(0, 1)]) :=
  (tm0_diags hS).nz 6 (by
    simp only [tm0, tl, tx0, tx1, tpa, v00, o00, Mir.cells, MLocal.cells, MInst.cells, RT.kind, RT.name, RT.regions, RT.elem, List.map_cons, List.map_nil, nz, encL, List.flatMap_cons, List.flatMap_nil, List.append_nil, List.cons_append, List.nil_append]; rfl)
theorem t_d2 : PRet Tryz.prog 26 [encL cD [(0, 1)], .sl 1 [.int .i64 0, .int .i64 1, .int .i64 0, .int .i64 0]] (.bool true) := rdiags_ret [(0, 1)] (by decide)
theorem ld22 (a1 a2 a3 a4 a5 a6 a7 a8 a9 b1 b2 b3 b4 b5 b6 b7 b8 b9 c1 c2 c3 c4 : V) : ldV true 22 [a1, a2, a3, a4, a5, a6, a7, a8, a9, b1, b2, b3, b4, b5, b6, b7, b8, b9, c1, c2, c3, c4] 0 = some (.agg [a1, a2, a3, a4, a5, a6, a7, a8, a9, b1, b2, b3, b4, b5, b6, b7, b8, b9, c1, c2, c3, c4]) := rfl
theorem ld6 (a1 a2 a3 a4 a5 a6 : V) : ldV true 6 [a1, a2, a3, a4, a5, a6] 0 = some (.agg [a1, a2, a3, a4, a5, a6]) := rfl
theorem told_ret (hS : SortsP) : PRet Tryz.prog 8 [] (.bool true) := by
  refine pret_intro fdh8 (by simp) ?_
  simp only [lch8, VCA, simprocAttr, encL, MCA, mp_setA, mp_setB, mp_setC, mp_ld]
  refine callV_of (t_c1 hS) (.inl rfl) ?_
  simp only [VCA, simprocAttr, encL, MCA, mp_setA, mp_setB, mp_setC, mp_ld]
  refine callV_of (t_c2 hS) (.inl rfl) ?_
  simp only [VCA, simprocAttr, encL, MCA, mp_setA, mp_setB, mp_setC, mp_ld, setCells, List.take_succ_cons, List.take_zero, List.drop_succ_cons, List.drop_zero, List.cons_append, List.nil_append, List.length_cons, List.length_nil, Nat.reduceAdd, List.all_cons, List.all_nil, Bool.and_true, Bool.and_self, List.drop_nil, List.append_nil, ld22, ld6]
  refine callV_of t_p1 (.inr rfl) ?_
  simp only [VCA, simprocAttr, encL, MCA, mp_setA, mp_setB, mp_setC, mp_ld, setCells, List.take_succ_cons, List.take_zero, List.drop_succ_cons, List.drop_zero, List.cons_append, List.nil_append, List.length_cons, List.length_nil, Nat.reduceAdd, List.all_cons, List.all_nil, Bool.and_true, Bool.and_self, List.drop_nil, List.append_nil, ld22, ld6]
  refine callV_of (t_c3 hS) (.inl rfl) ?_
  simp only [VCA, simprocAttr, encL, MCA, mp_setA, mp_setB, mp_setC, mp_ld, setCells, List.take_succ_cons, List.take_zero, List.drop_succ_cons, List.drop_zero, List.cons_append, List.nil_append, List.length_cons, List.length_nil, Nat.reduceAdd, List.all_cons, List.all_nil, Bool.and_true, Bool.and_self, List.drop_nil, List.append_nil, ld22, ld6]
  refine callV_of t_p2 (.inr rfl) ?_
  simp only [VCA, simprocAttr, encL, MCA, mp_setA, mp_setB, mp_setC, mp_ld, setCells, List.take_succ_cons, List.take_zero, List.drop_succ_cons, List.drop_zero, List.cons_append, List.nil_append, List.length_cons, List.length_nil, Nat.reduceAdd, List.all_cons, List.all_nil, Bool.and_true, Bool.and_self, List.drop_nil, List.append_nil, ld22, ld6]
  refine callV_of t_c4 (.inl rfl) ?_
  simp only [VCA, simprocAttr, encL, MCA, mp_setA, mp_setB, mp_setC, mp_ld, setCells, List.take_succ_cons, List.take_zero, List.drop_succ_cons, List.drop_zero, List.cons_append, List.nil_append, List.length_cons, List.length_nil, Nat.reduceAdd, List.all_cons, List.all_nil, Bool.and_true, Bool.and_self, List.drop_nil, List.append_nil, ld22, ld6]
  refine callV_of t_p3 (.inr rfl) ?_
  simp only [VCA, simprocAttr, encL, MCA, mp_setA, mp_setB, mp_setC, mp_ld, setCells, List.take_succ_cons, List.take_zero, List.drop_succ_cons, List.drop_zero, List.cons_append, List.nil_append, List.length_cons, List.length_nil, Nat.reduceAdd, List.all_cons, List.all_nil, Bool.and_true, Bool.and_self, List.drop_nil, List.append_nil, ld22, ld6]
  refine callV_of (t_d1 hS) (.inl rfl) ?_
  simp only [VCA, simprocAttr, encL, MCA, mp_setA, mp_setB, mp_setC, mp_ld, setCells, List.take_succ_cons, List.take_zero, List.drop_succ_cons, List.drop_zero, List.cons_append, List.nil_append, List.length_cons, List.length_nil, Nat.reduceAdd, List.all_cons, List.all_nil, Bool.and_true, Bool.and_self, List.drop_nil, List.append_nil, ld22, ld6]
  refine callV_of t_d2 (.inr rfl) ?_
  simp only [VCA, simprocAttr, encL, MCA, mp_setA, mp_setB, mp_setC, mp_ld, setCells, List.take_succ_cons, List.take_zero, List.drop_succ_cons, List.drop_zero, List.cons_append, List.nil_append, List.length_cons, List.length_nil, Nat.reduceAdd, List.all_cons, List.all_nil, Bool.and_true, Bool.and_self, List.drop_nil, List.append_nil, ld22, ld6]
end Go.Proofs.YtlkdcgfjmhjjpaaGreat

set_option linter.unusedSimpArgs false
set_option linter.unusedVariables false
namespace Go.Proofs.YtlkdcgfjmhjjpaaGreat
open Go Go.Lg Go.RowKit
set_option linter.unusedVariables false
set_option linter.unusedSimpArgs false
set_option maxRecDepth 20000

theorem llenE (a : List MPath) : llen false (encE a) = .A True (.int .i64 a.length) := by
  unfold encE
  split
  · rename_i e; subst e; rfl
  · rfl
theorem liaSE {a : List MPath} (h : a ≠ []) (q : IntKind) (n : Int) (esz : Nat) : liaS esz (encE a) (.int q n) = .A (0 ≤ n ∧ n < a.length) (.ip (a.flatMap MPath.cells) (n.toNat * esz)) := by
  rw [encE_ne h]; rfl
end Go.Proofs.YtlkdcgfjmhjjpaaGreat

set_option linter.unusedSimpArgs false
set_option linter.unusedVariables false
namespace Go.Proofs.YtlkdcgfjmhjjpaaGreat
open Go Go.Lg Go.RowKit
set_option linter.unusedVariables false
set_option linter.unusedSimpArgs false
set_option maxRecDepth 20000

theorem opers20_len {v : MVal} (h : v.args.length ≤ 20) : (opersL v).length ≤ 20 := by
  unfold opersL
  split
  · simp
  · split
    · simp
    · split
      · exact h
      · simp
end Go.Proofs.YtlkdcgfjmhjjpaaGreat

set_option linter.unusedSimpArgs false
set_option linter.unusedVariables false
namespace Go.Lg
open Go Go.RowKit Go.Proofs.YtlkdcgfjmhjjpaaGreat
end Go.Lg
namespace Go.Proofs.YtlkdcgfjmhjjpaaGreat
open Go Go.Lg Go.RowKit
set_option linter.unusedVariables false
set_option linter.unusedSimpArgs false
set_option maxRecDepth 20000

/-- What is asked of points that are not too many. -/
structure szOk (m : Mir) : Prop where
  smo : ∀ x ∈ m.code, smallO (opersL x.val)
  sma : ∀ x ∈ m.code, smallP x.val.a.path
theorem gOk_of {m : Mir} (hm : m.ok) (h1 : greatB m = false) (h2 : mayB m = true) (hs : szOk m) : gOk m := by
  simp only [greatB, Bool.or_eq_false_iff, decide_eq_false_iff_not, List.any_eq_false, Bool.not_eq_true] at h1
  obtain ⟨⟨⟨⟨⟨a1, a2⟩, a3⟩, a4⟩, a5⟩, a6⟩ := h1
  have hx : ∀ x ∈ m.code, x.val.args.length ≤ 20 ∧ x.to.steps.length ≤ 20 := by
    intro x hx
    have := a6 x hx
    simp only [greatI, Bool.or_eq_false_iff, decide_eq_false_iff_not] at this
    omega
  exact ⟨hm, h2, by omega, by omega, fun x h => opers20_len (hx x h).1, hs.smo, fun x h => by have := (hx x h).2; unfold smallP; omega⟩
theorem great_path {m : Mir} (h1 : greatB m = false) : ∀ x ∈ m.code, smallP x.val.path := by
  simp only [greatB, Bool.or_eq_false_iff, decide_eq_false_iff_not, List.any_eq_false, Bool.not_eq_true] at h1
  intro x hx
  have := h1.2 x hx
  simp only [greatI, Bool.or_eq_false_iff, decide_eq_false_iff_not] at this
  unfold smallP; omega
end Go.Proofs.YtlkdcgfjmhjjpaaGreat

set_option linter.unusedSimpArgs false
set_option linter.unusedVariables false
namespace Go.Lg
open Go Go.RowKit Go.Proofs.YtlkdcgfjmhjjpaaGreat
/-- What a point may add. -/
theorem aft_in {l : List MPath} {x : MInst} {p : MPath} (h : p ∈ aftS l x) : p ∈ l ∨ (x.kind = 1 ∧ ∃ o ∈ opersL x.val, o.kind = 4 ∧ p = o.path) ∨ ((x.kind = 3 ∨ x.kind = 2) ∧ p.loc = x.to.loc) := by
  unfold aftS at h
  have hm : x.kind = 1 → ∀ q, q ∈ movS l (opersL x.val) → q ∈ l ∨ (x.kind = 1 ∧ ∃ o ∈ opersL x.val, o.kind = 4 ∧ q = o.path) ∨ ((x.kind = 3 ∨ x.kind = 2) ∧ q.loc = x.to.loc) := by
    intro h1 q hq
    rcases movS_mem _ hq with hq | ⟨o, h2, h3, h4⟩
    · exact .inl hq
    · exact .inr (.inl ⟨h1, o, h2, h3, h4⟩)
  split at h
  · rename_i h1
    split at h
    · exact hm h1 p (put_sub h)
    · exact hm h1 p h
  · split at h
    · rename_i h3
      rcases mem_add_or h with h | h
      · exact .inl h
      · exact .inr (.inr ⟨.inl h3, by rw [h]⟩)
    · split at h
      · rename_i h2
        rcases mem_add_or h with h | h
        · exact .inl h
        · exact .inr (.inr ⟨.inr h2, by rw [h]⟩)
      · exact .inl h
theorem pot_filter {U : List MPath} {N : Nat} {s : WS} (R : MPath → Bool) : pot (U.filter R) N s ≤ pot U N s := by
  have h : ∀ l, uncov (U.filter R) l ≤ uncov U l := fun l => (List.filter_sublist (p := R) (l := U)).countP_le
  have hs : (s.out.map (uncov (U.filter R))).sum ≤ (s.out.map (uncov U)).sum := by
    generalize s.out = o
    induction o with
    | nil => exact Nat.le_refl _
    | cons x o ih => have := h x; simp only [List.map_cons, List.sum_cons]; omega
  unfold pot; omega
/-- What holds of all that is added holds of all that may be gone. -/
theorem runG_mem {m : Mir} (hN : 0 < m.code.length) (hG : okG m) (R : MPath → Bool) (h1 : ∀ p ∈ freeL m m.locals.length, R p = true)
    (h2 : ∀ x ∈ m.code, ∀ l p, p ∈ aftS l x → p ∈ l ∨ R p = true) : ∀ i, ∀ p ∈ (runG m).at i, R p = true := by
  have h0 := ws0_ok m hN
  have hnx : ∀ i < m.code.length, ∀ n ∈ nx m i, n < m.code.length := fun i hi n hn => by
    unfold nx at hn
    rw [List.getElem?_eq_getElem hi] at hn
    obtain ⟨y, hy, rfl⟩ := List.mem_map.1 hn
    have := (hG.nx _ (List.getElem_mem hi)).2 y hy
    omega
  have hw : WOk ((univ m).filter R) m.code.length (ws0 m) := by
    refine ⟨h0.ok, h0.work, fun l hl p hp => List.mem_filter.2 ⟨h0.mem l hl p hp, ?_⟩, h0.srt⟩
    rcases List.mem_or_eq_of_mem_set hl with hl | rfl
    · rw [(List.mem_replicate.1 hl).2] at hp; cases hp
    · rcases foldA_mem _ hp with hp | hp
      · cases hp
      · exact h1 p hp
  have haf : ∀ i l, (∀ p ∈ l, p ∈ (univ m).filter R) → ∀ p ∈ afM m i l, p ∈ (univ m).filter R := by
    intro i l hl p hp
    refine List.mem_filter.2 ⟨afM_mem m i l (fun q hq => (List.mem_filter.1 (hl q hq)).1) p hp, ?_⟩
    unfold afM at hp
    split at hp
    · rename_i x e
      rcases h2 x (List.mem_of_getElem? e) l p hp with h | h
      · exact (List.mem_filter.1 (hl p h)).2
      · exact h
    · exact (List.mem_filter.1 (hl p hp)).2
  have hr := run_end haf hnx (pot (univ m) m.code.length (ws0 m) + 1) hw (Nat.lt_succ_of_le (pot_filter R))
  intro i p hp
  exact (List.mem_filter.1 ((hr.2.at_mem i).1 p hp)).2

/-- Are the locals of some points told of? -/
structure Tk (m : Mir) (T : List Bool) (k : Nat) : Prop where
  len : T.length = m.locals.length
  par : ∀ (j : Nat) (h : j < m.locals.length), m.locals[j].param = false → T.getD j false = true
  to : ∀ (i : Nat) (h : i < m.code.length), i < k → (m.code[i].kind = 3 ∨ m.code[i].kind = 2) → T.getD m.code[i].to.loc.toNat false = true
  mv : ∀ (i : Nat) (h : i < m.code.length), i < k → m.code[i].kind = 1 → ∀ o ∈ opersL m.code[i].val, o.kind = 4 → T.getD o.path.loc.toNat false = true
theorem getD_set {T : List Bool} {j n : Nat} (h : T.getD j false = true) : (T.set n true).getD j false = true := by
  rw [List.getD_eq_getElem?_getD, List.getElem?_set]
  split
  · split
    · rfl
    · rename_i e h2
      exfalso
      subst e
      rw [List.getD_eq_getElem?_getD, List.getElem?_eq_none (by omega)] at h; cases h
  · rwa [← List.getD_eq_getElem?_getD]
theorem getD_self {T : List Bool} {n : Nat} (h : n < T.length) : (T.set n true).getD n false = true := by
  rw [List.getD_eq_getElem?_getD, List.getElem?_set_self h]; rfl
theorem Tk.set {m : Mir} {T : List Bool} {k n : Nat} (h : Tk m T k) : Tk m (T.set n true) k :=
  ⟨by rw [List.length_set]; exact h.len, fun j hj hp => getD_set (h.par j hj hp), fun i hi hk h1 => getD_set (h.to i hi hk h1), fun i hi hk h1 o ho h4 => getD_set (h.mv i hi hk h1 o ho h4)⟩
end Go.Lg
namespace Go.Proofs.YtlkdcgfjmhjjpaaGreat
open Go Go.Lg Go.RowKit
set_option linter.unusedVariables false
set_option linter.unusedSimpArgs false
set_option maxRecDepth 20000
theorem may_inst {m : Mir} (h : mayB m = true) {x : MInst} (hx : x ∈ m.code) : ((x.kind = 3 ∨ x.kind = 2) → 0 ≤ x.to.loc ∧ x.to.loc < m.locals.length) ∧ (x.kind = 1 → ∀ o ∈ opersL x.val, o.kind = 4 → 0 ≤ o.path.loc ∧ o.path.loc < m.locals.length) := by
  simp only [mayB, Bool.and_eq_true, List.all_eq_true] at h
  have h4 := h.2 x hx
  unfold instB at h4
  rw [Bool.and_eq_true] at h4
  have h5 := h4.1
  refine ⟨fun hk => ?_, fun hk o ho h4 => ?_⟩
  · rw [if_neg (by omega), if_pos (by omega)] at h5
    simpa [inB] using h5
  · rw [if_pos hk, Bool.and_eq_true, valB_eq, Bool.and_eq_true] at h5
    have := List.all_eq_true.1 h5.1.1 o ho
    unfold operB at this
    rw [if_neg (by omega), if_pos (by omega)] at this
    simpa [inB] using this
theorem freeL_par {m : Mir} : ∀ (k : Nat), k ≤ m.locals.length → ∀ p ∈ freeL m k, ∃ (j : Nat) (h : j < m.locals.length), m.locals[j].param = false ∧ p.loc = (j : Int)
  | 0, _, p, h => by cases h
  | k + 1, hk, p, h => by
    have hk' : k < m.locals.length := by omega
    cases b : m.locals[k].param with
    | true => rw [freeL_yes hk' b] at h; exact freeL_par k (by omega) p h
    | false =>
      rw [freeL_no hk' b] at h
      rcases List.mem_append.1 h with h | h
      · exact freeL_par k (by omega) p h
      · exact ⟨k, hk', b, by rw [List.mem_singleton.1 h]⟩
theorem never_mem {m : Mir} (hG : okG m) (hmay : mayB m = true) {T : List Bool} (hT : Tk m T m.code.length) : ∀ i, ∀ p ∈ (runG m).at i, 0 ≤ p.loc ∧ p.loc < m.locals.length ∧ T.getD p.loc.toNat false = true := by
  have h := runG_mem hG.pos hG (fun p => decide (0 ≤ p.loc) && (decide (p.loc < m.locals.length) && T.getD p.loc.toNat false)) (fun p hp => ?_) (fun x hx l p hp => ?_)
  · intro i p hp
    have := h i p hp
    simpa using this
  · obtain ⟨j, hj, hp1, hp2⟩ := freeL_par _ (Nat.le_refl _) p hp
    have := hT.par j hj hp1
    simp only [Bool.and_eq_true, decide_eq_true_eq, hp2]
    refine ⟨by omega, by omega, ?_⟩
    rw [Int.toNat_natCast]; exact this
  · obtain ⟨hto, hmv⟩ := may_inst hmay hx
    obtain ⟨i, hi, rfl⟩ := List.getElem_of_mem hx
    rcases aft_in hp with h | ⟨h1, o, ho, h4, rfl⟩ | ⟨h3, he⟩
    · exact .inl h
    · right
      have := hmv h1 o ho h4
      simp only [Bool.and_eq_true, decide_eq_true_eq]
      exact ⟨this.1, this.2, hT.mv i hi hi h1 o ho h4⟩
    · right
      have := hto h3
      simp only [Bool.and_eq_true, decide_eq_true_eq, he]
      exact ⟨this.1, this.2, hT.to i hi hi h3⟩
theorem dgL_none {m : Mir} : ∀ k, (∀ i < k, badAt m i = false) → dgL m k = []
  | 0, _ => rfl
  | k + 1, h => by rw [dgL_no (h k (Nat.lt_succ_self k)), dgL_none k fun i hi => h i (Nat.lt_succ_of_lt hi)]
theorem never_none {m : Mir} (hG : okG m) (hmay : mayB m = true) (gk : gOk m) (hs : szOk m) (hp : ∀ x ∈ m.code, smallP x.val.path) {T : List Bool} (hT : Tk m T m.code.length) (hn : T.any id = false) : dOk m ∧ dgL m m.code.length = [] := by
  have hF : ∀ j, T.getD j false ≠ true := by
    intro j h
    rw [List.getD_eq_getElem?_getD] at h
    cases e : T[j]? with
    | none => rw [e] at h; cases h
    | some b =>
      rw [e] at h
      have := List.any_eq_false.1 hn b (List.mem_of_getElem? e)
      simp only [id] at this
      exact this h
  have hE : ∀ i, (runG m).at i = [] := by
    intro i
    cases e : (runG m).at i with
    | nil => rfl
    | cons p r => exact absurd (never_mem hG hmay hT i p (by rw [e]; exact List.mem_cons_self ..)).2.2 (hF _)
  refine ⟨⟨gk, hp, hs.sma, fun i hi _ h1 => ⟨hE i, fun o ho h4 => hF _ (hT.mv i hi hi h1 o ho h4)⟩, fun i hi _ _ => hE i⟩, dgL_none _ fun i hi => ?_⟩
  rw [badAt_eq hi]
  have : decide (m.code[i].kind = 3) = false := decide_eq_false fun h => hF _ (hT.to i hi hi (.inl h))
  rw [this, Bool.false_and, Bool.and_false]
set_option maxHeartbeats 2000000 in
theorem never_ret (hS : SortsP) (m : Mir) (hm : m.ok) (hs : szOk m) : PRet Tryz.prog 6 [.agg m.cells] (.bool true) := by
  refine pret_intro fdh6 (by simp) ?_
  simp only [lch6, VCA, simprocAttr, encL, MCA]
  refine callX_of (great_ret m hm) (.inr rfl) ?_
  cases hg : greatB m <;> simp only [VCA, simprocAttr, encL, MCA, hg]
  case true =>
    refine callX_of (told_ret hS) (.inr rfl) ?_
    simp only [VCA, simprocAttr, encL, MCA]
  refine callX_of (may16_ret m hm) (.inr rfl) ?_
  cases hmay : mayB m <;> simp only [VCA, simprocAttr, encL, MCA, hmay]
  case false =>
    refine callX_of (told_ret hS) (.inr rfl) ?_
    simp only [VCA, simprocAttr, encL, MCA]
  have gk := gOk_of hm hg hmay hs
  have hG := okG_of hmay
  have hN1 := hG.pos
  obtain ⟨_, hw⟩ := runG_end hG.pos hG
  have hol := hw.ok.out
  have hul := univ_len gk
  have hus := univ_small gk
  have h30 := gk.l30
  have h60 := gk.n60
  refine callX_of (in_ret hS m gk) (.inl rfl) ?_
  have e0 : decide ((m.code.length : Int) = m.code.length) = true := decide_eq_true rfl
  simp only [VCA, simprocAttr, encL, MCA, hol, e0]
  refine ⟨by omega, ?_⟩
  refine loop_vcg (ι := (Nat × List Bool) × (Nat → Nat)) (fun y => stO [(1, .box m.cells), (3, .val (encL cE (runG m).out)), (4, .own 1 m.locals.length (y.1.2.flatMap cB)), (5, .val (.int .i64 y.1.1))] y.2)
    (fun y => y.1.1 ≤ m.locals.length ∧ y.1.2.length = m.locals.length ∧ ∀ (j : Nat) (h : j < m.locals.length), j < y.1.1 → m.locals[j].param = false → y.1.2.getD j false = true) (fun y => m.locals.length - y.1.1)
    ((0, List.replicate m.locals.length false), _) ⟨Nat.zero_le _, by simp, fun j _ h => by cases h⟩ (ent_of _ [] rfl rfl (by simp only [VCA, simprocAttr, encL, MCA, lE_imv, hol])) ?_
  rintro ⟨⟨k, T⟩, c⟩ hk
  obtain ⟨hk, hT, hTp⟩ : k ≤ m.locals.length ∧ T.length = m.locals.length ∧ ∀ (j : Nat) (h : j < m.locals.length), j < k → m.locals[j].param = false → T.getD j false = true := hk
  simp only [VCA, simprocAttr, encL, MCA]
  refine condD_of (fun h => ?_) (fun h => ?_)
  · have hk' : k < m.locals.length := by omega
    have hkT : k < T.length := by omega
    have i1 : 0 ≤ (k : Int) ∧ (k : Int) < m.locals.length := by omega
    have i2 : InI64 ((k : Int) + 1) := by unfold InI64; omega
    have i3 : k + 1 ≤ m.locals.length := hk'
    simp only [VCA, simprocAttr, encL, MCA, hk', i1, i2, i3, hT, hkT, lb_set hkT]
    refine backTo_of ((k + 1, T.set k !m.locals[k].param), _) ⟨hk', by rw [List.length_set]; exact hT, fun j hj hjk hp => ?_⟩ (by first | omega | (simp only []; omega)) (ent_of _ [] rfl rfl (by simp only [VCA, simprocAttr, encL, MCA, lE_imv, hol]))
    rw [List.getD_eq_getElem?_getD]
    by_cases e : k = j
    · subst e
      show ((T.set k !m.locals[k].param)[k]?).getD false = true
      rw [List.getElem?_set_self hkT, hp]; rfl
    · show ((T.set k !m.locals[k].param)[j]?).getD false = true
      rw [List.getElem?_set_ne e, ← List.getD_eq_getElem?_getD]
      exact hTp j hj (by simp only [] at hjk; omega) hp
  · have hk' : k = m.locals.length := by omega
    subst hk'
    have hTk : Tk m T 0 := ⟨hT, fun j hj hp => hTp j hj hj hp, fun i hi h _ => absurd h (Nat.not_lt_zero _), fun i hi h _ => absurd h (Nat.not_lt_zero _)⟩
    simp only [VCA, simprocAttr, encL, MCA]
    refine loop_vcg (ι := (Nat × List Bool) × (Nat → Nat)) (fun y => stO [(1, .box m.cells), (3, .val (encL cE (runG m).out)), (4, .own 1 m.locals.length (y.1.2.flatMap cB)), (6, .val (.int .i64 y.1.1))] y.2)
      (fun y => y.1.1 ≤ m.code.length ∧ Tk m y.1.2 y.1.1) (fun y => m.code.length - y.1.1) ((0, T), _) ⟨Nat.zero_le _, hTk⟩ (ent_of _ [] rfl rfl (by simp only [VCA, simprocAttr, encL, MCA, lE_imv, hol])) ?_
    clear hT hTp hTk
    rintro ⟨⟨i, T⟩, c⟩ hk
    obtain ⟨hi, hT⟩ : i ≤ m.code.length ∧ Tk m T i := hk
    simp only [VCA, simprocAttr, encL, MCA]
    refine condD_of (fun h => ?_) (fun h => ?_)
    · have hi' : i < m.code.length := by omega
      have i1 : 0 ≤ (i : Int) ∧ (i : Int) < m.code.length := by omega
      have i2 : InI64 ((i : Int) + 1) := by unfold InI64; omega
      have hxm : m.code[i] ∈ m.code := List.getElem_mem hi'
      obtain ⟨hto, hmv⟩ := may_inst hmay hxm
      have hopl := gk.ops _ hxm
      have hlen := hT.len
      have setok : (m.code[i].kind = 3 ∨ m.code[i].kind = 2) → (m.code[i].to.loc.toNat < T.length ∧ m.code[i].to.loc.toNat + 1 ≤ m.locals.length ∧ (0 ≤ m.code[i].to.loc ∧ m.code[i].to.loc < m.locals.length) ∧ (T.set m.code[i].to.loc.toNat true).getD m.code[i].to.loc.toNat false = true) := fun hk => by
        have h1 := hto hk
        have h2 : m.code[i].to.loc.toNat < T.length := by omega
        exact ⟨h2, by omega, h1, getD_self h2⟩
      simp only [VCA, simprocAttr, encL, MCA, hi', i1]
      cases b3 : decide (m.code[i].kind = 3) <;> simp only [VCA, simprocAttr, encL, MCA, b3]
      · cases b2 : decide (m.code[i].kind = 2) <;> simp only [VCA, simprocAttr, encL, MCA, b2]
        · have hno : (m.code[i].kind = 3 ∨ m.code[i].kind = 2) → T.getD m.code[i].to.loc.toNat false = true := fun h => h.elim (fun e => absurd e (of_decide_eq_false b3)) (fun e => absurd e (of_decide_eq_false b2))
          refine callX_of (opers_ret m.code[i].val) (.inl rfl) ?_
          simp only [VCA, simprocAttr, encL, MCA]
          refine loop_vcg (ι := (Nat × List Bool) × (Nat → Nat)) (fun y => stO [(1, .box m.cells), (3, .val (encL cE (runG m).out)), (4, .own 1 m.locals.length (y.1.2.flatMap cB)), (6, .val (.int .i64 i)), (7, .box m.code[i].cells), (8, .val (encL MOper.cells (opersL m.code[i].val))), (9, .val (.int .i64 y.1.1))] y.2)
            (fun y => y.1.1 ≤ (opersL m.code[i].val).length ∧ Tk m y.1.2 i ∧ ((m.code[i].kind = 3 ∨ m.code[i].kind = 2) → y.1.2.getD m.code[i].to.loc.toNat false = true) ∧ ∀ (j : Nat) (h : j < (opersL m.code[i].val).length), j < y.1.1 → (opersL m.code[i].val)[j].kind = 4 → y.1.2.getD (opersL m.code[i].val)[j].path.loc.toNat false = true) (fun y => (opersL m.code[i].val).length - y.1.1)
            ((0, T), _) ⟨Nat.zero_le _, hT, hno, fun j _ h => absurd h (Nat.not_lt_zero _)⟩ (ent_of _ [] rfl rfl (by simp only [VCA, simprocAttr, encL, MCA, lE_imv, hol])) ?_
          generalize hos : opersL m.code[i].val = os at *
          rintro ⟨⟨j, T⟩, c⟩ hk
          obtain ⟨hj, hT, hTo, hTm⟩ : j ≤ os.length ∧ Tk m T i ∧ ((m.code[i].kind = 3 ∨ m.code[i].kind = 2) → T.getD m.code[i].to.loc.toNat false = true) ∧ ∀ (q : Nat) (h : q < os.length), q < j → os[q].kind = 4 → T.getD os[q].path.loc.toNat false = true := hk
          have fin : (m.code[i].kind = 1 → j = os.length) → Tk m T (i + 1) := by
            intro hj1
            refine ⟨hT.len, hT.par, fun a ha hai h3 => ?_, fun a ha hai h3 o ho h4 => ?_⟩
            · rcases Nat.lt_or_ge a i with h | h
              · exact hT.to a ha h h3
              · obtain rfl : a = i := by omega
                exact hTo h3
            · rcases Nat.lt_or_ge a i with h | h
              · exact hT.mv a ha h h3 o ho h4
              · obtain rfl : a = i := by omega
                rw [hos] at ho
                obtain ⟨q, hq, rfl⟩ := List.getElem_of_mem ho
                exact hTm q hq (by rw [hj1 h3]; exact hq) h4
          simp only [VCA, simprocAttr, encL, MCA]
          cases c1 : decide ((j : Int) < os.length) <;> simp only [VCA, simprocAttr, encL, MCA, c1]
          · have hj' : j = os.length := by have := of_decide_eq_false c1; omega
            refine ⟨i2, backTo_of ((i + 1, T), _) ⟨hi', fin fun _ => hj'⟩ (by first | omega | (simp only []; omega)) (ent_of _ [] rfl rfl (by simp only [VCA, simprocAttr, encL, MCA, lE_imv, hol]))⟩
          have hj' : j < os.length := by have := of_decide_eq_true c1; omega
          have j1 : 0 ≤ (j : Int) ∧ (j : Int) < os.length := by omega
          have j2 : InI64 ((j : Int) + 1) := by unfold InI64; omega
          cases c2 : decide (m.code[i].kind = 1) <;> simp only [VCA, simprocAttr, encL, MCA, c2]
          · refine ⟨i2, backTo_of ((i + 1, T), _) ⟨hi', fin fun h => absurd h (of_decide_eq_false c2)⟩ (by first | omega | (simp only []; omega)) (ent_of _ [] rfl rfl (by simp only [VCA, simprocAttr, encL, MCA, lE_imv, hol]))⟩
          cases c3 : decide (os[j].kind = 4) <;> simp only [VCA, simprocAttr, encL, MCA, c3, hj', j1]
          · refine ⟨j2, backTo_of ((j + 1, T), _) ⟨hj', hT, hTo, fun q hq hqj h4 => ?_⟩ (by first | omega | (simp only []; omega)) (ent_of _ [] rfl rfl (by simp only [VCA, simprocAttr, encL, MCA, lE_imv, hol]))⟩
            rcases Nat.lt_or_ge q j with h | h
            · exact hTm q hq h h4
            · obtain rfl : q = j := by simp only [] at hqj; omega
              exact absurd h4 (of_decide_eq_false c3)
          · have hr := hmv (of_decide_eq_true c2) _ (List.getElem_mem hj') (of_decide_eq_true c3)
            have r1 : os[j].path.loc.toNat < T.length := by have := hT.len; omega
            have r2 : os[j].path.loc.toNat + 1 ≤ m.locals.length := by omega
            have hlen2 := hT.len
            simp only [VCA, simprocAttr, encL, MCA, r1, r2, hr, hlen2, lb_set r1, j2]
            refine backTo_of ((j + 1, T.set os[j].path.loc.toNat true), _) ⟨hj', hT.set, fun h => getD_set (hTo h), fun q hq hqj h4 => ?_⟩ (by first | omega | (simp only []; omega)) (ent_of _ [] rfl rfl (by simp only [VCA, simprocAttr, encL, MCA, lE_imv, hol]))
            rcases Nat.lt_or_ge q j with h | h
            · exact getD_set (hTm q hq h h4)
            · obtain rfl : q = j := by simp only [] at hqj; omega
              exact getD_self r1
        · obtain ⟨s1, s2, s3, s4⟩ := setok (.inr (of_decide_eq_true b2))
          simp only [VCA, simprocAttr, encL, MCA, s1, s2, s3, hlen, lb_set s1]
          refine callX_of (opers_ret m.code[i].val) (.inl rfl) ?_
          simp only [VCA, simprocAttr, encL, MCA]
          refine loop_vcg (ι := (Nat × List Bool) × (Nat → Nat)) (fun y => stO [(1, .box m.cells), (3, .val (encL cE (runG m).out)), (4, .own 1 m.locals.length (y.1.2.flatMap cB)), (6, .val (.int .i64 i)), (7, .box m.code[i].cells), (8, .val (encL MOper.cells (opersL m.code[i].val))), (9, .val (.int .i64 y.1.1))] y.2)
            (fun y => y.1.1 ≤ (opersL m.code[i].val).length ∧ Tk m y.1.2 i ∧ ((m.code[i].kind = 3 ∨ m.code[i].kind = 2) → y.1.2.getD m.code[i].to.loc.toNat false = true) ∧ ∀ (j : Nat) (h : j < (opersL m.code[i].val).length), j < y.1.1 → (opersL m.code[i].val)[j].kind = 4 → y.1.2.getD (opersL m.code[i].val)[j].path.loc.toNat false = true) (fun y => (opersL m.code[i].val).length - y.1.1)
            ((0, T.set m.code[i].to.loc.toNat true), _) ⟨Nat.zero_le _, hT.set, fun _ => s4, fun j _ h => absurd h (Nat.not_lt_zero _)⟩ (ent_of _ [] rfl rfl (by simp only [VCA, simprocAttr, encL, MCA, lE_imv, hol])) ?_
          generalize hos : opersL m.code[i].val = os at *
          rintro ⟨⟨j, T⟩, c⟩ hk
          obtain ⟨hj, hT, hTo, hTm⟩ : j ≤ os.length ∧ Tk m T i ∧ ((m.code[i].kind = 3 ∨ m.code[i].kind = 2) → T.getD m.code[i].to.loc.toNat false = true) ∧ ∀ (q : Nat) (h : q < os.length), q < j → os[q].kind = 4 → T.getD os[q].path.loc.toNat false = true := hk
          have fin : (m.code[i].kind = 1 → j = os.length) → Tk m T (i + 1) := by
            intro hj1
            refine ⟨hT.len, hT.par, fun a ha hai h3 => ?_, fun a ha hai h3 o ho h4 => ?_⟩
            · rcases Nat.lt_or_ge a i with h | h
              · exact hT.to a ha h h3
              · obtain rfl : a = i := by omega
                exact hTo h3
            · rcases Nat.lt_or_ge a i with h | h
              · exact hT.mv a ha h h3 o ho h4
              · obtain rfl : a = i := by omega
                rw [hos] at ho
                obtain ⟨q, hq, rfl⟩ := List.getElem_of_mem ho
                exact hTm q hq (by rw [hj1 h3]; exact hq) h4
          simp only [VCA, simprocAttr, encL, MCA]
          cases c1 : decide ((j : Int) < os.length) <;> simp only [VCA, simprocAttr, encL, MCA, c1]
          · have hj' : j = os.length := by have := of_decide_eq_false c1; omega
            refine ⟨i2, backTo_of ((i + 1, T), _) ⟨hi', fin fun _ => hj'⟩ (by first | omega | (simp only []; omega)) (ent_of _ [] rfl rfl (by simp only [VCA, simprocAttr, encL, MCA, lE_imv, hol]))⟩
          have hj' : j < os.length := by have := of_decide_eq_true c1; omega
          have j1 : 0 ≤ (j : Int) ∧ (j : Int) < os.length := by omega
          have j2 : InI64 ((j : Int) + 1) := by unfold InI64; omega
          cases c2 : decide (m.code[i].kind = 1) <;> simp only [VCA, simprocAttr, encL, MCA, c2]
          · refine ⟨i2, backTo_of ((i + 1, T), _) ⟨hi', fin fun h => absurd h (of_decide_eq_false c2)⟩ (by first | omega | (simp only []; omega)) (ent_of _ [] rfl rfl (by simp only [VCA, simprocAttr, encL, MCA, lE_imv, hol]))⟩
          cases c3 : decide (os[j].kind = 4) <;> simp only [VCA, simprocAttr, encL, MCA, c3, hj', j1]
          · refine ⟨j2, backTo_of ((j + 1, T), _) ⟨hj', hT, hTo, fun q hq hqj h4 => ?_⟩ (by first | omega | (simp only []; omega)) (ent_of _ [] rfl rfl (by simp only [VCA, simprocAttr, encL, MCA, lE_imv, hol]))⟩
            rcases Nat.lt_or_ge q j with h | h
            · exact hTm q hq h h4
            · obtain rfl : q = j := by simp only [] at hqj; omega
              exact absurd h4 (of_decide_eq_false c3)
          · have hr := hmv (of_decide_eq_true c2) _ (List.getElem_mem hj') (of_decide_eq_true c3)
            have r1 : os[j].path.loc.toNat < T.length := by have := hT.len; omega
            have r2 : os[j].path.loc.toNat + 1 ≤ m.locals.length := by omega
            have hlen2 := hT.len
            simp only [VCA, simprocAttr, encL, MCA, r1, r2, hr, hlen2, lb_set r1, j2]
            refine backTo_of ((j + 1, T.set os[j].path.loc.toNat true), _) ⟨hj', hT.set, fun h => getD_set (hTo h), fun q hq hqj h4 => ?_⟩ (by first | omega | (simp only []; omega)) (ent_of _ [] rfl rfl (by simp only [VCA, simprocAttr, encL, MCA, lE_imv, hol]))
            rcases Nat.lt_or_ge q j with h | h
            · exact getD_set (hTm q hq h h4)
            · obtain rfl : q = j := by simp only [] at hqj; omega
              exact getD_self r1
      · obtain ⟨s1, s2, s3, s4⟩ := setok (.inl (of_decide_eq_true b3))
        simp only [VCA, simprocAttr, encL, MCA, s1, s2, s3, hlen, lb_set s1]
        refine callX_of (opers_ret m.code[i].val) (.inl rfl) ?_
        simp only [VCA, simprocAttr, encL, MCA]
        refine loop_vcg (ι := (Nat × List Bool) × (Nat → Nat)) (fun y => stO [(1, .box m.cells), (3, .val (encL cE (runG m).out)), (4, .own 1 m.locals.length (y.1.2.flatMap cB)), (6, .val (.int .i64 i)), (7, .box m.code[i].cells), (8, .val (encL MOper.cells (opersL m.code[i].val))), (9, .val (.int .i64 y.1.1))] y.2)
          (fun y => y.1.1 ≤ (opersL m.code[i].val).length ∧ Tk m y.1.2 i ∧ ((m.code[i].kind = 3 ∨ m.code[i].kind = 2) → y.1.2.getD m.code[i].to.loc.toNat false = true) ∧ ∀ (j : Nat) (h : j < (opersL m.code[i].val).length), j < y.1.1 → (opersL m.code[i].val)[j].kind = 4 → y.1.2.getD (opersL m.code[i].val)[j].path.loc.toNat false = true) (fun y => (opersL m.code[i].val).length - y.1.1)
          ((0, T.set m.code[i].to.loc.toNat true), _) ⟨Nat.zero_le _, hT.set, fun _ => s4, fun j _ h => absurd h (Nat.not_lt_zero _)⟩ (ent_of _ [] rfl rfl (by simp only [VCA, simprocAttr, encL, MCA, lE_imv, hol])) ?_
        generalize hos : opersL m.code[i].val = os at *
        rintro ⟨⟨j, T⟩, c⟩ hk
        obtain ⟨hj, hT, hTo, hTm⟩ : j ≤ os.length ∧ Tk m T i ∧ ((m.code[i].kind = 3 ∨ m.code[i].kind = 2) → T.getD m.code[i].to.loc.toNat false = true) ∧ ∀ (q : Nat) (h : q < os.length), q < j → os[q].kind = 4 → T.getD os[q].path.loc.toNat false = true := hk
        have fin : (m.code[i].kind = 1 → j = os.length) → Tk m T (i + 1) := by
          intro hj1
          refine ⟨hT.len, hT.par, fun a ha hai h3 => ?_, fun a ha hai h3 o ho h4 => ?_⟩
          · rcases Nat.lt_or_ge a i with h | h
            · exact hT.to a ha h h3
            · obtain rfl : a = i := by omega
              exact hTo h3
          · rcases Nat.lt_or_ge a i with h | h
            · exact hT.mv a ha h h3 o ho h4
            · obtain rfl : a = i := by omega
              rw [hos] at ho
              obtain ⟨q, hq, rfl⟩ := List.getElem_of_mem ho
              exact hTm q hq (by rw [hj1 h3]; exact hq) h4
        simp only [VCA, simprocAttr, encL, MCA]
        cases c1 : decide ((j : Int) < os.length) <;> simp only [VCA, simprocAttr, encL, MCA, c1]
        · have hj' : j = os.length := by have := of_decide_eq_false c1; omega
          refine ⟨i2, backTo_of ((i + 1, T), _) ⟨hi', fin fun _ => hj'⟩ (by first | omega | (simp only []; omega)) (ent_of _ [] rfl rfl (by simp only [VCA, simprocAttr, encL, MCA, lE_imv, hol]))⟩
        have hj' : j < os.length := by have := of_decide_eq_true c1; omega
        have j1 : 0 ≤ (j : Int) ∧ (j : Int) < os.length := by omega
        have j2 : InI64 ((j : Int) + 1) := by unfold InI64; omega
        cases c2 : decide (m.code[i].kind = 1) <;> simp only [VCA, simprocAttr, encL, MCA, c2]
        · refine ⟨i2, backTo_of ((i + 1, T), _) ⟨hi', fin fun h => absurd h (of_decide_eq_false c2)⟩ (by first | omega | (simp only []; omega)) (ent_of _ [] rfl rfl (by simp only [VCA, simprocAttr, encL, MCA, lE_imv, hol]))⟩
        cases c3 : decide (os[j].kind = 4) <;> simp only [VCA, simprocAttr, encL, MCA, c3, hj', j1]
        · refine ⟨j2, backTo_of ((j + 1, T), _) ⟨hj', hT, hTo, fun q hq hqj h4 => ?_⟩ (by first | omega | (simp only []; omega)) (ent_of _ [] rfl rfl (by simp only [VCA, simprocAttr, encL, MCA, lE_imv, hol]))⟩
          rcases Nat.lt_or_ge q j with h | h
          · exact hTm q hq h h4
          · obtain rfl : q = j := by simp only [] at hqj; omega
            exact absurd h4 (of_decide_eq_false c3)
        · have hr := hmv (of_decide_eq_true c2) _ (List.getElem_mem hj') (of_decide_eq_true c3)
          have r1 : os[j].path.loc.toNat < T.length := by have := hT.len; omega
          have r2 : os[j].path.loc.toNat + 1 ≤ m.locals.length := by omega
          have hlen2 := hT.len
          simp only [VCA, simprocAttr, encL, MCA, r1, r2, hr, hlen2, lb_set r1, j2]
          refine backTo_of ((j + 1, T.set os[j].path.loc.toNat true), _) ⟨hj', hT.set, fun h => getD_set (hTo h), fun q hq hqj h4 => ?_⟩ (by first | omega | (simp only []; omega)) (ent_of _ [] rfl rfl (by simp only [VCA, simprocAttr, encL, MCA, lE_imv, hol]))
          rcases Nat.lt_or_ge q j with h | h
          · exact getD_set (hTm q hq h h4)
          · obtain rfl : q = j := by simp only [] at hqj; omega
            exact getD_self r1
    · have hi' : i = m.code.length := by omega
      subst hi'
      have hTl := hT.len
      have hR : ∀ i, ∀ p ∈ (runG m).at i, 0 ≤ p.loc ∧ p.loc < m.locals.length ∧ T.getD p.loc.toNat false = true := never_mem hG hmay hT
      simp only [VCA, simprocAttr, encL, MCA]
      refine loop_vcg (ι := Nat × (Nat → Nat)) (fun y => stO [(1, .box m.cells), (3, .val (encL cE (runG m).out)), (4, .own 1 m.locals.length (T.flatMap cB)), (10, .val (.bool !((T.take y.1).any id))), (11, .val (.int .i64 y.1))] y.2)
        (fun y => y.1 ≤ T.length) (fun y => T.length - y.1) (0, _) (Nat.zero_le _) (ent_of _ [] rfl rfl (by simp only [VCA, simprocAttr, encL, MCA, List.take_zero, List.any_nil, Bool.not_false, lE_imv, hol])) ?_
      rintro ⟨k, c⟩ hk
      have hk : k ≤ T.length := hk
      simp only [VCA, simprocAttr, encL, MCA]
      refine condD_of (fun h => ?_) (fun h => ?_)
      · have hk' : k < T.length := by omega
        have hkl : k < m.locals.length := by omega
        have i1 : 0 ≤ (k : Int) ∧ (k : Int) < m.locals.length := by omega
        have i2 : InI64 ((k : Int) + 1) := by unfold InI64; omega
        have et : (T.take (k + 1)).any id = ((T.take k).any id || T[k]) := by
          rw [List.take_succ_eq_append_getElem hk', List.any_append]; simp only [List.any_cons, List.any_nil, Bool.or_false, id]
        cases b1 : (T.take k).any id <;> simp only [VCA, simprocAttr, encL, MCA, b1, Bool.not_false, Bool.not_true, i1, hkl, hk', hTl, i2]
        · refine backTo_of (k + 1, _) hkl (by first | omega | (simp only []; omega)) (ent_of _ [] rfl rfl (by simp only [VCA, simprocAttr, encL, MCA, et, b1, Bool.false_or, lE_imv, hol]))
        · refine backTo_of (k + 1, _) hkl (by first | omega | (simp only []; omega)) (ent_of _ [] rfl rfl (by simp only [VCA, simprocAttr, encL, MCA, et, b1, Bool.true_or, Bool.not_true, lE_imv, hol]))
      · have hk' : k = T.length := by omega
        subst hk'
        simp only [VCA, simprocAttr, encL, MCA, List.take_length]
        refine loop_vcg (ι := Nat × (Nat → Nat)) (fun y => stO [(1, .box m.cells), (3, .val (encL cE (runG m).out)), (4, .own 1 m.locals.length (T.flatMap cB)), (10, .val (.bool !(T.any id))), (12, .val (.int .i64 y.1))] y.2)
          (fun y => y.1 ≤ m.code.length) (fun y => m.code.length - y.1) (0, _) (Nat.zero_le _) (ent_of _ [] rfl rfl (by simp only [VCA, simprocAttr, encL, MCA, lE_imv, hol])) ?_
        rintro ⟨i, c⟩ hi
        have hi : i ≤ m.code.length := hi
        simp only [VCA, simprocAttr, encL, MCA, hol]
        refine condD_of (fun h => ?_) (fun h => ?_)
        · have hi' : i < m.code.length := by omega
          have hio : i < (runG m).out.length := by rw [hol]; exact hi'
          have i1 : 0 ≤ (i : Int) ∧ (i : Int) < m.code.length := by omega
          have i2 : InI64 ((i : Int) + 1) := by unfold InI64; omega
          have hat : (runG m).out[i] = (runG m).at i := (at_eq hw.ok hi').symm
          have hRi := hR i
          have hga := hw.at_mem i
          have hgl : ((runG m).at i).length ≤ 2000 := Nat.le_trans (srt_len hga.2 hga.1) hul
          simp only [VCA, simprocAttr, encL, MCA]
          generalize hg' : (runG m).at i = g at hat hRi hga hgl
          refine loop_vcg (ι := Nat × (Nat → Nat)) (fun y => stO [(1, .box m.cells), (3, .val (encL cE (runG m).out)), (4, .own 1 m.locals.length (T.flatMap cB)), (10, .val (.bool !(T.any id))), (12, .val (.int .i64 i)), (13, .val (.int .i64 y.1))] y.2)
            (fun y => y.1 ≤ g.length) (fun y => g.length - y.1) (0, _) (Nat.zero_le _) (ent_of _ [] rfl rfl (by simp only [VCA, simprocAttr, encL, MCA, lE_imv, hol])) ?_
          rintro ⟨r, c⟩ hr
          have hr : r ≤ g.length := hr
          simp only [VCA, simprocAttr, encL, MCA, hol, i1, hi', hio, ld_cE, hat, llenE]
          refine condD_of (fun h => ?_) (fun h => ?_)
          · have hr' : r < g.length := by omega
            have r1 : 0 ≤ (r : Int) ∧ (r : Int) < g.length := by omega
            have r2 : InI64 ((r : Int) + 1) := by unfold InI64; omega
            have hane : g ≠ [] := by rintro rfl; cases hr'
            obtain ⟨q1, q2, q3⟩ := hRi _ (List.getElem_mem hr')
            have q4 : g[r].loc.toNat < T.length := by omega
            have q5 : T[g[r].loc.toNat] = true := by
              rw [List.getD_eq_getElem?_getD, List.getElem?_eq_getElem q4] at q3; exact q3
            have q6 : decide (g[r].loc < 0) = false := decide_eq_false (by omega)
            have q7 : decide ((m.locals.length : Int) ≤ g[r].loc) = false := decide_eq_false (by omega)
            have q8 : g[r].loc.toNat < m.locals.length := by omega
            simp only [VCA, simprocAttr, encL, MCA, hol, i1, hi', hio, ld_cE, hat, liaSE hane, r1, hr', q1, q2, q4, q5, q6, q7, q8, r2]
            refine backTo_of (r + 1, _) hr' (by first | omega | (simp only []; omega)) (ent_of _ [] rfl rfl (by simp only [VCA, simprocAttr, encL, MCA, lE_imv, hol]))
          · simp only [VCA, simprocAttr, encL, MCA, i2]
            refine backTo_of (i + 1, _) hi' (by first | omega | (simp only []; omega)) (ent_of _ [] rfl rfl (by simp only [VCA, simprocAttr, encL, MCA, lE_imv, hol]))
        · simp only [VCA, simprocAttr, encL, MCA]
          refine callX_of (told_ret hS) (.inr rfl) ?_
          cases bn : T.any id <;> simp only [VCA, simprocAttr, encL, MCA, bn, Bool.not_false, Bool.not_true]
          have hd := never_none hG hmay gk hs (great_path hg) hT bn
          refine callX_of (diags_ret hS m hd.1 (by rw [hd.2]; decide)) (.inl rfl) ?_
          rw [hd.2]
          simp only [VCA, simprocAttr, encL, MCA, List.length_nil]
end Go.Proofs.YtlkdcgfjmhjjpaaGreat

set_option linter.unusedSimpArgs false
set_option linter.unusedVariables false
namespace Go.Proofs.YtlkdcgfjmhjjpaaGreat
open Go Go.Lg Go.RowKit


theorem tyInt : IsT Tryz.prog 3 (fun n : Int => cI n) InI64 := isInt (by kernel_rfl)
theorem tyBool : IsT Tryz.prog 4 (fun n : Bool => cB n) (fun _ => True) := isBool (by kernel_rfl)
theorem tyStr : IsT Tryz.prog 9 (fun n : ByteArray => cS n) (fun s => s.size ≤ maxLen) := isStr (by kernel_rfl)
theorem tyInts : IsT Tryz.prog 28 (fun l : List Int => [encL cI l]) (fun l => l.length ≤ maxLen ∧ ∀ x ∈ l, InI64 x) := isSl (e := 3) (s := 1) (by kernel_rfl) (by decide) cI_len tyInt
theorem tyRT0 : ∀ (t : TypeId) (xs : List V), Ty Tryz.prog t xs → (t = 53 → ∃ x : RT, xs = x.cells ∧ x.ok) ∧ (t = 51 → ∃ l : List RT, xs = [encL RT.cells l] ∧ l.length ≤ maxLen ∧ ∀ x ∈ l, x.ok) := by
  intro t xs h
  induction h with
  | struct t fs cs hu hl hf ih =>
    refine ⟨fun e => ?_, fun e => ?_⟩
    · subst e
      have hs : stF Tryz.prog 53 = some [3, 9, 28, 51] := by kernel_rfl
      unfold stF at hs
      simp only [hu] at hs
      split at hs
      case isFalse => cases hs
      rename_i ht
      simp only [Option.some.injEq] at hs
      simp only [tileOk, hu, beq_iff_eq] at ht
      have hp := pcs_of (Q := fun t xs => Ty Tryz.prog t xs ∧ ((t = 53 → ∃ x : RT, xs = x.cells ∧ x.ok) ∧ (t = 51 → ∃ l : List RT, xs = [encL RT.cells l] ∧ l.length ≤ maxLen ∧ ∀ x ∈ l, x.ok))) (xs := cs) fs.toList 0 _ ht hl (fun f hm => ⟨hf f hm, ih f hm⟩)
      rw [hs, List.drop_zero] at hp
      obtain ⟨_, _, rfl, h0, _, _, rfl, h1, _, _, rfl, h2, _, _, rfl, h3, rfl⟩ := hp
      obtain ⟨x0, rfl, o0⟩ := tyInt _ h0.1
      obtain ⟨x1, rfl, o1⟩ := tyStr _ h1.1
      obtain ⟨x2, rfl, o2⟩ := tyInts _ h2.1
      obtain ⟨x3, rfl, o3⟩ := h3.2.2 rfl
      exact ⟨.mk x0 x1 x2 x3, by rw [RT.cells_eq]; rfl, (RT.ok_iff _).2 ⟨o0, o1, o2, o3⟩⟩
    · subst e
      have hs : slF Tryz.prog 51 = some (53, 4) := by kernel_rfl
      simp [slF, hu] at hs
  | slice t e n cs hu hl hn hi ih =>
    refine ⟨fun e => ?_, fun e => ?_⟩
    · subst e
      have hs : stF Tryz.prog 53 = some [3, 9, 28, 51] := by kernel_rfl
      simp [stF, hu] at hs
    · subst e
      have hs : slF Tryz.prog 51 = some (53, 4) := by kernel_rfl
      simp only [slF, hu, Option.some.injEq, Prod.mk.injEq] at hs
      obtain ⟨rfl, hs⟩ := hs
      rw [hs] at hl ih
      obtain ⟨l, h1, h2, h3⟩ := list_of_pcs (f := RT.cells) (ok := RT.ok) RT.len n cs hl fun i h => (ih i h).1 rfl
      exact ⟨l, by simp only [encL]; rw [← h2, h1], by omega, h3⟩
  | bool t b hu => exact ⟨fun e => by subst e; have hs : stF Tryz.prog 53 = some [3, 9, 28, 51] := by kernel_rfl
                                      simp [stF, hu] at hs, fun e => by subst e; have hs : slF Tryz.prog 51 = some (53, 4) := by kernel_rfl
                                                                        simp [slF, hu] at hs⟩
  | int t k n hu => exact ⟨fun e => by subst e; have hs : stF Tryz.prog 53 = some [3, 9, 28, 51] := by kernel_rfl
                                       simp [stF, hu] at hs, fun e => by subst e; have hs : slF Tryz.prog 51 = some (53, 4) := by kernel_rfl
                                                                         simp [slF, hu] at hs⟩
  | str t s hu => exact ⟨fun e => by subst e; have hs : stF Tryz.prog 53 = some [3, 9, 28, 51] := by kernel_rfl
                                     simp [stF, hu] at hs, fun e => by subst e; have hs : slF Tryz.prog 51 = some (53, 4) := by kernel_rfl
                                                                       simp [slF, hu] at hs⟩
  | array t n e cs hu => exact ⟨fun e => by subst e; have hs : stF Tryz.prog 53 = some [3, 9, 28, 51] := by kernel_rfl
                                            simp [stF, hu] at hs, fun e => by subst e; have hs : slF Tryz.prog 51 = some (53, 4) := by kernel_rfl
                                                                              simp [slF, hu] at hs⟩
  | other t d hu ho => exact ⟨fun e => by subst e; have hs : stF Tryz.prog 53 = some [3, 9, 28, 51] := by kernel_rfl
                                          simp only [stF, hu] at hs; cases d <;> simp_all [otherOk], fun e => by subst e; have hs : slF Tryz.prog 51 = some (53, 4) := by kernel_rfl
                                                                                                                 simp only [slF, hu] at hs; cases d <;> simp_all [otherOk]⟩
theorem tyRT : IsT Tryz.prog 53 RT.cells RT.ok := fun xs h => (tyRT0 _ xs h).1 rfl

theorem tyLocal : IsT Tryz.prog 55 MLocal.cells MLocal.ok := by
  intro xs hx
  have hp := hx.st (ts := [9, 53, 4]) (by kernel_rfl)
  obtain ⟨_, _, rfl, h0, _, _, rfl, h1, _, _, rfl, h2, rfl⟩ := hp
  obtain ⟨x0, rfl, o0⟩ := tyStr _ h0
  obtain ⟨x1, rfl, o1⟩ := tyRT _ h1
  obtain ⟨x2, rfl, o2⟩ := tyBool _ h2
  exact ⟨⟨x0, x1, x2⟩, by rw [MLocal.cells_split], o0, o1⟩
theorem tyLocals : IsT Tryz.prog 44 (fun l : List MLocal => [encL MLocal.cells l]) (fun l => l.length ≤ maxLen ∧ ∀ x ∈ l, x.ok) := isSl (e := 55) (s := 6) (by kernel_rfl) (by decide) MLocal.len tyLocal

theorem tyPair : IsT Tryz.prog 69 (fun l : List Int => l.flatMap cI) (fun l => l.length = 2 ∧ ∀ x ∈ l, InI64 x) := isAr (e := 3) (s := 1) (by kernel_rfl) (by kernel_rfl) cI_len tyInt

theorem tyKnown : IsT Tryz.prog 43 (fun l : List (List Int) => [encL (fun k : List Int => k.flatMap cI) l]) (fun l => l.length ≤ maxLen ∧ ∀ k ∈ l, k.length = 2 ∧ ∀ x ∈ k, InI64 x) := by
  intro xs hx
  obtain ⟨n, cs, rfl, hl, hn, hi⟩ := hx.sl (e := 69) (s := 2) (by kernel_rfl) (by decide)
  have key : ∀ (n : Nat) (cs : List V), cs.length = n * 2 → (∀ i, i < n → Ty Tryz.prog 69 ((cs.drop (i * 2)).take 2)) → ∃ l : List (List Int), l.length = n ∧ cs = l.flatMap (fun k : List Int => k.flatMap cI) ∧ ∀ k ∈ l, k.length = 2 ∧ ∀ x ∈ k, InI64 x := by
    intro n
    induction n with
    | zero => intro cs hl _; exact ⟨[], rfl, List.eq_nil_of_length_eq_zero (by omega), fun x h => by cases h⟩
    | succ n ih =>
      intro cs hl h
      obtain ⟨x, hx, hox⟩ := tyPair _ (h 0 (by omega))
      obtain ⟨l, h1, h2, h3⟩ := ih (cs.drop 2) (by rw [List.length_drop, hl]; omega) fun i hi => by
        have := h (i + 1) (by omega)
        rw [List.drop_drop, show 2 + i * 2 = (i + 1) * 2 by omega]
        exact this
      refine ⟨x :: l, by simp [h1], ?_, fun y hy => ?_⟩
      · simp only [Nat.zero_mul, List.drop_zero] at hx
        rw [List.flatMap_cons, ← h2, ← hx, List.take_append_drop]
      · rcases List.mem_cons.1 hy with rfl | hy
        · exact hox
        · exact h3 y hy
  obtain ⟨l, h1, h2, h3⟩ := key n cs hl hi
  exact ⟨l, by simp only [encL]; rw [← h2, h1], by omega, h3⟩

end Go.Proofs.YtlkdcgfjmhjjpaaGreat

set_option linter.unusedSimpArgs false
set_option linter.unusedVariables false
namespace Go.Proofs.YtlkdcgfjmhjjpaaGreat
open Go Go.Lg Go.RowKit Go.ChangeShapes Go.WideShapes Go.ChangeAt
set_option linter.unusedVariables false

theorem own : ownKnob Tryz.prog.godebug = none := by kernel_rfl
theorem laidOut : laidOutB Tryz.prog = true := by kernel_rfl
theorem tiles : tilesOk Tryz.prog = true := by kernel_rfl

end Go.Proofs.YtlkdcgfjmhjjpaaGreat

set_option linter.unusedSimpArgs false
set_option linter.unusedVariables false
namespace Go.Proofs.YtlkdcgfjmhjjpaaGreat
open Go Go.Lg Go.RowKit Go.ChangeShapes Go.WideShapes Go.ChangeAt
set_option linter.unusedVariables false

theorem gl0 : glOf Tryz.prog = [] := by kernel_rfl
theorem gok0 (W : World) : GOk Tryz.prog W := fun p hp => by rw [gl0] at hp; cases hp
end Go.Proofs.YtlkdcgfjmhjjpaaGreat
