/-
  LgNd LgNe LgO LgP LgQ LgT LgU: put together.
-/
import Derived.Test.YtlnphjjhfgghkaaGreatDoorSDb
set_option linter.unusedSimpArgs false
set_option linter.unusedVariables false
namespace Go.Lg
open Go Go.RowKit
structure Big where
  H0:Heap
  c0:Nat→Nat
  H1:Heap
  c1:Nat→Nat
structure Ev where
  v:V
  rd:List (Key × LObj)
  w:Option (Key × LObj)
  nw:Bool
  tm:Nat→V
  big:Option Big:=none
def apE (s:Nat) (d:Option Nat) (e:Ev) (σ:St):St:=match e.big with
  | some b=>St.put ⟨σ.tm,b.H1,b.c1⟩ d e.v
  | none=>St.put ⟨σ.tm,match e.w with|none=>σ.H|some p=>hupd σ.H p.1 p.2,if e.nw then cupd σ.cnt s else σ.cnt⟩ d e.v
def rdyE (s:Nat) (o:LOp) (e:Ev) (σ:St):Prop:=((∀ t∈o.slots,σ.tm t=e.tm t)∧(∀ p∈e.rd,σ.H p.1=some p.2)∧(e.nw=true→∀ p,e.w=some p→p.1=(s,σ.cnt s)))∧∀ b,e.big=some b→σ.H=b.H0∧σ.cnt=b.c0
def EvOk (P:Program) (s:Nat) (o:LOp) (e:Ev):Prop:=∀ σ,rdyE s o e σ→∀ K:St→Prop,K (apE s o.dst e σ)→vstepC P s o K σ
def kw (e:Ev):List Key:=match e.w with|none=>[]|some p=>[p.1]
def calm (e:Ev):Prop:=e.rd=[]∧e.w=none∧e.nw=false∧e.big=none
def calmB (e f:Ev):Prop:=∃ b,e.big=some b∧f.w=none∧f.nw=false∧f.big=none∧∀ p∈f.rd,b.H0 p.1=some p.2∧b.H1 p.1=some p.2
def cmpE (x:LOp) (e:Ev) (y:LOp) (f:Ev):Prop:=apartO x y=true∧((e.big=none∧f.big=none∧(∀ k∈kw e,k∉f.rd.map (·.1)∧k∉kw f)∧(∀ k∈kw f,k∉e.rd.map (·.1)))∨calm e∨calm f∨calmB e f∨calmB f e)
def RunE (rid:Nat) (lo:Nat→LOp) (ev:Nat→Ev):List Nat→St→St→Prop
  | [],σ,σ'=>σ' = σ
  | i::r,σ,σ'=>rdyE (siteOf rid i) (lo i) (ev i) σ∧RunE rid lo ev r (apE (siteOf rid i) (lo i).dst (ev i) σ) σ'
theorem apE_tm (s:Nat) (d:Option Nat) (e:Ev) (σ:St):(apE s d e σ).tm=dput σ.tm d e.v:=by
  unfold apE;cases e.big<;>rfl
theorem apE_H (s:Nat) (d:Option Nat) (e:Ev) (σ:St) (hb:e.big=none):(apE s d e σ).H=match e.w with|none=>σ.H|some p=>hupd σ.H p.1 p.2:=by
  unfold apE;rw [hb];rfl
theorem apE_cnt (s:Nat) (d:Option Nat) (e:Ev) (σ:St) (hb:e.big=none):(apE s d e σ).cnt=if e.nw then cupd σ.cnt s else σ.cnt:=by
  unfold apE;rw [hb];rfl
theorem apE_calm {s:Nat} {d:Option Nat} {e:Ev} (hc:calm e) (σ:St):apE s d e σ=σ.put d e.v:=by
  unfold apE;rw [hc.2.2.2,hc.2.1,hc.2.2.1];rfl
theorem apE_still {s:Nat} {d:Option Nat} {e:Ev} (h1:e.w=none) (h2:e.nw=false) (h3:e.big=none) (σ:St):apE s d e σ=σ.put d e.v:=by
  unfold apE;rw [h3,h1,h2];rfl
theorem apE_put {s:Nat} {d d':Option Nat} {e:Ev} {v:V} (h:∀ t,d=some t→d'≠some t) (σ:St):apE s d e (σ.put d' v)=(apE s d e σ).put d' v:=by
  unfold apE
  cases e.big with
  | some b=>simp only [St.put];rw [dput_comm fun t ht he=>h t he ht]
  | none=>simp only [St.put];rw [dput_comm fun t ht he=>h t he ht]
theorem dput_ne {f:Nat→V} {d:Option Nat} {v:V} {t:Nat} (h:∀ x,d=some x→x≠t):dput f d v t=f t:=by
  cases d with
  | none=>rfl
  | some x=>simp only [dput,tupd];rw [if_neg fun e=>h x rfl e.symm]
theorem apE_H_ne {s:Nat} {d:Option Nat} {e:Ev} {σ:St} {k:Key} (hb:e.big=none) (h:k∉kw e):(apE s d e σ).H k=σ.H k:=by
  rw [apE_H _ _ _ _ hb]
  cases hw:e.w with
  | none=>rfl
  | some p =>
    simp only [kw,hw,List.mem_singleton] at h
    simp only [hupd,if_neg h]
theorem apE_cnt_ne {s s':Nat} {d:Option Nat} {e:Ev} {σ:St} (hb:e.big=none) (h:s'≠s):(apE s d e σ).cnt s' = σ.cnt s':=by
  rw [apE_cnt _ _ _ _ hb]
  split
  · exact cupd_ne h
  · rfl
theorem swapE {si sj:Nat} {oi oj:LOp} {ei ej:Ev} {σ:St} (hne:si≠sj) (hc:cmpE oi ei oj ej) (h1:rdyE si oi ei σ) (h2:rdyE sj oj ej (apE si oi.dst ei σ)) :
    rdyE sj oj ej σ∧rdyE si oi ei (apE sj oj.dst ej σ)∧apE si oi.dst ei (apE sj oj.dst ej σ)=apE sj oj.dst ej (apE si oi.dst ei σ):=by
  obtain ⟨hap,hc⟩:=hc
  have a1:∀ t,oi.dst=some t→t∉oj.slots:=by
    intro t ht;simp [apartO,ht] at hap;exact hap.1.1
  have a2:∀ t,oi.dst=some t→oj.dst≠some t:=by
    intro t ht;simp [apartO,ht] at hap;exact hap.1.2
  have a3:∀ t,oj.dst=some t→t∉oi.slots:=by
    intro t ht;simp [apartO,ht] at hap;exact hap.2
  have a2':∀ t,oj.dst=some t→oi.dst≠some t:=fun t ht he=>a2 t he ht
  obtain ⟨⟨h11,h12,h13⟩,h14⟩:=h1
  obtain ⟨⟨h21,h22,h23⟩,h24⟩:=h2
  have sl1:∀ t∈oj.slots,σ.tm t=ej.tm t:=by
    intro t ht
    rw [← h21 t ht,apE_tm,dput_ne]
    rintro x hx rfl;exact a1 x hx ht
  have sl2:∀ t∈oi.slots,(apE sj oj.dst ej σ).tm t=ei.tm t:=by
    intro t ht
    rw [← h11 t ht,apE_tm,dput_ne]
    rintro x hx rfl;exact a3 x hx ht
  rcases hc with ⟨b1,b2,hk1,hk2⟩|hc|hc|hc|hc
  · refine ⟨⟨⟨sl1,fun p hp=>?_,fun hn p hp=>?_⟩,fun b hb=>by rw [b2] at hb;cases hb⟩,⟨⟨sl2,fun p hp=>?_,fun hn p hp=>?_⟩,fun b hb=>by rw [b1] at hb;cases hb⟩,?_⟩
    · rw [← h22 p hp]
      refine (apE_H_ne b1 fun hm=>?_).symm
      exact (hk1 _ hm).1 (List.mem_map.2 ⟨p,hp,rfl⟩)
    · rw [h23 hn p hp,apE_cnt_ne b1 (Ne.symm hne)]
    · rw [← h12 p hp]
      refine apE_H_ne b2 fun hm=>?_
      exact hk2 _ hm (List.mem_map.2 ⟨p,hp,rfl⟩)
    · rw [h13 hn p hp,apE_cnt_ne b2 hne]
    · have e1:(apE si oi.dst ei (apE sj oj.dst ej σ)).tm=(apE sj oj.dst ej (apE si oi.dst ei σ)).tm:=by
        rw [apE_tm,apE_tm,apE_tm,apE_tm];exact (dput_comm a2).symm
      have e3:(apE si oi.dst ei (apE sj oj.dst ej σ)).cnt=(apE sj oj.dst ej (apE si oi.dst ei σ)).cnt:=by
        rw [apE_cnt _ _ _ _ b1,apE_cnt _ _ _ _ b2,apE_cnt _ _ _ _ b2,apE_cnt _ _ _ _ b1]
        cases ei.nw<;>cases ej.nw<;>try rfl
        exact cupd_comm (Ne.symm hne)
      have e2:(apE si oi.dst ei (apE sj oj.dst ej σ)).H=(apE sj oj.dst ej (apE si oi.dst ei σ)).H:=by
        rw [apE_H _ _ _ _ b1,apE_H _ _ _ _ b2,apE_H _ _ _ _ b2,apE_H _ _ _ _ b1]
        cases hwi:ei.w with
        | none=>rfl
        | some p =>
          cases hwj:ej.w with
          | none=>rfl
          | some q =>
            have:=(hk1 p.1 (by simp [kw,hwi])).2
            simp only [kw,hwj,List.mem_singleton] at this
            exact hupd_comm (Ne.symm this)
      generalize apE si oi.dst ei (apE sj oj.dst ej σ)=X at e1 e2 e3 ⊢
      generalize apE sj oj.dst ej (apE si oi.dst ei σ)=Y at e1 e2 e3 ⊢
      cases X;cases Y;cases e1;cases e2;cases e3;rfl
  · have hi:=apE_calm (s:=si) (d:=oi.dst) hc
    rw [hi] at h22 h23 h24
    refine ⟨⟨⟨sl1,h22,h23⟩,h24⟩,⟨⟨sl2,fun p hp=>(by rw [hc.1] at hp;cases hp),fun hn=>(by rw [hc.2.2.1] at hn;cases hn)⟩,fun b hb=>(by rw [hc.2.2.2] at hb;cases hb)⟩,?_⟩
    rw [hi,hi,apE_put a2']
  · have hj:=apE_calm (s:=sj) (d:=oj.dst) hc
    refine ⟨⟨⟨sl1,fun p hp=>(by rw [hc.1] at hp;cases hp),fun hn=>(by rw [hc.2.2.1] at hn;cases hn)⟩,fun b hb=>(by rw [hc.2.2.2] at hb;cases hb)⟩,⟨⟨sl2,?_,?_⟩,?_⟩,?_⟩
    · rw [hj];exact h12
    · rw [hj];exact h13
    · rw [hj];exact h14
    · rw [hj,hj,apE_put a2]
  · obtain ⟨b,hb,w1,w2,w3,w4⟩:=hc
    have hj:=apE_still (s:=sj) (d:=oj.dst) w1 w2 w3
    obtain ⟨g1,g2⟩:=h14 b hb
    refine ⟨⟨⟨sl1,fun p hp=>(by rw [g1];exact (w4 p hp).1),fun hn=>(by rw [w2] at hn;cases hn)⟩,fun b' hb'=>(by rw [w3] at hb';cases hb')⟩,⟨⟨sl2,?_,?_⟩,?_⟩,?_⟩
    · rw [hj];exact h12
    · rw [hj];exact h13
    · rw [hj];exact h14
    · rw [hj,hj,apE_put a2]
  · obtain ⟨b,hb,w1,w2,w3,w4⟩:=hc
    have hi:=apE_still (s:=si) (d:=oi.dst) w1 w2 w3
    rw [hi] at h22 h23 h24
    have hjb:(apE sj oj.dst ej σ).H=b.H1:=by unfold apE;rw [hb];rfl
    refine ⟨⟨⟨sl1,h22,h23⟩,h24⟩,⟨⟨sl2,fun p hp=>(by rw [hjb];exact (w4 p hp).2),fun hn=>(by rw [w2] at hn;cases hn)⟩,fun b' hb'=>(by rw [w3] at hb';cases hb')⟩,?_⟩
    rw [hi,hi,apE_put a2']
theorem bubbleE {rid:Nat} {lo:Nat→LOp} {ev:Nat→Ev} {σe:St} {i:Nat} {post:List Nat}:∀ {pre:List Nat} {σ:St},RunE rid lo ev (pre++i::post) σ σe→(∀ j∈pre,j≠i∧cmpE (lo j) (ev j) (lo i) (ev i)) →
    rdyE (siteOf rid i) (lo i) (ev i) σ∧RunE rid lo ev (pre++post) (apE (siteOf rid i) (lo i).dst (ev i) σ) σe
  | [],σ,h,_=>h
  | j::pre,σ,h,hp=>by
    obtain ⟨h1,h2⟩:=h
    obtain ⟨hne,hi⟩:=hp j (List.mem_cons_self ..)
    obtain ⟨h3,h4⟩:=bubbleE h2 fun k hk=>hp k (List.mem_cons_of_mem _ hk)
    obtain ⟨h5,h6,h7⟩:=swapE (by simp only [siteOf];omega) hi h1 h3
    refine ⟨h5,h6,?_⟩
    rw [h7];exact h4
def depsChk (ops:Array Oper) (bs:List Nat):Bool :=
  (List.range ops.size).all fun i=>match ops[i]? with
    | some o=>(depsOf o).all (fun k=>decide (k<i)) && (List.range i).all fun j=>if (bs.getD i 0).testBit j then (depsOf o).any (fun k=>k == j || (decide (j<k) && (bs.getD k 0).testBit j)) else true
    | none=>false
section
variable {P:Program} {E:Env} {σe:St} {rid:Nat} {lo:Nat→LOp} {ops:Array Oper} {Q:Exit→Act→World→Prop}
theorem any_soundE [EOk P E] {ev:Nat→Ev} {bs:List Nat} (hlo:∀ i o,ops[i]? = some o→lo i=trO P ops o) (hall:ops.toList.all (opOk E.N ops)=true) (hchk:depsChk ops bs=true)
    (hev:∀ i,i<ops.size→EvOk P (siteOf rid i) (lo i) (ev i)) (hcmp:∀ i j,j<i→i<ops.size→(bs.getD i 0).testBit j=false→cmpE (lo j) (ev j) (lo i) (ev i)) (hQ:∀ a' w',Sim E σe a' w'→Q .normal a' w') :
    ∀ (fuel:Nat) (listed:Array Bool) (rem:List Nat) (σ:St) (a:Act) (w:World),rem.length=fuel→Inv ops bs listed rem→RunE rid lo ev rem σ σe→Sim E σ a w→wpAny P .any ops Q fuel listed a w:=by
  have chk:∀ (i:Nat) (o:Oper),ops[i]? = some o→(∀ k∈depsOf o,k<i)∧∀ j,j<i→(bs.getD i 0).testBit j=true→∃ k∈depsOf o,k=j∨j<k∧(bs.getD k 0).testBit j=true:=by
    intro i o ho
    have hlt:i<ops.size:=by
      rcases Nat.lt_or_ge i ops.size with h|h
      · exact h
      · rw [Array.getElem?_eq_none h] at ho;cases ho
    have:=List.all_eq_true.1 hchk i (List.mem_range.2 hlt)
    simp only [ho,Bool.and_eq_true] at this
    obtain ⟨c1,c2⟩:=this
    refine ⟨fun k hk=>by simpa using List.all_eq_true.1 c1 k hk,fun j hj hb=>?_⟩
    have c3:=List.all_eq_true.1 c2 j (List.mem_range.2 hj)
    rw [if_pos hb] at c3
    obtain ⟨k,hk,hk2⟩:=List.any_eq_true.1 c3
    refine ⟨k,hk,?_⟩
    simpa using hk2
  have empty:∀ (listed:Array Bool) (rem:List Nat),Inv ops bs listed rem→Region.ready .any ops listed=[]→rem=[]:=by
    intro listed rem hinv hr
    cases rem with
    | nil=>rfl
    | cons i r =>
      exfalso
      obtain ⟨h1,h2⟩:=(hinv.mem i).1 (List.mem_cons_self ..)
      have hmin:∀ b∈r,i<b:=fun b hb=>List.rel_of_pairwise_cons hinv.sorted hb
      have:i∈Region.ready .any ops listed:=ready_iff.2 ⟨h1,h2,ops[i],Array.getElem?_eq_getElem h1,fun k hk=>by
        have hki:=(chk i _ (Array.getElem?_eq_getElem h1)).1 k hk
        have hnm:k∉i::r:=by
          intro hm
          rcases List.mem_cons.1 hm with rfl|hm
          · omega
          · have:=hmin k hm;omega
        have hk':¬ (listed.getD k true=false):=fun h=>hnm ((hinv.mem k).2 ⟨by omega,h⟩)
        have hks:k<listed.size:=by rw [hinv.size];omega
        simp only [Array.getD_eq_getD_getElem?,Array.getElem?_eq_getElem hks,Option.getD_some] at hk' ⊢
        simpa using hk'⟩
      rw [hr] at this;cases this
  intro fuel
  induction fuel with
  | zero =>
    intro listed rem σ a w hlen hinv hrun hs
    have hrem:rem=[]:=List.eq_nil_of_length_eq_zero hlen
    subst hrem
    refine ⟨?_,by cases hrun;exact hQ _ _ hs⟩
    rw [List.eq_nil_iff_forall_not_mem]
    intro i hi
    obtain ⟨h1,h2,_⟩:=ready_iff.1 hi
    have:=(hinv.mem i).2 ⟨h1,h2⟩
    cases this
  | succ fuel ih =>
    intro listed rem σ a w hlen hinv hrun hs
    refine ⟨fun hr=>?_,fun i hi=>?_⟩
    · have:=empty listed rem hinv hr
      subst this
      cases hlen
    · obtain ⟨h1,h2,o,ho,hdeps⟩:=ready_iff.1 hi
      have him:=(hinv.mem i).2 ⟨h1,h2⟩
      obtain ⟨pre,post,rfl⟩:=List.append_of_mem him
      have hsorted:=hinv.sorted
      rw [List.pairwise_append] at hsorted
      obtain ⟨s1,s2,s3⟩:=hsorted
      obtain ⟨s4,s5⟩:=List.pairwise_cons.1 s2
      have hbit:∀ j,j<i→listed.getD j true=false→(bs.getD i 0).testBit j=false:=by
        intro j hj hl
        by_cases hb:(bs.getD i 0).testBit j=true
        · obtain ⟨k,hk,hk2⟩:=(chk i o ho).2 j hj hb
          have hki:=(chk i o ho).1 k hk
          have hkl:=hdeps k hk
          have hks:k<listed.size:=by rw [hinv.size];omega
          have hkl':listed.getD k true=true:=by
            simp only [Array.getD_eq_getD_getElem?,Array.getElem?_eq_getElem hks,Option.getD_some] at hkl ⊢
            exact hkl
          rcases hk2 with rfl|hk2
          · rw [hkl'] at hl;cases hl
          · have:=hinv.down k (by omega) hkl' j hk2.1 hk2.2
            rw [this] at hl;cases hl
        · simpa using hb
      obtain ⟨hrdy,hrest⟩:=bubbleE hrun (fun j hj=>by
        have hji:j<i:=s3 j hj i (List.mem_cons_self ..)
        have hjl:=((hinv.mem j).1 (List.mem_append_left _ hj)).2
        exact ⟨by omega,hcmp i j hji h1 (hbit j hji hjl)⟩)
      have hok:opOk E.N ops o=true:=List.all_eq_true.1 hall o (by
        rw [List.mem_iff_getElem?]
        exact ⟨i,by rw [Array.getElem?_toList];exact ho⟩)
      have hst:=hev i h1 σ hrdy (fun σ'=>σ' = apE (siteOf rid i) (lo i).dst (ev i) σ) rfl
      rw [hlo i o ho] at hst hrest
      refine wpOp_of_vstepC ho hok hs hst fun σ' a' w' hσ hs'=>ih _ (pre++post) _ a' w' ?_ ?_ hrest (hσ▸hs')
      · simp at hlen ⊢;omega
      · have hget:∀ k,(listed.setIfInBounds i true).getD k true=if k=i then true else listed.getD k true:=by
          intro k
          simp only [Array.getD_eq_getD_getElem?]
          by_cases e:k=i
          · subst e
            have:k<listed.size:=by rw [hinv.size];exact h1
            simp [this]
          · rw [if_neg e,Array.getElem?_setIfInBounds_ne (Ne.symm e)]
        refine ⟨by simpa using hinv.size,?_,fun k=>?_,fun k hk hl j hj hb=>?_⟩
        · rw [List.pairwise_append]
          exact ⟨s1,s5,fun x hx y hy=>s3 x hx y (List.mem_cons_of_mem _ hy)⟩
        · rw [hget]
          have hm:=hinv.mem k
          simp only [List.mem_append,List.mem_cons] at hm ⊢
          by_cases e:k=i
          · subst e
            rw [if_pos rfl]
            constructor
            · rintro (h|h)
              · have:=s3 k h k (List.mem_cons_self ..);omega
              · have:=s4 k h;omega
            · rintro ⟨_,h⟩;cases h
          · rw [if_neg e,← hm]
            constructor
            · rintro (h|h)
              · exact .inl h
              · exact .inr (.inr h)
            · rintro (h|h|h)
              · exact .inl h
              · exact absurd h e
              · exact .inr h
        · rw [hget] at hl ⊢
          by_cases e:k=i
          · subst e
            split
            · rfl
            · by_cases hjl:listed.getD j true=true
              · exact hjl
              · have:=hbit j hj (by simpa using hjl)
                rw [this] at hb;cases hb
          · rw [if_neg e] at hl
            split
            · rfl
            · exact hinv.down k hk hl j hj hb
end
def loAt (los:List LOp) (i:Nat):LOp:=los.getD i ⟨none,.bad,none⟩
def vregd (P:Program) (rid:Nat) (bs:List Nat) (los:List LOp) (K:St→Prop) (σ:St):Prop :=
  ∃ ev:Nat→Ev,(∀ i,i<los.length→EvOk P (siteOf rid i) (loAt los i) (ev i))∧(∀ i j,j<i→i<los.length→(bs.getD i 0).testBit j=false→cmpE (loAt los j) (ev j) (loAt los i) (ev i)) ∧
    ∃ σe,RunE rid (loAt los) ev (List.range los.length) σ σe∧K σe
theorem vregd_mono {P:Program} {rid:Nat} {bs:List Nat} {los:List LOp} {K K':St→Prop} {σ:St} (hk:∀ σ,K σ→K' σ) (h:vregd P rid bs los K σ):vregd P rid bs los K' σ:=by
  obtain ⟨ev,h1,h2,σe,h3,h4⟩:=h
  exact ⟨ev,h1,h2,σe,h3,hk _ h4⟩
end Go.Lg

namespace Go.Lg
open Go Go.RowKit
section
variable {P:Program} {E:Env} {σe:St} {rid:Nat} {lo:Nat→LOp} {ops:Array Oper} {Q:Exit→Act→World→Prop}
theorem chk_of {bs:List Nat} (hchk:depsChk ops bs=true):∀ (i:Nat) (o:Oper),ops[i]? = some o→(∀ k∈depsOf o,k<i)∧∀ j,j<i→(bs.getD i 0).testBit j=true→∃ k∈depsOf o,k=j∨j<k∧(bs.getD k 0).testBit j=true:=by
  intro i o ho
  have hlt:i<ops.size:=by
    rcases Nat.lt_or_ge i ops.size with h|h
    · exact h
    · rw [Array.getElem?_eq_none h] at ho;cases ho
  have:=List.all_eq_true.1 hchk i (List.mem_range.2 hlt)
  simp only [ho,Bool.and_eq_true] at this
  obtain ⟨c1,c2⟩:=this
  refine ⟨fun k hk=>by simpa using List.all_eq_true.1 c1 k hk,fun j hj hb=>?_⟩
  have c3:=List.all_eq_true.1 c2 j (List.mem_range.2 hj)
  rw [if_pos hb] at c3
  obtain ⟨k,hk,hk2⟩:=List.any_eq_true.1 c3
  refine ⟨k,hk,?_⟩
  simpa using hk2
theorem hbit_of {bs:List Nat} (hchk:depsChk ops bs=true) {listed:Array Bool} {rem:List Nat} (hinv:Inv ops bs listed rem) {i:Nat} {o:Oper} (ho:ops[i]? = some o) (h1:i<ops.size) (hdeps:∀ k∈depsOf o,listed.getD k false=true) :
    ∀ j,j<i→listed.getD j true=false→(bs.getD i 0).testBit j=false:=by
  intro j hj hl
  by_cases hb:(bs.getD i 0).testBit j=true
  · obtain ⟨k,hk,hk2⟩:=(chk_of hchk i o ho).2 j hj hb
    have hki:=(chk_of hchk i o ho).1 k hk
    have hkl:=hdeps k hk
    have hks:k<listed.size:=by rw [hinv.size];omega
    have hkl':listed.getD k true=true:=by
      simp only [Array.getD_eq_getD_getElem?,Array.getElem?_eq_getElem hks,Option.getD_some] at hkl ⊢
      exact hkl
    rcases hk2 with rfl|hk2
    · rw [hkl'] at hl;cases hl
    · have:=hinv.down k (by omega) hkl' j hk2.1 hk2.2
      rw [this] at hl;cases hl
  · simpa using hb
theorem inv_step {bs:List Nat} {listed:Array Bool} {pre post:List Nat} {i:Nat} (hinv:Inv ops bs listed (pre++i::post)) (h1:i<ops.size) (hbit:∀ j,j<i→listed.getD j true=false→(bs.getD i 0).testBit j=false) :
    Inv ops bs (listed.setIfInBounds i true) (pre++post):=by
  have hsorted:=hinv.sorted
  rw [List.pairwise_append] at hsorted
  obtain ⟨s1,s2,s3⟩:=hsorted
  obtain ⟨s4,s5⟩:=List.pairwise_cons.1 s2
  have hget:∀ k,(listed.setIfInBounds i true).getD k true=if k=i then true else listed.getD k true:=by
    intro k
    simp only [Array.getD_eq_getD_getElem?]
    by_cases e:k=i
    · subst e
      have:k<listed.size:=by rw [hinv.size];exact h1
      simp [this]
    · rw [if_neg e,Array.getElem?_setIfInBounds_ne (Ne.symm e)]
  refine ⟨by simpa using hinv.size,?_,fun k=>?_,fun k hk hl j hj hb=>?_⟩
  · rw [List.pairwise_append]
    exact ⟨s1,s5,fun x hx y hy=>s3 x hx y (List.mem_cons_of_mem _ hy)⟩
  · rw [hget]
    have hm:=hinv.mem k
    simp only [List.mem_append,List.mem_cons] at hm ⊢
    by_cases e:k=i
    · subst e
      rw [if_pos rfl]
      constructor
      · rintro (h|h)
        · have:=s3 k h k (List.mem_cons_self ..);omega
        · have:=s4 k h;omega
      · rintro ⟨_,h⟩;cases h
    · rw [if_neg e,← hm]
      constructor
      · rintro (h|h)
        · exact .inl h
        · exact .inr (.inr h)
      · rintro (h|h|h)
        · exact .inl h
        · exact absurd h e
        · exact .inr h
  · rw [hget] at hl ⊢
    by_cases e:k=i
    · subst e
      split
      · rfl
      · by_cases hjl:listed.getD j true=true
        · exact hjl
        · have:=hbit j hj (by simpa using hjl)
          rw [this] at hb;cases hb
    · rw [if_neg e] at hl
      split
      · rfl
      · exact hinv.down k hk hl j hj hb
theorem ready_nil {bs:List Nat} (hchk:depsChk ops bs=true) {listed:Array Bool} {rem:List Nat} (hinv:Inv ops bs listed rem) (hr:Region.ready .any ops listed=[]):rem=[]:=by
  cases rem with
  | nil=>rfl
  | cons i r =>
    exfalso
    obtain ⟨h1,h2⟩:=(hinv.mem i).1 (List.mem_cons_self ..)
    have hmin:∀ b∈r,i<b:=fun b hb=>List.rel_of_pairwise_cons hinv.sorted hb
    have:i∈Region.ready .any ops listed:=ready_iff.2 ⟨h1,h2,ops[i],Array.getElem?_eq_getElem h1,fun k hk=>by
      have hki:=(chk_of hchk i _ (Array.getElem?_eq_getElem h1)).1 k hk
      have hnm:k∉i::r:=by
        intro hm
        rcases List.mem_cons.1 hm with rfl|hm
        · omega
        · have:=hmin k hm;omega
      have hk':¬ (listed.getD k true=false):=fun h=>hnm ((hinv.mem k).2 ⟨by omega,h⟩)
      have hks:k<listed.size:=by rw [hinv.size];omega
      simp only [Array.getD_eq_getD_getElem?,Array.getElem?_eq_getElem hks,Option.getD_some] at hk' ⊢
      simpa using hk'⟩
    rw [hr] at this;cases this
theorem any_soundS [EOk P E] {los:List LOp} {bs:List Nat} {n:Nat} {K:St→Prop} (hlos:los=ops.toList.map (trO P ops)) (hlo:∀ i x,los[i]? = some x→lo i=x) (hall:ops.toList.all (opOk E.N ops)=true) (hdr:drawOk ops los bs=true) (hchk:depsChk ops bs=true)
    (hsz:ops.size=n+1) (hlast:∀ j,j<n→(bs.getD n 0).testBit j=true)
    (hst:vstepM P (siteOf rid n) (lo n) K σe) (hQ:∀ σ' a' w',K σ'→Sim E σ' a' w'→Q .normal a' w') :
    ∀ (fuel:Nat) (listed:Array Bool) (rem:List Nat) (σ:St) (a:Act) (w:World),rem.length=fuel→Inv ops bs listed (rem++[n])→Run P rid lo rem σ σe→Sim E σ a w→wpAny P .any ops Q (fuel+1) listed a w:=by
  have los_get:∀ (i:Nat) (o:Oper),ops[i]? = some o→los[i]? = some (trO P ops o):=by
    intro i o ho
    rw [hlos,List.getElem?_map,Array.getElem?_toList,ho];rfl
  have chk:∀ (i:Nat) (o:Oper),ops[i]? = some o→conOk (trO P ops o).op=true∧∀ j,j<i→∃ x,los[j]? = some x∧((bs.getD i 0).testBit j=false→indep x (trO P ops o)=true):=by
    intro i o ho
    have hlt:i<ops.size:=by
      rcases Nat.lt_or_ge i ops.size with h|h
      · exact h
      · rw [Array.getElem?_eq_none h] at ho;cases ho
    have:=List.all_eq_true.1 hdr i (List.mem_range.2 hlt)
    simp only [ho,los_get i o ho,Bool.and_eq_true] at this
    obtain ⟨⟨c1,c0⟩,c2⟩:=this
    refine ⟨c0,fun j hj=>?_⟩
    have c3:=List.all_eq_true.1 c2 j (List.mem_range.2 hj)
    cases hx:los[j]? with
    | none=>simp [hx] at c3
    | some x =>
      simp only [hx] at c3
      refine ⟨x,rfl,fun hb=>?_⟩
      rw [hb] at c3
      exact c3
  have opk:∀ i o,ops[i]? = some o→opOk E.N ops o=true:=fun i o ho=>List.all_eq_true.1 hall o (by
    rw [List.mem_iff_getElem?]
    exact ⟨i,by rw [Array.getElem?_toList];exact ho⟩)
  intro fuel
  induction fuel with
  | zero =>
    intro listed rem σ a w hlen hinv hrun hs
    have hrem:rem=[]:=List.eq_nil_of_length_eq_zero hlen
    subst hrem
    refine ⟨fun hr=>?_,fun i hi=>?_⟩
    · have:=ready_nil hchk hinv hr
      cases this
    · obtain ⟨h1,h2,o,ho,hdeps⟩:=ready_iff.1 hi
      have him:=(hinv.mem i).2 ⟨h1,h2⟩
      obtain rfl:i=n:=by simpa using him
      cases hrun
      have hst':=hst
      rw [hlo i _ (los_get i o ho)] at hst'
      refine wpOp_of_vstepM ho (opk i o ho) hs hst' fun σ' a' w' hσ hs'=>⟨?_,hQ σ' a' w' hσ hs'⟩
      have hinv':=inv_step (pre:=[]) (post:=[]) hinv h1 (hbit_of hchk hinv ho h1 hdeps)
      rw [List.eq_nil_iff_forall_not_mem]
      intro j hj
      obtain ⟨j1,j2,_⟩:=ready_iff.1 hj
      have:=(hinv'.mem j).2 ⟨j1,j2⟩
      cases this
  | succ fuel ih =>
    intro listed rem σ a w hlen hinv hrun hs
    refine ⟨fun hr=>?_,fun i hi=>?_⟩
    · have:=ready_nil hchk hinv hr
      simp at this
    · obtain ⟨h1,h2,o,ho,hdeps⟩:=ready_iff.1 hi
      have him:=(hinv.mem i).2 ⟨h1,h2⟩
      have hbit:=hbit_of hchk hinv ho h1 hdeps
      have hrn:∀ j∈rem,j<n:=by
        have:=hinv.sorted
        rw [List.pairwise_append] at this
        exact fun j hj=>this.2.2 j hj n (List.mem_singleton.2 rfl)
      rcases List.mem_append.1 him with him|him
      · obtain ⟨pre,post,rfl⟩:=List.append_of_mem him
        have hinv2:Inv ops bs listed (pre++i::(post++[n])):=by simpa [List.append_assoc] using hinv
        have hsorted:=hinv2.sorted
        rw [List.pairwise_append] at hsorted
        obtain ⟨s1,s2,s3⟩:=hsorted
        obtain ⟨σ1,hstp,hrest⟩:=bubble hs.wf (hs.md (by rw [hlo i _ (los_get i o ho)];exact (chk i o ho).1)) hrun (fun j hj=>by
          have hji:j<i:=s3 j hj i (List.mem_cons_self ..)
          have hjl:=((hinv2.mem j).1 (List.mem_append_left _ hj)).2
          obtain ⟨x,hx,hind⟩:=(chk i o ho).2 j hji
          refine ⟨by omega,?_⟩
          rw [hlo j x hx,hlo i _ (los_get i o ho)]
          exact hind (hbit j hji hjl))
        rw [hlo i _ (los_get i o ho)] at hstp
        refine wpOp_of_step ho (opk i o ho) hs hstp fun a' w' hs'=>ih _ (pre++post) σ1 a' w' ?_ ?_ hrest hs'
        · simp at hlen ⊢;omega
        · have:=inv_step hinv2 h1 hbit
          simpa [List.append_assoc] using this
      · exfalso
        obtain rfl:i=n:=List.mem_singleton.1 him
        cases rem with
        | nil=>cases hlen
        | cons j r =>
          have hj:=hrn j (List.mem_cons_self ..)
          have hjl:=((hinv.mem j).1 (List.mem_append_left _ (List.mem_cons_self ..))).2
          have:=hbit j hj hjl
          rw [hlast j hj] at this;cases this
def Ser (P:Program) (rid:Nat) (lo:Nat→LOp) (K:St→Prop):Nat→Nat→St→Prop
  | 0,_,σ=>K σ
  | m+1,i,σ=>vstepM P (siteOf rid i) (lo i) (Ser P rid lo K m (i+1)) σ
theorem any_tail [EOk P E] {bs:List Nat} {K:St→Prop} (hlo:∀ i o,ops[i]? = some o→lo i=trO P ops o) (hall:ops.toList.all (opOk E.N ops)=true) (hchk:depsChk ops bs=true)
    (hQ:∀ σ' a' w',K σ'→Sim E σ' a' w'→Q .normal a' w') :
    ∀ (m i:Nat) (listed:Array Bool) (σ:St) (a:Act) (w:World),(∀ t,i≤t→t<i+m→∀ j,j<t→(bs.getD t 0).testBit j=true)→Inv ops bs listed (List.range' i m)→Ser P rid lo K m i σ→Sim E σ a w→wpAny P .any ops Q m listed a w:=by
  have opk:∀ i o,ops[i]? = some o→opOk E.N ops o=true:=fun i o ho=>List.all_eq_true.1 hall o (by
    rw [List.mem_iff_getElem?]
    exact ⟨i,by rw [Array.getElem?_toList];exact ho⟩)
  intro m
  induction m with
  | zero =>
    intro i listed σ a w _ hinv h hs
    refine ⟨?_,hQ σ a w h hs⟩
    rw [List.eq_nil_iff_forall_not_mem]
    intro j hj
    obtain ⟨j1,j2,_⟩:=ready_iff.1 hj
    have:=(hinv.mem j).2 ⟨j1,j2⟩
    cases this
  | succ m ih =>
    intro i listed σ a w htl hinv h hs
    refine ⟨fun hr=>?_,fun t ht=>?_⟩
    · have:=ready_nil hchk hinv hr
      simp at this
    · obtain ⟨h1,h2,o,ho,hdeps⟩:=ready_iff.1 ht
      have him:=(hinv.mem t).2 ⟨h1,h2⟩
      have hbit:=hbit_of hchk hinv ho h1 hdeps
      obtain ⟨hi1,hi2⟩:=List.mem_range'_1.1 him
      obtain rfl:t=i:=by
        rcases Nat.lt_or_ge i t with h3|h3
        · exfalso
          have hl:=((hinv.mem i).1 (List.mem_range'_1.2 ⟨Nat.le_refl _,by omega⟩)).2
          have:=hbit i h3 hl
          rw [htl t (by omega) (by omega) i h3] at this;cases this
        · omega
      have h':vstepM P (siteOf rid t) (lo t) (Ser P rid lo K m (t+1)) σ:=h
      rw [hlo t _ ho] at h'
      refine wpOp_of_vstepM ho (opk t o ho) hs h' fun σ' a' w' hσ hs'=>ih (t+1) _ σ' a' w' (fun u hu1 hu2=>htl u (by omega) (by omega)) ?_ hσ hs'
      have:=inv_step (pre:=[]) (post:=List.range' (t+1) m) (by simpa [List.range'_succ] using hinv) h1 hbit
      simpa using this
theorem any_soundT [EOk P E] {los:List LOp} {bs:List Nat} {n m:Nat} {K:St→Prop} (hlos:los=ops.toList.map (trO P ops)) (hlo:∀ i x,los[i]? = some x→lo i=x) (hall:ops.toList.all (opOk E.N ops)=true) (hdr:drawOk ops los bs=true) (hchk:depsChk ops bs=true)
    (hsz:ops.size=n+m) (htl:∀ t,n≤t→t<n+m→∀ j,j<t→(bs.getD t 0).testBit j=true)
    (hst:Ser P rid lo K m n σe) (hQ:∀ σ' a' w',K σ'→Sim E σ' a' w'→Q .normal a' w') :
    ∀ (fuel:Nat) (listed:Array Bool) (rem:List Nat) (σ:St) (a:Act) (w:World),rem.length=fuel→(∀ j∈rem,j<n)→Inv ops bs listed (rem++List.range' n m)→Run P rid lo rem σ σe→Sim E σ a w→wpAny P .any ops Q (fuel+m) listed a w:=by
  have los_get:∀ (i:Nat) (o:Oper),ops[i]? = some o→los[i]? = some (trO P ops o):=by
    intro i o ho
    rw [hlos,List.getElem?_map,Array.getElem?_toList,ho];rfl
  have chk:∀ (i:Nat) (o:Oper),ops[i]? = some o→conOk (trO P ops o).op=true∧∀ j,j<i→∃ x,los[j]? = some x∧((bs.getD i 0).testBit j=false→indep x (trO P ops o)=true):=by
    intro i o ho
    have hlt:i<ops.size:=by
      rcases Nat.lt_or_ge i ops.size with h|h
      · exact h
      · rw [Array.getElem?_eq_none h] at ho;cases ho
    have:=List.all_eq_true.1 hdr i (List.mem_range.2 hlt)
    simp only [ho,los_get i o ho,Bool.and_eq_true] at this
    obtain ⟨⟨c1,c0⟩,c2⟩:=this
    refine ⟨c0,fun j hj=>?_⟩
    have c3:=List.all_eq_true.1 c2 j (List.mem_range.2 hj)
    cases hx:los[j]? with
    | none=>simp [hx] at c3
    | some x =>
      simp only [hx] at c3
      refine ⟨x,rfl,fun hb=>?_⟩
      rw [hb] at c3
      exact c3
  have opk:∀ i o,ops[i]? = some o→opOk E.N ops o=true:=fun i o ho=>List.all_eq_true.1 hall o (by
    rw [List.mem_iff_getElem?]
    exact ⟨i,by rw [Array.getElem?_toList];exact ho⟩)
  intro fuel
  induction fuel with
  | zero =>
    intro listed rem σ a w hlen hrn hinv hrun hs
    have hrem:rem=[]:=List.eq_nil_of_length_eq_zero hlen
    subst hrem
    cases hrun
    rw [Nat.zero_add]
    exact any_tail (fun i o ho=>hlo i _ (los_get i o ho)) hall hchk hQ m n listed _ a w htl (by simpa using hinv) hst hs
  | succ fuel ih =>
    intro listed rem σ a w hlen hrn hinv hrun hs
    rw [show fuel+1+m=(fuel+m)+1 by omega]
    refine ⟨fun hr=>?_,fun i hi=>?_⟩
    · have:=ready_nil hchk hinv hr
      cases rem with
      | nil=>cases hlen
      | cons _ _=>cases this
    · obtain ⟨h1,h2,o,ho,hdeps⟩:=ready_iff.1 hi
      have him:=(hinv.mem i).2 ⟨h1,h2⟩
      have hbit:=hbit_of hchk hinv ho h1 hdeps
      rcases List.mem_append.1 him with him|him
      · obtain ⟨pre,post,rfl⟩:=List.append_of_mem him
        have hinv2:Inv ops bs listed (pre++i::(post++List.range' n m)):=by simpa [List.append_assoc] using hinv
        have hsorted:=hinv2.sorted
        rw [List.pairwise_append] at hsorted
        obtain ⟨s1,s2,s3⟩:=hsorted
        obtain ⟨σ1,hstp,hrest⟩:=bubble hs.wf (hs.md (by rw [hlo i _ (los_get i o ho)];exact (chk i o ho).1)) hrun (fun j hj=>by
          have hji:j<i:=s3 j hj i (List.mem_cons_self ..)
          have hjl:=((hinv2.mem j).1 (List.mem_append_left _ hj)).2
          obtain ⟨x,hx,hind⟩:=(chk i o ho).2 j hji
          refine ⟨by omega,?_⟩
          rw [hlo j x hx,hlo i _ (los_get i o ho)]
          exact hind (hbit j hji hjl))
        rw [hlo i _ (los_get i o ho)] at hstp
        refine wpOp_of_step ho (opk i o ho) hs hstp fun a' w' hs'=>ih _ (pre++post) σ1 a' w' ?_ ?_ ?_ hrest hs'
        · simp at hlen ⊢;omega
        · intro j hj
          refine hrn j ?_
          rcases List.mem_append.1 hj with h|h
          · exact List.mem_append_left _ h
          · exact List.mem_append_right _ (List.mem_cons_of_mem _ h)
        · have:=inv_step hinv2 h1 hbit
          simpa [List.append_assoc] using this
      · exfalso
        obtain ⟨hi1,hi2⟩:=List.mem_range'_1.1 him
        cases rem with
        | nil=>cases hlen
        | cons j r =>
          have hj:=hrn j (List.mem_cons_self ..)
          have hjl:=((hinv.mem j).1 (List.mem_append_left _ (List.mem_cons_self ..))).2
          have:=hbit j (by omega) hjl
          rw [htl i hi1 hi2 j (by omega)] at this;cases this
inductive OT where
  | leaf
  | none
  | alt (i:Nat) (x y:OT)
def vT (P:Program) (rid:Nat) (los:List LOp) (K:St→Prop):OT→St→Prop
  | .leaf,σ=>K σ
  | .none,_=>True
  | .alt i x y,σ=>vstepM P (siteOf rid i) (loAt los i) (vT P rid los K x) σ∧vT P rid los K y σ
def tOk (bs:List Nat) (n:Nat):OT→List Nat→List Nat→Bool
  | .leaf,done,cov=>cov.isEmpty && (List.range n).all fun i=>done.contains i
  | .none,done,cov=>!cov.isEmpty && (List.range n).all fun i=>done.contains i || (cov.contains i || !((List.range i).all fun j=>!(bs.getD i 0).testBit j || done.contains j))
  | .alt i x y,done,cov=>decide (i<n) && (!done.contains i && (tOk bs n x (i::done) [] && tOk bs n y done (i::cov)))
theorem tree_alts [EOk P E] {los:List LOp} {bs:List Nat} {K:St→Prop} (hlos:los=ops.toList.map (trO P ops)) (hall:ops.toList.all (opOk E.N ops)=true) (hchk:depsChk ops bs=true)
    (hQ:∀ σ' a' w',K σ'→Sim E σ' a' w'→Q .normal a' w') :
    ∀ (t:OT) (done cov:List Nat) (listed:Array Bool) (rem:List Nat) (σ:St) (a:Act) (w:World),tOk bs ops.size t done cov=true→Inv ops bs listed rem→(∀ i,i∈rem↔i<ops.size∧i∉done)→vT P rid los K t σ→Sim E σ a w →
      (∀ i,i∈Region.ready .any ops listed→i∉cov→wpOp P ops Q i (fun a' w'=>wpAny P .any ops Q (rem.length - 1) (listed.setIfInBounds i true) a' w') a w)∧(cov=[]→wpAny P .any ops Q rem.length listed a w):=by
  have opk:∀ i o,ops[i]? = some o→opOk E.N ops o=true:=fun i o ho=>List.all_eq_true.1 hall o (by
    rw [List.mem_iff_getElem?]
    exact ⟨i,by rw [Array.getElem?_toList];exact ho⟩)
  have lo_get:∀ (i:Nat) (o:Oper),ops[i]? = some o→loAt los i=trO P ops o:=by
    intro i o ho
    have:los[i]? = some (trO P ops o):=by rw [hlos,List.getElem?_map,Array.getElem?_toList,ho];rfl
    simp [loAt,List.getD_eq_getElem?_getD,this]
  have sorted_erase:∀ {rem:List Nat} {i:Nat},rem.Pairwise (· < ·)→i∈rem→∃ pre post,rem=pre++i::post:=fun _ h=>List.append_of_mem h
  intro t
  induction t with
  | leaf =>
    intro done cov listed rem σ a w ht hinv hrem hv hs
    simp only [tOk,Bool.and_eq_true,List.all_eq_true,List.mem_range,List.isEmpty_iff] at ht
    have hnil:rem=[]:=by
      rw [List.eq_nil_iff_forall_not_mem]
      intro i hi
      obtain ⟨h1,h2⟩:=(hrem i).1 hi
      exact h2 (by simpa using ht.2 i h1)
    subst hnil
    have hno:∀ i,¬ i∈Region.ready .any ops listed:=by
      intro i hi
      obtain ⟨h1,h2,_⟩:=ready_iff.1 hi
      have:=(hinv.mem i).2 ⟨h1,h2⟩
      cases this
    refine ⟨fun i hi=>(hno i hi).elim,fun _=>⟨List.eq_nil_iff_forall_not_mem.2 hno,hQ σ a w hv hs⟩⟩
  | none =>
    intro done cov listed rem σ a w ht hinv hrem hv hs
    simp only [tOk,Bool.and_eq_true,List.all_eq_true,List.mem_range,Bool.not_eq_true',List.isEmpty_eq_false_iff] at ht
    refine ⟨fun i hi hc=>?_,fun h=>(ht.1 h).elim⟩
    exfalso
    obtain ⟨h1,h2,o,ho,hdeps⟩:=ready_iff.1 hi
    have hm:=(hrem i).1 ((hinv.mem i).2 ⟨h1,h2⟩)
    have hbit:=hbit_of hchk hinv ho h1 hdeps
    have:=ht.2 i h1
    rw [Bool.or_eq_true,Bool.or_eq_true] at this
    rcases this with h|h|h
    · exact hm.2 (by simpa using h)
    · exact hc (by simpa using h)
    · have hx:((List.range i).all fun j=>!(bs.getD i 0).testBit j || done.contains j)=true:=by
        rw [List.all_eq_true]
        intro j hj
        have hji:=List.mem_range.1 hj
        cases hb:(bs.getD i 0).testBit j with
        | false=>rfl
        | true =>
          have hjr:j∉rem:=by
            intro hjm
            have:=hbit j hji ((hinv.mem j).1 hjm).2
            rw [hb] at this;cases this
          have:j∈done:=by
            rcases Classical.em (j∈done) with h|h
            · exact h
            · exact absurd ((hrem j).2 ⟨by omega,h⟩) hjr
          simp [this]
      rw [hx] at h;cases h
  | alt i x y ihx ihy =>
    intro done cov listed rem σ a w ht hinv hrem hv hs
    simp only [tOk,Bool.and_eq_true,decide_eq_true_eq,Bool.not_eq_true'] at ht
    obtain ⟨h1,h2,h3,h4⟩:=ht
    have h2:i∉done:=by simpa using h2
    obtain ⟨v1,v2⟩:=hv
    obtain ⟨alts,_⟩:=ihy done (i::cov) listed rem σ a w h4 hinv hrem v2 hs
    have main:∀ k,k∈Region.ready .any ops listed→k∉cov→wpOp P ops Q k (fun a' w'=>wpAny P .any ops Q (rem.length - 1) (listed.setIfInBounds k true) a' w') a w:=by
      intro k hk hc
      by_cases e:k=i
      · subst e
        obtain ⟨g1,g2,o,ho,hdeps⟩:=ready_iff.1 hk
        have hm:=(hinv.mem k).2 ⟨g1,g2⟩
        have hbit:=hbit_of hchk hinv ho g1 hdeps
        rw [lo_get k o ho] at v1
        obtain ⟨pre,post,rfl⟩:=List.append_of_mem hm
        refine wpOp_of_vstepM ho (opk k o ho) hs v1 fun σ' a' w' hσ hs'=>?_
        have hinv':=inv_step hinv g1 hbit
        have:=(ihx (k::done) [] (listed.setIfInBounds k true) (pre++post) σ' a' w' h3 hinv' (fun j=>?_) hσ hs').2 rfl
        · have hl:(pre++k::post).length - 1=(pre++post).length:=by simp
          rw [hl];exact this
        · have hs1:=hinv.sorted
          rw [List.pairwise_append] at hs1
          obtain ⟨s1,s2,s3⟩:=hs1
          obtain ⟨s4,s5⟩:=List.pairwise_cons.1 s2
          have hj:=hrem j
          simp only [List.mem_append,List.mem_cons] at hj ⊢
          constructor
          · intro h
            have hne:j≠k:=by
              rintro rfl
              rcases h with h|h
              · have:=s3 j h j (List.mem_cons_self ..);omega
              · have:=s4 j h;omega
            have:=hj.1 (by rcases h with h|h<;>simp [h])
            exact ⟨this.1,fun h=>h.elim hne this.2⟩
          · rintro ⟨g3,g4⟩
            have:=hj.2 ⟨g3,fun h=>g4 (.inr h)⟩
            rcases this with h|h|h
            · exact .inl h
            · exact (g4 (.inl h)).elim
            · exact .inr h
      · exact alts k hk (fun h=>(List.mem_cons.1 h).elim e hc)
    refine ⟨main,fun hc=>?_⟩
    subst hc
    have hne:rem≠[]:=by
      intro h
      have:=(hrem i).2 ⟨h1,h2⟩
      rw [h] at this;cases this
    obtain ⟨m,hm⟩:∃ m,rem.length=m+1:=⟨rem.length - 1,by have:=List.length_pos_iff.2 hne;omega⟩
    rw [hm]
    refine ⟨fun hr=>?_,fun k hk=>?_⟩
    · exact (hne (ready_nil hchk hinv hr)).elim
    · have:=main k hk (List.not_mem_nil)
      rw [hm] at this
      exact this
end
end Go.Lg

namespace Go.Lg
open Go Go.RowKit
inductive LC where
  | skip
  | reg (rid:Nat) (ops:List LOp)
  | rego (rid:Nat) (ops:List LOp)
  | seq (x y:LC)
  | cond (c:Rd) (x y:LC)
  | block (id:Nat) (x:LC)
  | loop (x:LC)
  | exit (id:Nat)
  | ret
  | bad
  | keep (ls:List Nat) (x:LC)
  | join (x y:LC)
  | regb (rid:Nat) (ops:List (Bool × LOp))
  | regc (rid:Nat) (ops:List (Nat × LOp))
  | regd (rid:Nat) (bs:List Nat) (ops:List LOp)
  | regf (rid:Nat) (bs:List Nat) (ops:List LOp)
  | rege (rid:Nat) (bs:List Nat) (ops:List LOp)
  | regg (rid:Nat) (bs:List Nat) (ops:List LOp)
  | regh (k rid:Nat) (bs:List Nat) (ops:List LOp)
  | regv (t:OT) (rid:Nat) (bs:List Nat) (ops:List LOp)
def LC.erase:LC→LC
  | .seq x y=>.seq x.erase y.erase
  | .join x y=>.seq x.erase y.erase
  | .cond c x y=>.cond c x.erase y.erase
  | .block id x=>.block id x.erase
  | .loop x=>.loop x.erase
  | .keep _ x=>x.erase
  | .regb rid ops=>.rego rid (ops.map (·.2))
  | .regc rid ops=>.rego rid (ops.map (·.2))
  | .rege rid bs ops=>.regf rid bs ops
  | .regg rid bs ops=>.regf rid bs ops
  | .regh _ rid bs ops=>.regf rid bs ops
  | .regv _ rid bs ops=>.regf rid bs ops
  | c=>c
def tmk:List (Nat × V)→Nat→V
  | [],_=>.junk
  | (d,v)::r,t=>if t=d then v else tmk r t
def keepL (tm:Nat→V):List Nat→List (Nat × V)
  | []=>[]
  | d::r=>(d,tm d)::keepL tm r
def St.keep (σ:St) (ls:List Nat):St:=⟨tmk (keepL σ.tm ls),σ.H,σ.cnt⟩
theorem keep_le (σ:St) (ls:List Nat):St.le (σ.keep ls) σ:=⟨fun t=>by
  simp only [St.keep]
  induction ls with
  | nil=>exact .inr rfl
  | cons d r ih =>
    simp only [keepL,tmk]
    split
    · rename_i e;subst e;exact .inl rfl
    · exact ih,fun _ _ h=>h,fun _=>Nat.le_refl _⟩
def hasCall (os:List LOp):Bool:=os.any fun o=>match o.op with
  | .call .. | .callv ..=>true
  | .bsl n _ _=>!(n == 0)
  | _=>false
def trC (P:Program):Code→LC
  | .skip=>.skip
  | .region rid ops draw=>if draw then (if drawOk ops (ops.toList.map (trO P ops)) (befs ops.toList) then (if hasCall (ops.toList.map (trO P ops)) then .regf rid (befs ops.toList) (ops.toList.map (trO P ops)) else .reg rid (ops.toList.map (trO P ops))) else .regd rid (befs ops.toList) (ops.toList.map (trO P ops))) else .rego rid (ops.toList.map (trO P ops))
  | .seq x y=>.seq (trC P x) (trC P y)
  | .cond c x y=>.cond (rdOf c) (trC P x) (trC P y)
  | .block id x=>.block id (trC P x)
  | .loop x=>.loop (trC P x)
  | .exit id=>.exit id
  | .ret=>.ret
  | _=>.bad
def codeOk (P:Program) (N:Nat):Code→LC→Bool
  | .region _ ops draw,.reg _ los=>ops.toList.all (opOk N ops) && (draw && (P.follows .mixedOrders && drawOk ops los (befs ops.toList)))
  | .region _ ops draw,.rego _ _=>ops.toList.all (opOk N ops) && !draw
  | .region _ ops draw,.regf _ _ los=>ops.toList.all (opOk N ops) && (draw && (P.follows .mixedOrders && (drawOk ops los (befs ops.toList) && depsChk ops (befs ops.toList))))
  | .region _ ops draw,.regd _ _ _=>ops.toList.all (opOk N ops) && (draw && (P.follows .mixedOrders && depsChk ops (befs ops.toList)))
  | .seq x y,.seq x' y'=>codeOk P N x x' && codeOk P N y y'
  | .cond _ x y,.cond _ x' y'=>codeOk P N x x' && codeOk P N y y'
  | .block _ x,.block _ x'=>codeOk P N x x'
  | .loop x,.loop x'=>codeOk P N x x'
  | .skip,.skip | .exit _,.exit _ | .ret,.ret=>true
  | _,_=>false
def vops (P:Program) (rid:Nat):List LOp→Nat→(St→Prop)→St→Prop
  | [],_,K,σ=>K σ
  | o::os,i,K,σ=>vstep P (siteOf rid i) o (vops P rid os (i+1) K) σ
def vopsM (P:Program) (rid:Nat):List LOp→Nat→(St→Prop)→St→Prop
  | [],_,K,σ=>K σ
  | o::os,i,K,σ=>vstepM P (siteOf rid i) o (vopsM P rid os (i+1) K) σ
def vopsB (P:Program) (rid:Nat):List (Bool × LOp)→Nat→(St→Prop)→St→Prop
  | [],_,K,σ=>K σ
  | (false,o)::os,i,K,σ=>vstepM P (siteOf rid i) o (vopsB P rid os (i+1) K) σ
  | (true,o)::os,i,K,σ=>vstepL P (siteOf rid i) o (vopsB P rid os (i+1) K) σ
def vopsC (P:Program) (rid:Nat):List (Nat × LOp)→Nat→(St→Prop)→St→Prop
  | [],_,K,σ=>K σ
  | (0,o)::os,i,K,σ=>vstepM P (siteOf rid i) o (vopsC P rid os (i+1) K) σ
  | (1,o)::os,i,K,σ=>vstepL P (siteOf rid i) o (vopsC P rid os (i+1) K) σ
  | (_+2,o)::os,i,K,σ=>vstepC P (siteOf rid i) o (vopsC P rid os (i+1) K) σ
def vopsL (P:Program) (rid:Nat):List LOp→Nat→(St→Prop)→St→Prop
  | [],_,_,_=>False
  | [o],i,K,σ=>vstepM P (siteOf rid i) o K σ
  | o::o' :: os,i,K,σ=>vstep P (siteOf rid i) o (vopsL P rid (o' :: os) (i+1) K) σ
def vopsH (P:Program) (rid:Nat):Nat→List LOp→Nat→(St→Prop)→St→Prop
  | 0,os,i,K,σ=>vopsM P rid os i K σ
  | _+1,[],_,_,_=>False
  | k+1,o::os,i,K,σ=>vstep P (siteOf rid i) o (vopsH P rid k os (i+1) K) σ
def tailB (bs:List Nat) (k n:Nat):Bool:=(List.range n).all fun i=>decide (i<k) || (List.range i).all fun j=>(bs.getD i 0).testBit j
def lastB (bs:List Nat) (n:Nat):Bool:=(List.range (n - 1)).all fun j=>(bs.getD (n - 1) 0).testBit j
def thenQ (K:St→Prop) (Q:Exit→St→Prop):Exit→St→Prop
  | .normal,σ=>K σ
  | e,σ=>Q e σ
def blockQ (id:Nat) (Q:Exit→St→Prop):Exit→St→Prop
  | .exit i,σ=>if i=id then Q .normal σ else Q (.exit i) σ
  | e,σ=>Q e σ
def condV (v:V) (X Y:St→Prop) (σ:St):Prop:=match v with
  | .bool true=>X σ
  | .bool false=>Y σ
  | _=>False
theorem condV_of {b:Bool} {X Y:St→Prop} {σ:St} (h1:b=true→X σ) (h2:b=false→Y σ):condV (.bool b) X Y σ:=by
  cases b
  · exact h2 rfl
  · exact h1 rfl
def loopV (body:(Exit→St→Prop)→St→Prop) (Q:Exit→St→Prop) (σ:St):Prop :=
  ∃ I:Nat→St→Prop,(∃ n σ0,Ent σ σ0∧I n σ0)∧∀ n σ1,I n σ1→body (thenQ (fun σ2=>∃ m σ3,m<n∧Ent σ2 σ3∧I m σ3) Q) σ1
def vcg (P:Program):LC→(Exit→St→Prop)→St→Prop
  | .skip,Q,σ=>Q .normal σ
  | .reg rid ops,Q,σ=>vops P rid ops 0 (Q .normal) σ
  | .rego rid ops,Q,σ=>vopsM P rid ops 0 (Q .normal) σ
  | .seq x y,Q,σ=>vcg P x (thenQ (vcg P y Q) Q) σ
  | .cond c x y,Q,σ=>condV (c.get σ.tm) (vcg P x Q) (vcg P y Q) σ
  | .block id x,Q,σ=>vcg P x (blockQ id Q) σ
  | .loop x,Q,σ=>loopV (vcg P x) Q σ
  | .exit id,Q,σ=>Q (.exit id) σ
  | .ret,Q,σ=>Q .ret σ
  | .bad,_,_=>False
  | .keep ls x,Q,σ=>vcg P x Q (σ.keep ls)
  | .regb rid ops,Q,σ=>vopsB P rid ops 0 (Q .normal) σ
  | .regc rid ops,Q,σ=>vopsC P rid ops 0 (Q .normal) σ
  | .regd rid bs ops,Q,σ=>vregd P rid bs ops (Q .normal) σ
  | .regf rid _ ops,Q,σ=>vops P rid ops 0 (Q .normal) σ
  | .rege rid bs ops,Q,σ=>vregd P rid bs ops (Q .normal) σ
  | .regg rid bs ops,Q,σ=>lastB bs ops.length=true∧vopsL P rid ops 0 (Q .normal) σ
  | .regv t rid bs ops,Q,σ=>tOk bs ops.length t [] []=true∧vT P rid ops (Q .normal) t σ
  | .regh k rid bs ops,Q,σ=>tailB bs k ops.length=true∧vopsH P rid k ops 0 (Q .normal) σ
  | .join x y,Q,σ=>∃ I:St→Prop,vcg P x (thenQ (fun σ1=>∃ σ2,Ent σ1 σ2∧I σ2) Q) σ∧∀ σ2,I σ2→vcg P y Q σ2
section
variable {P:Program} {E:Env} {σ:St} {a:Act} {w:World}
theorem vops_run {rid:Nat} {ops:Array Oper} {K:St→Prop}:∀ (n i:Nat) (σ:St),i+n=ops.size →
    vops P rid ((ops.toList.map (trO P ops)).drop i) i K σ→∃ σe,Run P rid (fun i=>trO P ops (ops.getD i default)) (List.range' i n) σ σe∧K σe
  | 0,i,σ,hn,h=>by
    have:(ops.toList.map (trO P ops)).drop i=[]:=List.drop_eq_nil_of_le (by simp;omega)
    rw [this] at h
    exact ⟨σ,rfl,h⟩
  | n+1,i,σ,hn,h=>by
    have hlt:i<ops.size:=by omega
    have hd:(ops.toList.map (trO P ops)).drop i=trO P ops ops[i]::(ops.toList.map (trO P ops)).drop (i+1):=by
      rw [List.drop_eq_getElem_cons (by simpa using hlt)]
      simp
    rw [hd] at h
    obtain ⟨σ1,h1,h2⟩:=vstep_iff.1 h
    obtain ⟨σe,h3,h4⟩:=vops_run n (i+1) σ1 (by omega) h2
    refine ⟨σe,⟨σ1,?_,h3⟩,h4⟩
    have:ops.getD i default=ops[i]:=by simp [hlt]
    simp only [this]
    exact h1
theorem vopsL_run {rid:Nat} {ops:Array Oper} {K:St→Prop}:∀ (n i:Nat) (σ:St),i+(n+1)=ops.size →
    vopsL P rid ((ops.toList.map (trO P ops)).drop i) i K σ→∃ σe,Run P rid (fun i=>trO P ops (ops.getD i default)) (List.range' i n) σ σe∧vstepM P (siteOf rid (i+n)) (trO P ops (ops.getD (i+n) default)) K σe
  | 0,i,σ,hn,h=>by
    have hlt:i<ops.size:=by omega
    have hd:(ops.toList.map (trO P ops)).drop i=[trO P ops ops[i]]:=by
      rw [List.drop_eq_getElem_cons (by simpa using hlt),List.drop_eq_nil_of_le (by simp;omega)]
      simp
    rw [hd] at h
    refine ⟨σ,rfl,?_⟩
    have:ops.getD i default=ops[i]:=by simp [hlt]
    rw [Nat.add_zero,this]
    exact h
  | n+1,i,σ,hn,h=>by
    have hlt:i<ops.size:=by omega
    have hlt2:i+1<ops.size:=by omega
    have hd2:(ops.toList.map (trO P ops)).drop (i+1)=trO P ops ops[i+1]::(ops.toList.map (trO P ops)).drop (i+2):=by
      rw [List.drop_eq_getElem_cons (by simpa using hlt2)]
      simp
    have hd:(ops.toList.map (trO P ops)).drop i=trO P ops ops[i]::(ops.toList.map (trO P ops)).drop (i+1):=by
      rw [List.drop_eq_getElem_cons (by simpa using hlt)]
      simp
    rw [hd,hd2] at h
    obtain ⟨σ1,h1,h2⟩:=vstep_iff.1 h
    rw [← hd2] at h2
    obtain ⟨σe,h3,h4⟩:=vopsL_run n (i+1) σ1 (by omega) h2
    refine ⟨σe,⟨σ1,?_,h3⟩,?_⟩
    · have:ops.getD i default=ops[i]:=by simp [hlt]
      simp only [this]
      exact h1
    · rw [show i+(n+1)=i+1+n by omega];exact h4
theorem ordered_sound [EOk P E] {rid:Nat} {ops:Array Oper} {KL:St→Prop} {Q:Exit→Act→World→Prop} (hall:ops.toList.all (opOk E.N ops)=true) (hQ:∀ σ' a' w',KL σ'→Sim E σ' a' w'→Q .normal a' w') :
    ∀ (n i:Nat) (σ:St) (a:Act) (w:World),i+n=ops.size→vopsM P rid ((ops.toList.map (trO P ops)).drop i) i KL σ→Sim E σ a w→wpOps P ops Q (List.range' i n) a w
  | 0,i,σ,a,w,hn,h,hs=>by
    have:(ops.toList.map (trO P ops)).drop i=[]:=List.drop_eq_nil_of_le (by simp;omega)
    rw [this] at h
    exact hQ _ _ _ h hs
  | n+1,i,σ,a,w,hn,h,hs=>by
    have hlt:i<ops.size:=by omega
    have hd:(ops.toList.map (trO P ops)).drop i=trO P ops ops[i]::(ops.toList.map (trO P ops)).drop (i+1):=by
      rw [List.drop_eq_getElem_cons (by simpa using hlt)]
      simp
    rw [hd] at h
    rw [List.range'_succ,wpOps_cons]
    have hok:opOk E.N ops ops[i]=true:=List.all_eq_true.1 hall _ (by simp)
    exact wpOp_of_vstepM (Array.getElem?_eq_getElem hlt) hok hs h fun σ' a' w' h' hs'=>ordered_sound hall hQ n (i+1) σ' a' w' (by omega) h' hs'
theorem orderedB_sound [EOk P E] {rid:Nat} {ops:Array Oper} {KL:St→Prop} {Q:Exit→Act→World→Prop} (hall:ops.toList.all (opOk E.N ops)=true) (hQ:∀ σ' a' w',KL σ'→Sim E σ' a' w'→Q .normal a' w') :
    ∀ (los:List (Bool × LOp)) (n i:Nat) (σ:St) (a:Act) (w:World),i+n=ops.size→los.map (·.2)=(ops.toList.map (trO P ops)).drop i→vopsB P rid los i KL σ→Sim E σ a w→wpOps P ops Q (List.range' i n) a w
  | los,0,i,σ,a,w,hn,he,h,hs=>by
    have:(ops.toList.map (trO P ops)).drop i=[]:=List.drop_eq_nil_of_le (by simp;omega)
    rw [this] at he
    cases los with
    | nil=>exact hQ _ _ _ h hs
    | cons _ _=>cases he
  | los,n+1,i,σ,a,w,hn,he,h,hs=>by
    have hlt:i<ops.size:=by omega
    have hd:(ops.toList.map (trO P ops)).drop i=trO P ops ops[i]::(ops.toList.map (trO P ops)).drop (i+1):=by
      rw [List.drop_eq_getElem_cons (by simpa using hlt)]
      simp
    rw [hd] at he
    rw [List.range'_succ,wpOps_cons]
    have hok:opOk E.N ops ops[i]=true:=List.all_eq_true.1 hall _ (by simp)
    cases los with
    | nil=>cases he
    | cons p los =>
      obtain ⟨b,o⟩:=p
      simp only [List.map_cons,List.cons.injEq] at he
      obtain ⟨rfl,he⟩:=he
      cases b with
      | false=>exact wpOp_of_vstepM (Array.getElem?_eq_getElem hlt) hok hs h fun σ' a' w' h' hs'=>orderedB_sound hall hQ los n (i+1) σ' a' w' (by omega) he h' hs'
      | true=>exact wpOp_of_vstepL (Array.getElem?_eq_getElem hlt) hok hs h fun σ' a' w' h' hs'=>orderedB_sound hall hQ los n (i+1) σ' a' w' (by omega) he h' hs'
theorem orderedC_sound [EOk P E] {rid:Nat} {ops:Array Oper} {KL:St→Prop} {Q:Exit→Act→World→Prop} (hall:ops.toList.all (opOk E.N ops)=true) (hQ:∀ σ' a' w',KL σ'→Sim E σ' a' w'→Q .normal a' w') :
    ∀ (los:List (Nat × LOp)) (n i:Nat) (σ:St) (a:Act) (w:World),i+n=ops.size→los.map (·.2)=(ops.toList.map (trO P ops)).drop i→vopsC P rid los i KL σ→Sim E σ a w→wpOps P ops Q (List.range' i n) a w
  | los,0,i,σ,a,w,hn,he,h,hs=>by
    have:(ops.toList.map (trO P ops)).drop i=[]:=List.drop_eq_nil_of_le (by simp;omega)
    rw [this] at he
    cases los with
    | nil=>exact hQ _ _ _ h hs
    | cons _ _=>cases he
  | los,n+1,i,σ,a,w,hn,he,h,hs=>by
    have hlt:i<ops.size:=by omega
    have hd:(ops.toList.map (trO P ops)).drop i=trO P ops ops[i]::(ops.toList.map (trO P ops)).drop (i+1):=by
      rw [List.drop_eq_getElem_cons (by simpa using hlt)]
      simp
    rw [hd] at he
    rw [List.range'_succ,wpOps_cons]
    have hok:opOk E.N ops ops[i]=true:=List.all_eq_true.1 hall _ (by simp)
    cases los with
    | nil=>cases he
    | cons p los =>
      obtain ⟨b,o⟩:=p
      simp only [List.map_cons,List.cons.injEq] at he
      obtain ⟨rfl,he⟩:=he
      match b,h with
      | 0,h=>exact wpOp_of_vstepM (Array.getElem?_eq_getElem hlt) hok hs h fun σ' a' w' h' hs'=>orderedC_sound hall hQ los n (i+1) σ' a' w' (by omega) he h' hs'
      | 1,h=>exact wpOp_of_vstepL (Array.getElem?_eq_getElem hlt) hok hs h fun σ' a' w' h' hs'=>orderedC_sound hall hQ los n (i+1) σ' a' w' (by omega) he h' hs'
      | _+2,h=>exact wpOp_of_vstepC (Array.getElem?_eq_getElem hlt) hok hs h fun σ' a' w' h' hs'=>orderedC_sound hall hQ los n (i+1) σ' a' w' (by omega) he h' hs'
def simQ (E:Env) (Q:Exit→St→Prop):Exit→Act→World→Prop:=fun e a w=>∃ σ,Sim E σ a w∧Q e σ
theorem draw_sound [EOk P E] {rid:Nat} {ops:Array Oper} {Q:Exit→St→Prop} {σ:St} {a:Act} {w:World} (hall:ops.toList.all (opOk E.N ops)=true) (hm:P.follows .mixedOrders=true) (hd:drawOk ops (ops.toList.map (trO P ops)) (befs ops.toList)=true)
    (h:vops P rid (ops.toList.map (trO P ops)) 0 (Q .normal) σ) (hs:Sim E σ a w):(Code.region rid ops true).wp P (simQ E Q) a w:=by
  obtain ⟨σe,hrun,hq⟩:=vops_run (ops:=ops) ops.size 0 σ (by omega) (by simpa using h)
  refine wp_region_any hm ?_
  refine any_sound (lo:=fun i=>trO P ops (ops.getD i default)) rfl (fun i x hx=>?_) hall hd (fun a' w' hs'=>⟨σe,hs',hq⟩) ops.size _ (List.range' 0 ops.size) σ a _ (by simp) ?_ hrun hs.drew
  · rw [List.getElem?_map,Option.map_eq_some_iff] at hx
    obtain ⟨o,ho,rfl⟩:=hx
    rw [Array.getElem?_toList] at ho
    simp [Array.getD_eq_getD_getElem?,ho]
  · refine ⟨by simp,by rw [← List.range_eq_range'];exact List.pairwise_lt_range,fun k=>?_,fun k hk hl=>?_⟩
    · rw [← List.range_eq_range',List.mem_range]
      simp only [Array.getD_eq_getD_getElem?]
      constructor
      · intro hk;exact ⟨hk,by simp [hk]⟩
      · exact fun h=>h.1
    · simp only [Array.getD_eq_getD_getElem?] at hl
      simp [hk] at hl
theorem dyn_sound [EOk P E] {rid:Nat} {ops:Array Oper} {Q:Exit→St→Prop} {σ:St} {a:Act} {w:World} (hall:ops.toList.all (opOk E.N ops)=true) (hm:P.follows .mixedOrders=true) (hd:depsChk ops (befs ops.toList)=true)
    (h:vregd P rid (befs ops.toList) (ops.toList.map (trO P ops)) (Q .normal) σ) (hs:Sim E σ a w):(Code.region rid ops true).wp P (simQ E Q) a w:=by
  obtain ⟨ev,hev,hcmp,σe,hrun,hq⟩:=h
  have hlen:(ops.toList.map (trO P ops)).length=ops.size:=by simp
  rw [hlen] at hev hcmp hrun
  refine wp_region_any hm ?_
  refine any_soundE (lo:=loAt (ops.toList.map (trO P ops))) (ev:=ev) (bs:=befs ops.toList) (fun i o ho=>?_) hall hd hev hcmp (fun a' w' hs'=>⟨σe,hs',hq⟩) ops.size _ (List.range ops.size) σ a _ (by simp) ?_ hrun hs.drew
  · simp [loAt,List.getD_eq_getElem?_getD,ho]
  · refine ⟨by simp,List.pairwise_lt_range,fun k=>?_,fun k hk hl=>?_⟩
    · rw [List.mem_range]
      simp only [Array.getD_eq_getD_getElem?]
      constructor
      · intro hk;exact ⟨hk,by simp [hk]⟩
      · exact fun h=>h.1
    · simp only [Array.getD_eq_getD_getElem?] at hl
      simp [hk] at hl
theorem last_sound [EOk P E] {rid:Nat} {ops:Array Oper} {Q:Exit→St→Prop} {σ:St} {a:Act} {w:World} (hall:ops.toList.all (opOk E.N ops)=true) (hm:P.follows .mixedOrders=true) (hd:drawOk ops (ops.toList.map (trO P ops)) (befs ops.toList)=true) (hchk:depsChk ops (befs ops.toList)=true)
    (hl:lastB (befs ops.toList) ops.size=true) (h:vopsL P rid (ops.toList.map (trO P ops)) 0 (Q .normal) σ) (hs:Sim E σ a w):(Code.region rid ops true).wp P (simQ E Q) a w:=by
  obtain ⟨n,hn⟩:∃ n,ops.size=n+1:=by
    cases hsz:ops.size with
    | succ n=>exact ⟨n,rfl⟩
    | zero =>
      have:ops.toList.map (trO P ops)=[]:=by
        rw [List.map_eq_nil_iff];exact List.eq_nil_of_length_eq_zero (by simpa using hsz)
      rw [this] at h;exact h.elim
  obtain ⟨σe,hrun,hst⟩:=vopsL_run (ops:=ops) n 0 σ (by omega) (by simpa using h)
  rw [Nat.zero_add] at hst
  refine wp_region_any hm ?_
  rw [hn]
  refine any_soundS (lo:=fun i=>trO P ops (ops.getD i default)) (bs:=befs ops.toList) (K:=Q .normal) rfl (fun i x hx=>?_) hall hd hchk hn (fun j hj=>?_) hst (fun σ' a' w' hk hs'=>⟨σ',hs',hk⟩) n _ (List.range' 0 n) σ a _ (by simp) ?_ hrun hs.drew
  · rw [List.getElem?_map,Option.map_eq_some_iff] at hx
    obtain ⟨o,ho,rfl⟩:=hx
    rw [Array.getElem?_toList] at ho
    simp [Array.getD_eq_getD_getElem?,ho]
  · rw [lastB,hn] at hl
    have:=List.all_eq_true.1 hl j (List.mem_range.2 (by omega))
    simpa using this
  · have e:List.range' 0 n++[n]=List.range (n+1):=by rw [← List.range_eq_range',List.range_succ]
    rw [e,← hn]
    refine ⟨by simp,List.pairwise_lt_range,fun k=>?_,fun k hk hl=>?_⟩
    · rw [List.mem_range]
      simp only [Array.getD_eq_getD_getElem?]
      constructor
      · intro hk;exact ⟨hk,by simp [hk]⟩
      · exact fun h=>h.1
    · simp only [Array.getD_eq_getD_getElem?] at hl
      simp [hk] at hl
theorem vopsM_ser {rid:Nat} {ops:Array Oper} {K:St→Prop}:∀ (m i:Nat),i+m=ops.size→vopsM P rid ((ops.toList.map (trO P ops)).drop i) i K=Ser P rid (fun i=>trO P ops (ops.getD i default)) K m i
  | 0,i,hn=>by
    have:(ops.toList.map (trO P ops)).drop i=[]:=List.drop_eq_nil_of_le (by simp;omega)
    rw [this];rfl
  | m+1,i,hn=>by
    have hlt:i<ops.size:=by omega
    have hd:(ops.toList.map (trO P ops)).drop i=trO P ops ops[i]::(ops.toList.map (trO P ops)).drop (i+1):=by
      rw [List.drop_eq_getElem_cons (by simpa using hlt)]
      simp
    have he:ops.getD i default=ops[i]:=by simp [hlt]
    rw [hd]
    show vstepM P (siteOf rid i) (trO P ops ops[i]) (vopsM P rid _ (i+1) K)=vstepM P (siteOf rid i) (trO P ops (ops.getD i default)) (Ser P rid _ K m (i+1))
    rw [he,vopsM_ser m (i+1) (by omega)]
theorem vopsH_run {rid:Nat} {ops:Array Oper} {K:St→Prop}:∀ (k i:Nat) (σ:St),i+k≤ops.size →
    vopsH P rid k ((ops.toList.map (trO P ops)).drop i) i K σ→∃ σe,Run P rid (fun i=>trO P ops (ops.getD i default)) (List.range' i k) σ σe∧vopsM P rid ((ops.toList.map (trO P ops)).drop (i+k)) (i+k) K σe
  | 0,i,σ,hn,h=>⟨σ,rfl,h⟩
  | k+1,i,σ,hn,h=>by
    have hlt:i<ops.size:=by omega
    have hd:(ops.toList.map (trO P ops)).drop i=trO P ops ops[i]::(ops.toList.map (trO P ops)).drop (i+1):=by
      rw [List.drop_eq_getElem_cons (by simpa using hlt)]
      simp
    rw [hd] at h
    obtain ⟨σ1,h1,h2⟩:=vstep_iff.1 h
    obtain ⟨σe,h3,h4⟩:=vopsH_run k (i+1) σ1 (by omega) h2
    refine ⟨σe,⟨σ1,?_,h3⟩,?_⟩
    · have:ops.getD i default=ops[i]:=by simp [hlt]
      simp only [this]
      exact h1
    · rw [show i+(k+1)=i+1+k by omega];exact h4
theorem vopsH_le {rid:Nat} {K:St→Prop}:∀ (k:Nat) (os:List LOp) (i:Nat) (σ:St),vopsH P rid k os i K σ→k≤os.length
  | 0,_,_,_,_=>Nat.zero_le _
  | k+1,[],_,_,h=>h.elim
  | k+1,o::os,i,σ,h=>by
    obtain ⟨σ1,_,h2⟩:=vstep_iff.1 h
    have:=vopsH_le k os (i+1) σ1 h2
    simp only [List.length_cons];omega
theorem tail_sound [EOk P E] {k rid:Nat} {ops:Array Oper} {Q:Exit→St→Prop} {σ:St} {a:Act} {w:World} (hall:ops.toList.all (opOk E.N ops)=true) (hm:P.follows .mixedOrders=true) (hd:drawOk ops (ops.toList.map (trO P ops)) (befs ops.toList)=true) (hchk:depsChk ops (befs ops.toList)=true)
    (hl:tailB (befs ops.toList) k ops.size=true) (h:vopsH P rid k (ops.toList.map (trO P ops)) 0 (Q .normal) σ) (hs:Sim E σ a w):(Code.region rid ops true).wp P (simQ E Q) a w:=by
  have hk:k≤ops.size:=by simpa using vopsH_le _ _ _ _ h
  obtain ⟨m,hn⟩:∃ m,ops.size=k+m:=⟨ops.size - k,by omega⟩
  obtain ⟨σe,hrun,hst⟩:=vopsH_run (ops:=ops) k 0 σ (by omega) (by simpa using h)
  rw [Nat.zero_add] at hst
  rw [vopsM_ser m k (by omega)] at hst
  refine wp_region_any hm ?_
  rw [hn]
  refine any_soundT (lo:=fun i=>trO P ops (ops.getD i default)) (bs:=befs ops.toList) (K:=Q .normal) rfl (fun i x hx=>?_) hall hd hchk hn (fun t ht1 ht2 j hj=>?_) hst (fun σ' a' w' hk hs'=>⟨σ',hs',hk⟩) k _ (List.range' 0 k) σ a _ (by simp) (fun j hj=>by have:=(List.mem_range'_1.1 hj).2;omega) ?_ hrun hs.drew
  · rw [List.getElem?_map,Option.map_eq_some_iff] at hx
    obtain ⟨o,ho,rfl⟩:=hx
    rw [Array.getElem?_toList] at ho
    simp [Array.getD_eq_getD_getElem?,ho]
  · have:=List.all_eq_true.1 hl t (List.mem_range.2 (by omega))
    rw [Bool.or_eq_true,decide_eq_true_eq] at this
    rcases this with h1|h1
    · omega
    · simpa using List.all_eq_true.1 h1 j (List.mem_range.2 hj)
  · have e:List.range' 0 k++List.range' k m=List.range (k+m):=by
      rw [List.range_eq_range']
      have:=List.range'_append (s:=0) (m:=k) (n:=m) (step:=1)
      simpa using this
    rw [e,← hn]
    refine ⟨by simp,List.pairwise_lt_range,fun k=>?_,fun k hk hl=>?_⟩
    · rw [List.mem_range]
      simp only [Array.getD_eq_getD_getElem?]
      constructor
      · intro hk;exact ⟨hk,by simp [hk]⟩
      · exact fun h=>h.1
    · simp only [Array.getD_eq_getD_getElem?] at hl
      simp [hk] at hl
theorem tree_sound [EOk P E] {t:OT} {rid:Nat} {ops:Array Oper} {Q:Exit→St→Prop} {σ:St} {a:Act} {w:World} (hall:ops.toList.all (opOk E.N ops)=true) (hm:P.follows .mixedOrders=true) (hchk:depsChk ops (befs ops.toList)=true)
    (hl:tOk (befs ops.toList) ops.size t [] []=true) (h:vT P rid (ops.toList.map (trO P ops)) (Q .normal) t σ) (hs:Sim E σ a w):(Code.region rid ops true).wp P (simQ E Q) a w:=by
  refine wp_region_any hm ?_
  have:=(tree_alts (los:=ops.toList.map (trO P ops)) (bs:=befs ops.toList) (K:=Q .normal) (Q:=simQ E Q) rfl hall hchk (fun σ' a' w' hk hs'=>⟨σ',hs',hk⟩) t [] [] (Array.replicate ops.size false) (List.range ops.size) σ a w.drew hl ⟨by simp,List.pairwise_lt_range,fun k=>?_,fun k hk hl=>?_⟩ (fun i=>by simp) h hs.drew).2 rfl
  · simpa using this
  · rw [List.mem_range]
    simp only [Array.getD_eq_getD_getElem?]
    constructor
    · intro hk;exact ⟨hk,by simp [hk]⟩
    · exact fun h=>h.1
  · simp only [Array.getD_eq_getD_getElem?] at hl
    simp [hk] at hl
theorem vcg_sound0 [EOk P E]:∀ (c:Code) (Q:Exit→St→Prop) (σ:St) (a:Act) (w:World),codeOk P E.N c (trC P c)=true→vcg P (trC P c) Q σ→Sim E σ a w→c.wp P (simQ E Q) a w
  | .skip,Q,σ,a,w,_,h,hs=>wp_skip ⟨σ,hs,h⟩
  | .region rid ops draw,Q,σ,a,w,hok,h,hs=>by
    cases draw with
    | false =>
      simp only [trC,codeOk,Bool.and_eq_true,Bool.false_eq_true,if_false] at hok
      refine wp_region ?_
      rw [List.range_eq_range']
      exact ordered_sound (KL:=Q .normal) hok.1 (fun σ' a' w' h' hs'=>⟨σ',hs',h'⟩) ops.size 0 σ a w (by omega) (by simpa [vcg,trC] using h) hs
    | true =>
     by_cases hdr:drawOk ops (ops.toList.map (trO P ops)) (befs ops.toList)=true
     · by_cases hca:hasCall (ops.toList.map (trO P ops))=true
       · have htr:trC P (.region rid ops true) = .regf rid (befs ops.toList) (ops.toList.map (trO P ops)):=by simp only [trC,if_true,hdr,hca]
         rw [htr] at hok h
         simp only [codeOk,Bool.and_eq_true] at hok
         exact draw_sound hok.1 hok.2.2.1 hok.2.2.2.1 h hs
       · have htr:trC P (.region rid ops true) = .reg rid (ops.toList.map (trO P ops)):=by simp only [trC,if_true,hdr,hca];rfl
         rw [htr] at hok h
         simp only [codeOk,Bool.and_eq_true] at hok
         exact draw_sound hok.1 hok.2.2.1 hok.2.2.2 h hs
     · have htr:trC P (.region rid ops true) = .regd rid (befs ops.toList) (ops.toList.map (trO P ops)):=by simp only [trC,if_true,hdr];rfl
       rw [htr] at hok h
       simp only [codeOk,Bool.and_eq_true] at hok
       exact dyn_sound hok.1 hok.2.2.1 hok.2.2.2 h hs
  | .seq x y,Q,σ,a,w,hok,h,hs=>by
    simp only [trC,codeOk,Bool.and_eq_true] at hok
    refine wp_seq (wp_mono (vcg_sound0 x _ σ a w hok.1 h hs) ?_)
    rintro e a' w' ⟨σ',hs',hq⟩
    cases e with
    | normal=>exact vcg_sound0 y Q σ' a' w' hok.2 hq hs'
    | _=>exact ⟨σ',hs',hq⟩
  | .cond c x y,Q,σ,a,w,hok,h,hs=>by
    simp only [trC,codeOk,Bool.and_eq_true] at hok
    have hc:∃ b,a.eval c = .bool b∧(b=true→vcg P (trC P x) Q σ)∧(b=false→vcg P (trC P y) Q σ):=by
      obtain ⟨g,hs⟩:=hs
      have hr:=rep_rd hs.tm c
      simp only [trC,vcg,condV] at h
      generalize (rdOf c).get σ.tm=C at hr h
      cases C with
      | bool b=>exact ⟨b,hr.bool_inv,(fun e=>by subst e;exact h),(fun e=>by subst e;exact h)⟩
      | _=>exact h.elim
    obtain ⟨b,hb,h1,h2⟩:=hc
    exact wp_cond_split hb (fun e=>vcg_sound0 x Q σ a w hok.1 (h1 e) hs) (fun e=>vcg_sound0 y Q σ a w hok.2 (h2 e) hs)
  | .block id x,Q,σ,a,w,hok,h,hs=>by
    simp only [trC,codeOk] at hok
    refine wp_block (wp_mono (vcg_sound0 x _ σ a w hok h hs) ?_)
    rintro e a' w' ⟨σ',hs',hq⟩
    cases e with
    | exit i =>
      simp only [blockQ] at hq
      simp only [Exit.inBlock]
      split
      · rename_i e;rw [if_pos e] at hq;exact ⟨σ',hs',hq⟩
      · rename_i e;rw [if_neg e] at hq;exact ⟨σ',hs',hq⟩
    | _=>exact ⟨σ',hs',hq⟩
  | .loop x,Q,σ,a,w,hok,h,hs=>by
    simp only [trC,codeOk] at hok
    obtain ⟨I,⟨n,σ0,hle,h0⟩,hround⟩:=h
    intro b k cs
    have key:∀ n (a:Act) (w:World),(∃ σ,Sim E σ a w∧I n σ) →
        ∃ e a' w',simQ E Q e a' w'∧Arrives P (lone (b.at a (.code x :: .inLoop x::k)) cs w) b k cs e a' w':=by
      intro n
      induction n using Nat.strongRecOn with
      | _ n ih =>
        rintro a w ⟨σ1,hs1,hI⟩
        obtain ⟨e,a₁,w₁,⟨σ2,hs2,hq⟩,harr⟩:=vcg_sound0 x _ σ1 a w hok (hround n σ1 hI) hs1 b (.inLoop x::k) cs
        cases e with
        | normal =>
          obtain ⟨m,σ3,hlt,hle3,hI3⟩:=hq
          obtain ⟨e₂,a₂,w₂,hq₂,harr₂⟩:=ih m hlt a₁ w₁ ⟨σ3,hle3 _ _ _ hs2,hI3⟩
          exact ⟨e₂,a₂,w₂,hq₂,.of_steps (Steps.trans harr (.one step_inLoop)) harr₂⟩
        | exit id=>exact ⟨_,a₁,w₁,⟨σ2,hs2,hq⟩,.pass (x:=.inLoop x) rfl (fun _ _=>.inl (by simp)) harr⟩
        | goto l=>exact ⟨_,a₁,w₁,⟨σ2,hs2,hq⟩,.pass (x:=.inLoop x) rfl (fun _ _=>.inl (by simp)) harr⟩
        | ret=>exact ⟨_,a₁,w₁,⟨σ2,hs2,hq⟩,.pass (x:=.inLoop x) rfl (fun _ _=>.inl (by simp)) harr⟩
        | panic ch=>exact ⟨_,a₁,w₁,⟨σ2,hs2,hq⟩,.pass (x:=.inLoop x) rfl (fun _ _=>.inl (by simp)) harr⟩
        | outgrown=>exact ⟨_,a₁,w₁,⟨σ2,hs2,hq⟩,.pass (x:=.inLoop x) rfl (fun _ _=>.inl (by simp)) harr⟩
    obtain ⟨e,a',w',hq,harr⟩:=key n a w ⟨σ0,hle _ _ _ hs,h0⟩
    exact ⟨e,a',w',hq,.of_steps (.one step_loop) harr⟩
  | .exit id,Q,σ,a,w,_,h,hs=>wp_exit ⟨σ,hs,h⟩
  | .ret,Q,σ,a,w,_,h,hs=>wp_ret ⟨σ,hs,h⟩
  | .rangeFunc ..,Q,σ,a,w,hok,h,hs=>by cases hok
  | .scope _,Q,σ,a,w,hok,h,hs=>by cases hok
  | .label _,Q,σ,a,w,hok,h,hs=>by cases hok
  | .goto _,Q,σ,a,w,hok,h,hs=>by cases hok
  | .refuse _,Q,σ,a,w,hok,h,hs=>by cases hok
theorem trC_seq {x y:LC} {c:Code} (h:LC.seq x y=trC P c):∃ cx cy,c = .seq cx cy∧x=trC P cx∧y=trC P cy:=by
  cases c with
  | seq cx cy=>simp only [trC,LC.seq.injEq] at h;exact ⟨cx,cy,rfl,h.1,h.2⟩
  | region rid ops draw=>simp only [trC] at h;split at h<;>first|(cases h;done)|(split at h<;>first|(cases h;done)|(split at h<;>cases h))
  | _=>cases h
theorem trC_cond {r:Rd} {x y:LC} {c:Code} (h:LC.cond r x y=trC P c):∃ co cx cy,c = .cond co cx cy∧r=rdOf co∧x=trC P cx∧y=trC P cy:=by
  cases c with
  | cond co cx cy=>simp only [trC,LC.cond.injEq] at h;exact ⟨co,cx,cy,rfl,h.1,h.2.1,h.2.2⟩
  | region rid ops draw=>simp only [trC] at h;split at h<;>first|(cases h;done)|(split at h<;>first|(cases h;done)|(split at h<;>cases h))
  | _=>cases h
theorem trC_block {id:Nat} {x:LC} {c:Code} (h:LC.block id x=trC P c):∃ cx,c = .block id cx∧x=trC P cx:=by
  cases c with
  | block i cx=>simp only [trC,LC.block.injEq] at h;obtain ⟨rfl,h⟩:=h;exact ⟨cx,rfl,h⟩
  | region rid ops draw=>simp only [trC] at h;split at h<;>first|(cases h;done)|(split at h<;>first|(cases h;done)|(split at h<;>cases h))
  | _=>cases h
theorem trC_loop {x:LC} {c:Code} (h:LC.loop x=trC P c):∃ cx,c = .loop cx∧x=trC P cx:=by
  cases c with
  | loop cx=>simp only [trC,LC.loop.injEq] at h;exact ⟨cx,rfl,h⟩
  | region rid ops draw=>simp only [trC] at h;split at h<;>first|(cases h;done)|(split at h<;>first|(cases h;done)|(split at h<;>cases h))
  | _=>cases h
theorem trC_rego {rid:Nat} {os:List LOp} {c:Code} (h:LC.rego rid os=trC P c):∃ ops:Array Oper,c = .region rid ops false∧os=ops.toList.map (trO P ops):=by
  cases c with
  | region r ops draw =>
    simp only [trC] at h
    cases draw with
    | true=>simp only [if_true] at h;split at h<;>first|(cases h;done)|(split at h<;>cases h)
    | false =>
      simp only [Bool.false_eq_true,if_false,LC.rego.injEq] at h
      obtain ⟨rfl,h⟩:=h
      exact ⟨ops,rfl,h⟩
  | _=>cases h
theorem trC_regf {rid:Nat} {bs:List Nat} {os:List LOp} {c:Code} (h:LC.regf rid bs os=trC P c):∃ ops:Array Oper,c = .region rid ops true∧bs=befs ops.toList∧os=ops.toList.map (trO P ops):=by
  cases c with
  | region r ops draw =>
    simp only [trC] at h
    cases draw with
    | false=>cases h
    | true =>
      simp only [if_true] at h
      split at h
      · split at h
        · cases h;exact ⟨ops,rfl,rfl,rfl⟩
        · cases h
      · cases h
  | _=>cases h
theorem vcg_sound [EOk P E]:∀ (lc:LC) (c:Code) (Q:Exit→St→Prop) (σ:St) (a:Act) (w:World),lc.erase=trC P c→codeOk P E.N c (trC P c)=true→vcg P lc Q σ→Sim E σ a w→c.wp P (simQ E Q) a w
  | .keep ls x,c,Q,σ,a,w,he,hok,h,hs=>vcg_sound x c Q (σ.keep ls) a w he hok h (hs.le (keep_le σ ls))
  | .skip,c,Q,σ,a,w,he,hok,h,hs=>vcg_sound0 c Q σ a w hok (he▸h) hs
  | .reg ..,c,Q,σ,a,w,he,hok,h,hs=>vcg_sound0 c Q σ a w hok (he▸h) hs
  | .regd ..,c,Q,σ,a,w,he,hok,h,hs=>vcg_sound0 c Q σ a w hok (he▸h) hs
  | .regf ..,c,Q,σ,a,w,he,hok,h,hs=>vcg_sound0 c Q σ a w hok (he▸h) hs
  | .rege rid bs os,c,Q,σ,a,w,he,hok,h,hs=>by
    obtain ⟨ops,rfl,rfl,rfl⟩:=trC_regf he
    have htr:=he.symm
    have he':LC.regf rid (befs ops.toList) (ops.toList.map (trO P ops))=trC P (.region rid ops true):=he
    rw [← he'] at hok
    simp only [codeOk,Bool.and_eq_true] at hok
    exact dyn_sound hok.1 hok.2.2.1 hok.2.2.2.2 h hs
  | .regg rid bs os,c,Q,σ,a,w,he,hok,h,hs=>by
    obtain ⟨ops,rfl,rfl,rfl⟩:=trC_regf he
    have he':LC.regf rid (befs ops.toList) (ops.toList.map (trO P ops))=trC P (.region rid ops true):=he
    rw [← he'] at hok
    simp only [codeOk,Bool.and_eq_true] at hok
    exact last_sound hok.1 hok.2.2.1 hok.2.2.2.1 hok.2.2.2.2 (by simpa using h.1) h.2 hs
  | .regv t rid bs os,c,Q,σ,a,w,he,hok,h,hs=>by
    obtain ⟨ops,rfl,rfl,rfl⟩:=trC_regf he
    have he':LC.regf rid (befs ops.toList) (ops.toList.map (trO P ops))=trC P (.region rid ops true):=he
    rw [← he'] at hok
    simp only [codeOk,Bool.and_eq_true] at hok
    exact tree_sound hok.1 hok.2.2.1 hok.2.2.2.2 (by simpa using h.1) h.2 hs
  | .regh k rid bs os,c,Q,σ,a,w,he,hok,h,hs=>by
    obtain ⟨ops,rfl,rfl,rfl⟩:=trC_regf he
    have he':LC.regf rid (befs ops.toList) (ops.toList.map (trO P ops))=trC P (.region rid ops true):=he
    rw [← he'] at hok
    simp only [codeOk,Bool.and_eq_true] at hok
    exact tail_sound hok.1 hok.2.2.1 hok.2.2.2.1 hok.2.2.2.2 (by simpa using h.1) h.2 hs
  | .rego ..,c,Q,σ,a,w,he,hok,h,hs=>vcg_sound0 c Q σ a w hok (he▸h) hs
  | .regb rid os,c,Q,σ,a,w,he,hok,h,hs=>by
    obtain ⟨ops,rfl,ho⟩:=trC_rego he
    simp only [trC,codeOk,Bool.and_eq_true,Bool.false_eq_true,if_false] at hok
    refine wp_region ?_
    rw [List.range_eq_range']
    exact orderedB_sound (KL:=Q .normal) hok.1 (fun σ' a' w' h' hs'=>⟨σ',hs',h'⟩) os ops.size 0 σ a w (by omega) (by simpa using ho) h hs
  | .regc rid os,c,Q,σ,a,w,he,hok,h,hs=>by
    obtain ⟨ops,rfl,ho⟩:=trC_rego he
    simp only [trC,codeOk,Bool.and_eq_true,Bool.false_eq_true,if_false] at hok
    refine wp_region ?_
    rw [List.range_eq_range']
    exact orderedC_sound (KL:=Q .normal) hok.1 (fun σ' a' w' h' hs'=>⟨σ',hs',h'⟩) os ops.size 0 σ a w (by omega) (by simpa using ho) h hs
  | .exit _,c,Q,σ,a,w,he,hok,h,hs=>vcg_sound0 c Q σ a w hok (he▸h) hs
  | .ret,c,Q,σ,a,w,he,hok,h,hs=>vcg_sound0 c Q σ a w hok (he▸h) hs
  | .bad,c,Q,σ,a,w,he,hok,h,hs=>h.elim
  | .seq lx ly,c,Q,σ,a,w,he,hok,h,hs=>by
    obtain ⟨x,y,rfl,ex,ey⟩:=trC_seq he
    simp only [trC,codeOk,Bool.and_eq_true] at hok
    refine wp_seq (wp_mono (vcg_sound lx x _ σ a w ex hok.1 h hs) ?_)
    rintro e a' w' ⟨σ',hs',hq⟩
    cases e with
    | normal=>exact vcg_sound ly y Q σ' a' w' ey hok.2 hq hs'
    | _=>exact ⟨σ',hs',hq⟩
  | .join lx ly,c,Q,σ,a,w,he,hok,h,hs=>by
    obtain ⟨x,y,rfl,ex,ey⟩:=trC_seq he
    simp only [trC,codeOk,Bool.and_eq_true] at hok
    obtain ⟨I,h1,h2⟩:=h
    refine wp_seq (wp_mono (vcg_sound lx x _ σ a w ex hok.1 h1 hs) ?_)
    rintro e a' w' ⟨σ',hs',hq⟩
    cases e with
    | normal =>
      obtain ⟨σ2,he2,hI⟩:=hq
      exact vcg_sound ly y Q σ2 a' w' ey hok.2 (h2 σ2 hI) (he2 _ _ _ hs')
    | _=>exact ⟨σ',hs',hq⟩
  | .cond r lx ly,c0,Q,σ,a,w,he,hok,h,hs=>by
    obtain ⟨c,x,y,rfl,rfl,ex,ey⟩:=trC_cond he
    simp only [trC,codeOk,Bool.and_eq_true] at hok
    have hc:∃ b,a.eval c = .bool b∧(b=true→vcg P lx Q σ)∧(b=false→vcg P ly Q σ):=by
      obtain ⟨g,hs⟩:=hs
      have hr:=rep_rd hs.tm c
      simp only [vcg,condV] at h
      generalize (rdOf c).get σ.tm=C at hr h
      cases C with
      | bool b=>exact ⟨b,hr.bool_inv,(fun e=>by subst e;exact h),(fun e=>by subst e;exact h)⟩
      | _=>exact h.elim
    obtain ⟨b,hb,h1,h2⟩:=hc
    exact wp_cond_split hb (fun e=>vcg_sound lx x Q σ a w ex hok.1 (h1 e) hs) (fun e=>vcg_sound ly y Q σ a w ey hok.2 (h2 e) hs)
  | .block id lx,c0,Q,σ,a,w,he,hok,h,hs=>by
    obtain ⟨x,rfl,ex⟩:=trC_block he
    simp only [trC,codeOk] at hok
    refine wp_block (wp_mono (vcg_sound lx x _ σ a w ex hok h hs) ?_)
    rintro e a' w' ⟨σ',hs',hq⟩
    cases e with
    | exit i =>
      simp only [blockQ] at hq
      simp only [Exit.inBlock]
      split
      · rename_i e;rw [if_pos e] at hq;exact ⟨σ',hs',hq⟩
      · rename_i e;rw [if_neg e] at hq;exact ⟨σ',hs',hq⟩
    | _=>exact ⟨σ',hs',hq⟩
  | .loop lx,c0,Q,σ,a,w,he,hok,h,hs=>by
    obtain ⟨x,rfl,ex⟩:=trC_loop he
    simp only [trC,codeOk] at hok
    obtain ⟨I,⟨n,σ0,hle,h0⟩,hround⟩:=h
    intro b k cs
    have key:∀ n (a:Act) (w:World),(∃ σ,Sim E σ a w∧I n σ) →
        ∃ e a' w',simQ E Q e a' w'∧Arrives P (lone (b.at a (.code x :: .inLoop x::k)) cs w) b k cs e a' w':=by
      intro n
      induction n using Nat.strongRecOn with
      | _ n ih =>
        rintro a w ⟨σ1,hs1,hI⟩
        obtain ⟨e,a₁,w₁,⟨σ2,hs2,hq⟩,harr⟩:=vcg_sound lx x _ σ1 a w ex hok (hround n σ1 hI) hs1 b (.inLoop x::k) cs
        cases e with
        | normal =>
          obtain ⟨m,σ3,hlt,hle3,hI3⟩:=hq
          obtain ⟨e₂,a₂,w₂,hq₂,harr₂⟩:=ih m hlt a₁ w₁ ⟨σ3,hle3 _ _ _ hs2,hI3⟩
          exact ⟨e₂,a₂,w₂,hq₂,.of_steps (Steps.trans harr (.one step_inLoop)) harr₂⟩
        | exit id=>exact ⟨_,a₁,w₁,⟨σ2,hs2,hq⟩,.pass (x:=.inLoop x) rfl (fun _ _=>.inl (by simp)) harr⟩
        | goto l=>exact ⟨_,a₁,w₁,⟨σ2,hs2,hq⟩,.pass (x:=.inLoop x) rfl (fun _ _=>.inl (by simp)) harr⟩
        | ret=>exact ⟨_,a₁,w₁,⟨σ2,hs2,hq⟩,.pass (x:=.inLoop x) rfl (fun _ _=>.inl (by simp)) harr⟩
        | panic ch=>exact ⟨_,a₁,w₁,⟨σ2,hs2,hq⟩,.pass (x:=.inLoop x) rfl (fun _ _=>.inl (by simp)) harr⟩
        | outgrown=>exact ⟨_,a₁,w₁,⟨σ2,hs2,hq⟩,.pass (x:=.inLoop x) rfl (fun _ _=>.inl (by simp)) harr⟩
    obtain ⟨e,a',w',hq,harr⟩:=key n a w ⟨σ0,hle _ _ _ hs,h0⟩
    exact ⟨e,a',w',hq,.of_steps (.one step_loop) harr⟩
end
end Go.Lg

namespace Go.Lg
open Go Go.RowKit
inductive LRV where
  | tmp (t:Nat)
  | cell (t:Nat) (agg:Bool) (n:Nat)
def trRv (P:Program):ResultVar→Option LRV
  | .tmp t=>if t<HB then some (.tmp t) else none
  | .cell t T=>do
    let n ← szT P T
    let g ← aggOf P T
    if t<HB then pure (.cell t g n) else none
def trRs (P:Program) (fn:Func):Option (List LRV):=fn.results.toList.mapM (trRv P)
def fnData (P:Program) (f:FuncId):Option (Nat × LC × List LRV):=do
  let fn ← P.funcs[f]?
  let c ← fn.body
  let rs ← trRs P fn
  if entersOk P f && (decide (fn.ntmps≤HB) && codeOk P fn.ntmps c (trC P c)) then pure (fn.ntmps,trC P c,rs) else none
def rval (σ:St):LRV→Option V
  | .tmp t=>some (σ.tm t)
  | .cell t agg n=>match lload agg n σ.H (σ.tm t) with
    | .A _ v=>some v
    | _=>none
def rvals (σ:St):List LRV→Option V
  | [x]=>rval σ x
  | xs=>(xs.mapM (rval σ)).map V.tup
def argTm (args:List V):Nat→V:=fun t=>args.getD t .junk
def noH:Heap:=fun _=>none
def noC:Nat→Nat:=fun _=>0
section
variable {P:Program} {g:Gh} {E:Env} {σ:St} {a:Act} {w:World}
theorem rval_run (hs:SimG E g σ a w) {x:ResultVar} {y:LRV} {v:V} (hx:trRv P x=some y) (hv:rval σ y=some v) :
    ∃ u,(match x with
      | .tmp t=>pure (a.tmps.getD t undef)
      | .cell b t=>do loadVar t (← asAddr (a.tmps.getD b undef)):Sem Value).run P w = .ok u w∧Rep g w u v:=by
  cases x with
  | tmp t =>
    simp only [trRv] at hx
    split at hx
    · rename_i hb
      cases hx
      cases hv
      have:=hs.tm t
      rw [slotV_lo hb] at this
      exact ⟨_,rfl,this⟩
    · cases hx
  | cell t T =>
    simp only [trRv,Option.bind_eq_bind,Option.bind_eq_some_iff] at hx
    obtain ⟨n,hn,agg,hagg,hy⟩:=hx
    split at hy
    case isFalse=>cases hy
    rename_i hb
    cases hy
    simp only [rval] at hv
    have ht:=hs.tm t
    rw [slotV_lo hb] at ht
    have hok:=load_pure (P:=P) hs hn hagg ht
    generalize hl:lload agg n σ.H (σ.tm t)=L at hv hok
    cases L with
    | A pre v1 =>
      simp only [Option.some.injEq] at hv
      subst hv
      have hpre:pre:=by
        generalize hX:σ.tm t=X at hl
        cases X with
        | ip cs off =>
          simp only [lload,LRes.ofOpt] at hl
          split at hl
          · cases hl;trivial
          · cases hl
        | mp key gen off =>
          simp only [lload] at hl
          split at hl
          · split at hl
            · simp only [LRes.ofOpt] at hl
              split at hl
              · cases hl;trivial
              · cases hl
            · cases hl
          · cases hl
        | _=>cases hl
      have hptr:∃ ad,a.tmps.getD t undef = .pointer (some ad):=by
        generalize σ.tm t=X at hl ht
        cases X with
        | ip cs off=>obtain ⟨b,o,us,T,fz,e,_⟩:=ht.ip_inv;exact ⟨_,e⟩
        | mp key gen off=>obtain ⟨b,cap,_,e⟩:=ht.mp_inv;exact ⟨_,e⟩
        | _=>cases hl
      obtain ⟨ad,had⟩:=hptr
      obtain ⟨u,hr,hrep⟩:=hok hpre
      rw [had] at hr
      have hla:(Instr.loadAt T (.pointer (some ad)))=loadVar T ad:=rfl
      rw [hla] at hr
      exact ⟨u,by simp only [had,asAddr];simpa using hr,hrep⟩
    | _=>cases hv
theorem rvals_run (hs:SimG E g σ a w) {fn:Func} {rs:List LRV} {v:V} (hrs:trRs P fn=some rs) (hv:rvals σ rs=some v) :
    ∃ u,(results fn a.tmps).run P w = .ok u w∧Rep g w u v:=by
  have all:∀ (xs:List ResultVar) (rs:List LRV) (vs:List V),xs.mapM (trRv P)=some rs→rs.mapM (rval σ)=some vs →
      ∃ us:List Value,(xs.mapM (fun
        | .tmp t=>pure (a.tmps.getD t undef)
        | .cell b t=>do loadVar t (← asAddr (a.tmps.getD b undef)):ResultVar→Sem Value)).run P w = .ok us w∧us.length=vs.length∧∀ (j:Nat) (u:Value) (c:V),us[j]? = some u→vs[j]? = some c→Rep g w u c:=by
    intro xs
    induction xs with
    | nil =>
      intro rs vs h1 h2
      simp at h1;subst h1
      simp at h2;subst h2
      exact ⟨[],by simp,rfl,fun j u c h=>by simp at h⟩
    | cons x xs ih =>
      intro rs vs h1 h2
      rw [List.mapM_cons] at h1
      simp only [Option.bind_eq_bind,Option.bind_eq_some_iff] at h1
      obtain ⟨y,hy,rs',hrs',h1⟩:=h1
      cases h1
      rw [List.mapM_cons] at h2
      simp only [Option.bind_eq_bind,Option.bind_eq_some_iff] at h2
      obtain ⟨v,hv,vs',hvs',h2⟩:=h2
      cases h2
      obtain ⟨u,hu1,hu2⟩:=rval_run hs hy hv
      obtain ⟨us,hus,hl,hr⟩:=ih rs' vs' hrs' hvs'
      refine ⟨u::us,?_,by simp [hl],fun j u' c hu' hc=>?_⟩
      · rw [List.mapM_cons,Sem.run_bind,hu1,Result.andThen_ok,Sem.run_bind,hus,Result.andThen_ok];rfl
      · cases j with
        | zero=>simp at hu' hc;subst hu' hc;exact hu2
        | succ j=>exact hr j u' c hu' hc
  unfold trRs at hrs
  have fin:∀ vs,rs.mapM (rval σ)=some vs→∃ us:List Value,us.length=vs.length∧(∀ (j:Nat) (u:Value) (c:V),us[j]? = some u→vs[j]? = some c→Rep g w u c) ∧
      (results fn a.tmps).run P w = .ok (if h:us.toArray.size=1 then us.toArray[0] else .tuple us.toArray) w:=by
    intro vs hvs
    obtain ⟨us,hus,hl,hr⟩:=all _ _ _ hrs hvs
    refine ⟨us,hl,hr,?_⟩
    unfold results
    rw [Sem.run_bind,Array.mapM_eq_mapM_toList,Sem.run_map]
    erw [hus]
    rfl
  have many:∀ rs',rs=rs'→rs'.length≠1→(rs'.mapM (rval σ)).map V.tup=some v→∃ u,(results fn a.tmps).run P w = .ok u w∧Rep g w u v:=by
    intro rs' e hne h
    subst e
    rw [Option.map_eq_some_iff] at h
    obtain ⟨vs,hvs,rfl⟩:=h
    obtain ⟨us,hl,hr,hrun⟩:=fin vs hvs
    have hlen:vs.length=rs.length:=(mapM_spec hvs).1
    rw [dif_neg (by simp;omega)] at hrun
    exact ⟨_,hrun,.tup _ _ (by simpa using hl) fun j u c hu hc=>hr j u c (by simpa using hu) hc⟩
  cases rs with
  | nil=>exact many [] rfl (by simp) hv
  | cons y r =>
    cases r with
    | nil =>
      have hvs:[y].mapM (rval σ)=some [v]:=by
        simp only [rvals] at hv
        simp [List.mapM_cons,hv]
      obtain ⟨us,hl,hr,hrun⟩:=fin [v] hvs
      match us,hl with
      | [u],_ =>
        rw [dif_pos (by simp)] at hrun
        exact ⟨u,by simpa using hrun,hr 0 u v rfl rfl⟩
    | cons y2 r=>exact many _ rfl (by simp) hv
def retK (rs:List LRV) (R:V→St→Prop):Exit→St→Prop
  | .normal,σ | .ret,σ=>∃ v,rvals σ rs=some v∧R v σ
  | _,_=>False
theorem fn_core {f:FuncId} {args:List V} {N:Nat} {lc:LC} {rs:List LRV} {R:V→St→Prop} (hf:fnData P f=some (N,lc.erase,rs)) (hn:args.length≤N)
    (h:vcg P lc (retK rs R) ⟨argTm args,noH,noC⟩):entersOk P f=true∧∀ (imm:Nat→Prop) (w:World) (vs:Array Value),Imm0 P imm w→vs.size=args.length →
    (∀ (j:Nat) (u:Value) (c:V),vs[j]? = some u→args[j]? = some c→RepI imm w u c) →
    Calls P f vs w fun e w'=>∃ n g σ' a' u v,SimG ⟨w.heap.size,n,w,imm,fun _=>False,fun _ _=>none,fun _=>undef⟩ g σ' a' w'∧Rep g w' u v∧R v σ'∧e = .returned u:=by
  unfold fnData at hf
  simp only [Option.bind_eq_bind,Option.bind_eq_some_iff] at hf
  obtain ⟨fn,hfn,c,hc,rs',hrs,hf⟩:=hf
  split at hf
  case isFalse=>cases hf
  rename_i hchk
  have hf:=Option.some.inj hf
  injection hf with e1 e2
  injection e2 with he e3
  obtain rfl:=e3.symm
  subst e1
  simp only [Bool.and_eq_true] at hchk
  obtain ⟨hen,hnt,hok⟩:=hchk
  have hnt:fn.ntmps≤HB:=of_decide_eq_true hnt
  refine ⟨hen,fun imm w vs himm hsz hargs=>?_⟩
  refine calls_of_wp hfn hc ?_
  let E:Env:=⟨w.heap.size,fn.ntmps,w,imm,fun _=>False,fun _ _=>none,fun _=>undef⟩
  haveI:EOk P E:=EOk.start himm.2 _ _ _ _
  have hs:Sim E ⟨argTm args,noH,noC⟩ { tmps:=vs++Array.replicate (fn.ntmps - vs.size) undef,defers:=[] } w:=by
    refine ⟨⟨imm,fun _ _=>none⟩,.refl _ _ _,Nat.le_refl _,⟨by simp [E];omega,hnt⟩,rfl,fun t=>?_,himm.1,fun b h=>h,fun b _ h=>h,(fun k o h=>by cases h),(fun k k' o o' b h=>by cases h),fun s n _=>⟨rfl,fun _=>rfl⟩,fun _ _ _ _ h=>h⟩
    simp only [argTm]
    by_cases ht:t<args.length
    · have ht':t<vs.size:=by omega
      rw [slotV_lo (by omega)]
      have e1:(vs++Array.replicate (fn.ntmps - vs.size) undef).getD t undef=vs[t]:=by
        simp [Array.getD_eq_getD_getElem?,Array.getElem?_append,ht']
      have e2:args.getD t .junk=args[t]:=by simp [ht]
      rw [e1,e2]
      exact .imm _ _ (hargs t _ _ (Array.getElem?_eq_getElem ht') (List.getElem?_eq_getElem ht))
    · have e2:args.getD t .junk = .junk:=by simp [ht]
      rw [e2];exact .junk _ _ _
  refine wp_mono (vcg_sound lc c _ _ _ w (E:=E) he.symm hok h hs) ?_
  have fin:∀ (a':Act) (w':World) (σ':St),Sim E σ' a' w'→(∃ v,rvals σ' rs=some v∧R v σ') →
      a'.defers=[]∧∃ v,(results fn a'.tmps).run P w' = .ok v w'∧∃ n g σ1 a1 u v',SimG ⟨w.heap.size,n,w,imm,fun _=>False,fun _ _=>none,fun _=>undef⟩ g σ1 a1 w'∧Rep g w' u v'∧R v' σ1∧Ending.returned v = .returned u:=by
    rintro a' w' σ' ⟨g,hs'⟩ ⟨v,hv,hR⟩
    obtain ⟨u,hu,hrep⟩:=rvals_run hs' hrs hv
    exact ⟨hs'.defers,u,hu,fn.ntmps,g,σ',a',u,v,hs',hrep,hR,rfl⟩
  rintro e a' w' ⟨σ',hs',hq⟩
  cases e with
  | normal=>exact fin a' w' σ' hs' hq
  | ret=>exact fin a' w' σ' hs' hq
  | _=>exact hq.elim
def callTm (args:List V) (tm:Nat→V):Nat→V:=fun t=>if t<HB then args.getD t .junk else if (t - HB) % 2=0 then (if (t - HB) / 2<HB then tm ((t - HB) / 2) else .junk) else tm (HB+(t - HB) / 2)
def St.call (σ:St) (args:List V):St:=⟨callTm args σ.tm,σ.H,σ.cnt⟩
def backTm (tm:Nat→V):Nat→V:=fun t=>if t<HB then tm (HB+2*t) else tm (HB+(2*(t - HB)+1))
def St.back (σ:St):St:=⟨backTm σ.tm,σ.H,σ.cnt⟩
theorem pst_intro {f:FuncId} {args:List V} {σ0:St} {N:Nat} {lc:LC} {rs:List LRV} {R:V→St→Prop} (hf:fnData P f=some (N,lc.erase,rs)) (hn:args.length≤N)
    (h:vcg P lc (retK rs fun v σ1=>R v σ1.back) (σ0.call args)):PSt P f args σ0 R:=by
  unfold fnData at hf
  simp only [Option.bind_eq_bind,Option.bind_eq_some_iff] at hf
  obtain ⟨fn,hfn,c,hc,rs',hrs,hf⟩:=hf
  split at hf
  case isFalse=>cases hf
  rename_i hchk
  have hf:=Option.some.inj hf
  injection hf with e1 e2
  injection e2 with he e3
  obtain rfl:=e3.symm
  subst e1
  simp only [Bool.and_eq_true] at hchk
  obtain ⟨hen,hnt,hok⟩:=hchk
  have hnt:fn.ntmps≤HB:=of_decide_eq_true hnt
  refine ⟨hen,fun E0 hE0 g0 a0 w vs hs0 hsz hargs=>?_⟩
  refine calls_of_wp hfn hc ?_
  let E:Env:={ E0 with N:=fn.ntmps,up:=fun k=>if k % 2=0 then a0.tmps.getD (k / 2) undef else E0.up (k / 2) }
  haveI:EOk P E:=⟨hE0.ok⟩
  have hs:Sim E (σ0.call args) { tmps:=vs++Array.replicate (fn.ntmps - vs.size) undef,defers:=[] } w:=by
    refine ⟨g0,hs0.below,hs0.sizeB,⟨by simp [E];omega,hnt⟩,rfl,fun t=>?_,hs0.immlt,hs0.imm0,hs0.immB,hs0.obj,hs0.apart,hs0.fresh,hs0.ref0⟩
    simp only [St.call,callTm]
    by_cases hb:t<HB
    · rw [if_pos hb,slotV_lo hb]
      by_cases ht:t<args.length
      · have ht':t<vs.size:=by omega
        have e1:(vs++Array.replicate (fn.ntmps - vs.size) undef).getD t undef=vs[t]:=by
          simp [Array.getD_eq_getD_getElem?,Array.getElem?_append,ht']
        have e2:args.getD t .junk=args[t]:=by simp [ht]
        rw [e1,e2]
        exact hargs t _ _ (Array.getElem?_eq_getElem ht') (List.getElem?_eq_getElem ht)
      · have e2:args.getD t .junk = .junk:=by simp [ht]
        rw [e2];exact .junk _ _ _
    · obtain ⟨k,rfl⟩:∃ k,t=HB+k:=⟨t - HB,by omega⟩
      rw [if_neg hb,slotV_hi,Nat.add_sub_cancel_left]
      simp only [E]
      by_cases h2:k % 2=0
      · rw [if_pos h2,if_pos h2]
        split
        · rename_i h3
          have:=hs0.tm (k / 2)
          rw [slotV_lo h3] at this
          exact this
        · exact .junk _ _ _
      · rw [if_neg h2,if_neg h2]
        have:=hs0.tm (HB+k / 2)
        rw [slotV_hi] at this
        exact this
  refine wp_mono (vcg_sound lc c _ _ _ w (E:=E) he.symm hok h hs) ?_
  have fin:∀ (a':Act) (w':World) (σ':St),Sim E σ' a' w'→(∃ v,rvals σ' rs=some v∧R v σ'.back) →
      a'.defers=[]∧∃ v,(results fn a'.tmps).run P w' = .ok v w'∧∃ u v' σ1 g',Ending.returned v = .returned u∧SimG E0 g' σ1 a0 w'∧Rep g' w' u v'∧R v' σ1:=by
    rintro a' w' σ' ⟨g,hs'⟩ ⟨v,hv,hR⟩
    obtain ⟨u,hu,hrep⟩:=rvals_run hs' hrs hv
    refine ⟨hs'.defers,u,hu,u,v,σ'.back,g,rfl,⟨hs'.below,hs'.sizeB,hs0.size,hs0.defers,fun t=>?_,hs'.immlt,hs'.imm0,hs'.immB,hs'.obj,hs'.apart,hs'.fresh,hs'.ref0⟩,hrep,hR⟩
    simp only [St.back,backTm]
    by_cases hb:t<HB
    · rw [if_pos hb,slotV_lo hb]
      have:=hs'.tm (HB+2*t)
      rw [slotV_hi] at this
      simp only [E] at this
      rw [if_pos (by omega),show 2*t / 2=t by omega] at this
      exact this
    · obtain ⟨k,rfl⟩:∃ k,t=HB+k:=⟨t - HB,by omega⟩
      rw [if_neg hb,slotV_hi,Nat.add_sub_cancel_left]
      have:=hs'.tm (HB+(2*k+1))
      rw [slotV_hi] at this
      simp only [E] at this
      rw [if_neg (by omega),show (2*k+1) / 2=k by omega] at this
      exact this
  rintro e a' w' ⟨σ',hs',hq⟩
  cases e with
  | normal=>exact fin a' w' σ' hs' hq
  | ret=>exact fin a' w' σ' hs' hq
  | _=>exact hq.elim
theorem allImm_from {B N:Nat} {w₀:World} {imm:Nat→Prop} {g:Gh} {σ:St} {a:Act} {w:World} (hs:SimG ⟨B,N,w₀,imm,fun _=>False,fun _ _=>none,fun _=>undef⟩ g σ a w) (b:Nat) (hb:allImm g σ.H b):imm b∨(B≤b∧b<w.heap.size):=by
  have hlt:=allImm_lt hs b hb
  rcases Nat.lt_or_ge b B with hB|hB
  · left
    rcases hb with hb|⟨key,o,hk,hb⟩
    · exact hs.immB b hB hb
    · have:B≤b:=by
        rcases ((hs.obj key o hk).blk hb).2.2 with h|h
        · exact h
        · exact h.2.elim
      omega
  · exact .inr ⟨hB,hlt⟩
theorem pret_intro {f:FuncId} {args:List V} {r:V} {N:Nat} {lc:LC} {rs:List LRV} (hf:fnData P f=some (N,lc.erase,rs)) (hn:args.length≤N)
    (h:vcg P lc (retK rs fun v σ=>snap σ.H 8 v=r) ⟨argTm args,noH,noC⟩):PRet P f args r:=by
  obtain ⟨hen,hc⟩:=fn_core hf hn h
  refine ⟨hen,fun imm w vs h1 h2 h3=>(hc imm w vs h1 h2 h3).mono ?_⟩
  rintro e w' ⟨n,g,σ',a',u,v,hs',hrep,rfl,rfl⟩
  exact ⟨u,allImm g σ'.H,rfl,snap_rep hs' 8 hrep,hs'.below.below,fun b hb=>.inl (hs'.imm0 b hb),allImm_from hs'⟩
theorem PRetF.ret {f:FuncId} {args:List V} {r:V} (h:PRetF P f args r):PRet P f args r:=by
  refine ⟨h.1,fun imm w vs h1 h2 h3=>(h.2 imm w vs h1 h2 h3).mono ?_⟩
  rintro e w' ⟨v,imm',rfl,hv,hb,hi⟩
  exact ⟨v,fun b=>imm b∨imm' b,rfl,hv.mono (fun b h=>.inr h) (fun _ _=>rfl),hb,fun b h=>.inl h,fun b h=>h.imp id (hi b)⟩
def slOf:V→V
  | .e0=>.sl 0 []
  | v=>v
theorem RepI.slOf {imm:Nat→Prop} {w:World} {u:Value} {x:V} (h:RepI imm w u x):RepI imm w u (slOf x):=by
  cases x with
  | e0=>cases h with|e0 A=>exact .sl0 _ _
  | _=>exact h
def hdel (H:Heap) (k:Key):Heap:=fun x=>if x=k then none else H x
def ownR (esz n:Nat) (cs:List V) (v:V) (σ:St):Prop:=match v with
  | .msl key g off m=>match σ.H key with
    | some (.row g' esz' cs')=>(g' = g∧esz' = esz∧off=0∧m=n∧cs'.length=n*esz)∧cs=cs'.map (snap (hdel σ.H key) 8)
    | _=>False
  | _=>False
theorem pretM_intro {f:FuncId} {args:List V} {esz n:Nat} {cs:List V} {N:Nat} {lc:LC} {rs:List LRV} (hf:fnData P f=some (N,lc.erase,rs)) (hn:args.length≤N) (hlen:cs.length=n*esz)
    (h:vcg P lc (retK rs (ownR esz n cs)) ⟨argTm args,noH,noC⟩):PRetM P f args esz n cs:=by
  obtain ⟨hen,hc⟩:=fn_core hf hn h
  refine ⟨hen,hlen,fun imm w vs h1 h2 h3=>(hc imm w vs h1 h2 h3).mono ?_⟩
  rintro e w' ⟨n',g,σ',a',u,v,hs',hrep,hR,rfl⟩
  cases v with
  | msl key gen off m =>
    simp only [ownR] at hR
    split at hR
    case h_2=>exact hR.elim
    rename_i g' esz' cs' hk
    obtain ⟨⟨rfl,rfl,rfl,rfl,hl'⟩,rfl⟩:=hR
    obtain ⟨c,A,blk,cap,rfl,q1,q2,q3,q4,q5⟩:=hrep.msl_inv
    obtain rfl:=q2 rfl
    obtain ⟨blk',cap',r1,r2,r3⟩:=hs'.obj key _ hk
    rw [q1] at r1;cases r1
    have hle:St.le ⟨σ'.tm,hdel σ'.H key,σ'.cnt⟩ σ':=⟨fun _=>.inl rfl,fun k o h=>by
      simp only [hdel] at h
      split at h
      · cases h
      · exact h,fun _=>Nat.le_refl _⟩
    have hsd:=hs'.le hle
    refine ⟨A,c,blk,allImm g (hdel σ'.H key),rfl,hs'.below.below,fun b hb=>.inl (hs'.imm0 b hb),fun b hb=>allImm_from hsd b hb,q3,fun b hb hc=>by rw [q4 b hb hc],?_⟩
    cases blk with
    | none=>exact ⟨by rw [r3.1];rfl,r3.2⟩
    | some b =>
      obtain ⟨p1,p2,p3,us,T,fz,t1,t2,t3,t4,t5⟩:=r3
      refine ⟨(by
        rcases p1 with h|h
        · exact h
        · exact h.2.elim),p2,?_,us,T,fz,t1,t2,by simpa using t3,t4,fun j u x hu hx=>?_⟩
      · rintro (hb|⟨k,o,hko,hb⟩)
        · exact p3 hb
        · have hk2:σ'.H k=some o:=hle.H k o hko
          have:=hs'.apart k key o _ b hk2 hk hb (by simp [blkOf,q1])
          subst this
          simp [hdel] at hko
      · rw [List.getElem?_map,Option.map_eq_some_iff] at hx
        obtain ⟨x0,hx0,rfl⟩:=hx
        exact snap_rep hsd 8 (t5 j u x0 hu hx0)
  | _=>exact hR.elim
end
end Go.Lg

namespace Go.Lg
open Go Go.RowKit
def hmk:List (Key × LObj)→Heap
  | [],_=>none
  | (k,o)::r,x=>if x=k then some o else hmk r x
theorem tmk_nil (t:Nat):tmk [] t = .junk:=rfl
theorem tmk_cons (d:Nat) (v:V) (r:List (Nat × V)) (t:Nat):tmk ((d,v)::r) t=if t=d then v else tmk r t:=rfl
theorem hmk_nil (k:Key):hmk [] k=none:=rfl
theorem hmk_cons (k:Key) (o:LObj) (r:List (Key × LObj)) (x:Key):hmk ((k,o)::r) x=if x=k then some o else hmk r x:=rfl
theorem tupd_app (f:Nat→V) (d:Nat) (v:V) (t:Nat):tupd f d v t=if t=d then v else f t:=rfl
theorem hupd_app (H:Heap) (k:Key) (o:LObj) (x:Key):hupd H k o x=if x=k then some o else H x:=rfl
theorem cupd_app (c:Nat→Nat) (s x:Nat):cupd c s x=if x=s then c s+1 else c x:=rfl
theorem callTm_app (args:List V) (tm:Nat→V) (t:Nat):callTm args tm t=if t<100000 then args.getD t .junk else if (t - 100000) % 2=0 then (if (t - 100000) / 2<100000 then tm ((t - 100000) / 2) else .junk) else tm (100000+(t - 100000) / 2):=rfl
theorem backTm_app (tm:Nat→V) (t:Nat):backTm tm t=if t<100000 then tm (100000+2*t) else tm (100000+(2*(t - 100000)+1)):=rfl
theorem argTm_app (args:List V) (t:Nat):argTm args t=args.getD t .junk:=rfl
theorem noH_app (k:Key):noH k=none:=rfl
theorem noC_app (s:Nat):noC s=0:=rfl
theorem dput_some (f:Nat→V) (d:Nat) (v:V):dput f (some d) v=tupd f d v:=rfl
theorem dput_none (f:Nat→V) (v:V):dput f none v=f:=rfl
section
variable {P:Program} {σ:St} {s:Nat} {d:Option Nat} {K X Y:St→Prop}
theorem vres_A {pre:Prop} {v:V}:vres P σ s d K (.A pre v)=(pre∧K (σ.put d v)):=rfl
theorem vres_C {pre:Prop} {o:LObj} {mk:Key→V}:vres P σ s d K (.C pre o mk)=(pre∧K (St.put ⟨σ.tm,hupd σ.H (s,σ.cnt s) o,cupd σ.cnt s⟩ d (mk (s,σ.cnt s)))):=rfl
theorem vres_D {pre:Prop} {v:V} {H:Heap}:vres P σ s d K (.D pre v H)=(pre∧K (St.put ⟨σ.tm,H,σ.cnt⟩ d v)):=rfl
theorem vres_call {pre:Prop} {f:FuncId} {a b:List V}:vres P σ s d K (.call pre f a b)=(pre∧callV P f a b d K σ):=rfl
theorem vres_bad:vres P σ s d K .bad=False:=rfl
def gdV (P:Program) (s:Nat) (d:Option Nat) (op:IOp) (b:Bool) (K:St→Prop) (σ:St):Prop :=
  match b with
  | true=>vres P σ s d K (lop op σ.tm σ.H)
  | false=>K (σ.put d (.tup []))
theorem gdV_true {op:IOp}:gdV P s d op true K σ=vres P σ s d K (lop op σ.tm σ.H):=rfl
theorem gdV_false {op:IOp}:gdV P s d op false K σ=K (σ.put d (.tup [])):=rfl
theorem gdV_of {op:IOp} {b:Bool} (h1:b=true→vres P σ s d K (lop op σ.tm σ.H)) (h2:b=false→K (σ.put d (.tup []))):gdV P s d op b K σ:=by
  cases b
  · exact h2 rfl
  · exact h1 rfl
def vguard (P:Program) (s:Nat) (d:Option Nat) (op:IOp) (want:Bool) (K:St→Prop) (σ:St) (v:V):Prop :=
  match v with
  | .bool b=>gdV P s d op (b == want) K σ
  | .tup []=>K (σ.put d (.tup []))
  | _=>False
theorem vguard_bool {op:IOp} {want b:Bool}:vguard P s d op want K σ (.bool b)=gdV P s d op (b == want) K σ:=rfl
theorem vguard_skip {op:IOp} {want:Bool}:vguard P s d op want K σ (.tup [])=K (σ.put d (.tup [])):=rfl
theorem vstep_none {op:IOp}:vstep P s ⟨d,op,none⟩ K σ=vres P σ s d K (lop op σ.tm σ.H):=rfl
theorem vstep_some {op:IOp} {t:Nat} {want:Bool}:vstep P s ⟨d,op,some (t,want)⟩ K σ=vguard P s d op want K σ (σ.tm t):=by
  simp only [vstep,gd,vguard]
  cases σ.tm t with
  | bool b=>simp only [gdV];cases b<;>cases want<;>rfl
  | tup l=>cases l<;>rfl
  | _=>rfl
theorem vresM_A {pre:Prop} {v:V}:vresM P σ s d K (.A pre v)=(pre∧K (σ.put d v)):=rfl
theorem vresM_C {pre:Prop} {o:LObj} {mk:Key→V}:vresM P σ s d K (.C pre o mk)=(pre∧K (St.put ⟨σ.tm,hupd σ.H (s,σ.cnt s) o,cupd σ.cnt s⟩ d (mk (s,σ.cnt s)))):=rfl
theorem vresM_D {pre:Prop} {v:V} {H:Heap}:vresM P σ s d K (.D pre v H)=(pre∧K (St.put ⟨σ.tm,H,σ.cnt⟩ d v)):=rfl
theorem vresM_call {pre:Prop} {f:FuncId} {a b:List V}:vresM P σ s d K (.call pre f a b)=(pre∧callX P s f a b d K σ):=rfl
theorem vresM_bad:vresM P σ s d K .bad=False:=rfl
def gdVM (P:Program) (s:Nat) (d:Option Nat) (op:IOp) (b:Bool) (K:St→Prop) (σ:St):Prop :=
  match b with
  | true=>vresM P σ s d K (lop op σ.tm σ.H)
  | false=>K (σ.put d (.tup []))
theorem gdVM_true {op:IOp}:gdVM P s d op true K σ=vresM P σ s d K (lop op σ.tm σ.H):=rfl
theorem gdVM_false {op:IOp}:gdVM P s d op false K σ=K (σ.put d (.tup [])):=rfl
theorem gdVM_of {op:IOp} {b:Bool} (h1:b=true→vresM P σ s d K (lop op σ.tm σ.H)) (h2:b=false→K (σ.put d (.tup []))):gdVM P s d op b K σ:=by
  cases b
  · exact h2 rfl
  · exact h1 rfl
theorem gdVMn_of {op:IOp} {b:Bool} (h1:b=false→vresM P σ s d K (lop op σ.tm σ.H)) (h2:b=true→K (σ.put d (.tup []))):gdVM P s d op (!b) K σ:=by
  cases b
  · exact h1 rfl
  · exact h2 rfl
theorem gdVn_of {op:IOp} {b:Bool} (h1:b=false→vres P σ s d K (lop op σ.tm σ.H)) (h2:b=true→K (σ.put d (.tup []))):gdV P s d op (!b) K σ:=by
  cases b
  · exact h1 rfl
  · exact h2 rfl
def vguardM (P:Program) (s:Nat) (d:Option Nat) (op:IOp) (want:Bool) (K:St→Prop) (σ:St) (v:V):Prop :=
  match v with
  | .bool b=>gdVM P s d op (b == want) K σ
  | .tup []=>K (σ.put d (.tup []))
  | _=>False
theorem vguardM_bool {op:IOp} {want b:Bool}:vguardM P s d op want K σ (.bool b)=gdVM P s d op (b == want) K σ:=rfl
theorem vguardM_skip {op:IOp} {want:Bool}:vguardM P s d op want K σ (.tup [])=K (σ.put d (.tup [])):=rfl
theorem vstepM_none {op:IOp}:vstepM P s ⟨d,op,none⟩ K σ=vresM P σ s d K (lop op σ.tm σ.H):=rfl
theorem vstepM_some {op:IOp} {t:Nat} {want:Bool}:vstepM P s ⟨d,op,some (t,want)⟩ K σ=vguardM P s d op want K σ (σ.tm t):=by
  simp only [vstepM,gd,vguardM]
  cases σ.tm t with
  | bool b=>simp only [gdVM];cases b<;>cases want<;>rfl
  | tup l=>cases l<;>rfl
  | _=>rfl
theorem gdD_of {op:IOp} {p:Prop} [Decidable p] (h1:p→vresM P σ s d K (lop op σ.tm σ.H)) (h2:¬ p→K (σ.put d (.tup []))):gdVM P s d op (decide p) K σ :=
  gdVM_of (fun h=>h1 (of_decide_eq_true h)) (fun h=>h2 (of_decide_eq_false h))
theorem gdDn_of {op:IOp} {p:Prop} [Decidable p] (h1:¬ p→vresM P σ s d K (lop op σ.tm σ.H)) (h2:p→K (σ.put d (.tup []))):gdVM P s d op (!decide p) K σ :=
  gdVMn_of (fun h=>h1 (of_decide_eq_false h)) (fun h=>h2 (of_decide_eq_true h))
theorem gpD_of {op:IOp} {p:Prop} [Decidable p] (h1:p→vres P σ s d K (lop op σ.tm σ.H)) (h2:¬ p→K (σ.put d (.tup []))):gdV P s d op (decide p) K σ :=
  gdV_of (fun h=>h1 (of_decide_eq_true h)) (fun h=>h2 (of_decide_eq_false h))
theorem gpDn_of {op:IOp} {p:Prop} [Decidable p] (h1:¬ p→vres P σ s d K (lop op σ.tm σ.H)) (h2:p→K (σ.put d (.tup []))):gdV P s d op (!decide p) K σ :=
  gdVn_of (fun h=>h1 (of_decide_eq_false h)) (fun h=>h2 (of_decide_eq_true h))
theorem condVn_of {b:Bool} (h1:b=false→X σ) (h2:b=true→Y σ):condV (.bool (!b)) X Y σ:=by
  cases b
  · exact h1 rfl
  · exact h2 rfl
theorem condD_of {p:Prop} [Decidable p] (h1:p→X σ) (h2:¬ p→Y σ):condV (.bool (decide p)) X Y σ :=
  condV_of (fun h=>h1 (of_decide_eq_true h)) (fun h=>h2 (of_decide_eq_false h))
theorem condDn_of {p:Prop} [Decidable p] (h1:¬ p→X σ) (h2:p→Y σ):condV (.bool (!decide p)) X Y σ :=
  condVn_of (fun h=>h1 (of_decide_eq_false h)) (fun h=>h2 (of_decide_eq_true h))
theorem intBeq (a b:Int):(a == b)=decide (a=b):=by
  by_cases h:a=b<;>simp [h]
theorem intBne (a b:Int):(a != b) = !decide (a=b):=by
  by_cases h:a=b<;>simp [h]
theorem condV_true:condV (.bool true) X Y σ=X σ:=rfl
theorem condV_false:condV (.bool false) X Y σ=Y σ:=rfl
end
section
variable {P:Program} {σ:St} {Q:Exit→St→Prop} {K:St→Prop} {x y:LC}
def loopW (P:Program) (x:LC) (Q:Exit→St→Prop) (σ:St):Prop:=loopV (vcg P x) Q σ
theorem vcg_skip:vcg P .skip Q σ=Q .normal σ:=rfl
theorem vcg_reg {rid:Nat} {ops:List LOp}:vcg P (.reg rid ops) Q σ=vops P rid ops 0 (Q .normal) σ:=rfl
theorem vcg_regg {rid:Nat} {bs:List Nat} {ops:List LOp}:vcg P (.regg rid bs ops) Q σ=(lastB bs ops.length=true∧vopsL P rid ops 0 (Q .normal) σ):=rfl
theorem vcg_regh {k rid:Nat} {bs:List Nat} {ops:List LOp}:vcg P (.regh k rid bs ops) Q σ=(tailB bs k ops.length=true∧vopsH P rid k ops 0 (Q .normal) σ):=rfl
theorem vcg_regv {t:OT} {rid:Nat} {bs:List Nat} {ops:List LOp}:vcg P (.regv t rid bs ops) Q σ=(tOk bs ops.length t [] []=true∧vT P rid ops (Q .normal) t σ):=rfl
theorem vT_leaf {rid:Nat} {los:List LOp}:vT P rid los K .leaf σ=K σ:=rfl
theorem vT_none {rid:Nat} {los:List LOp}:vT P rid los K .none σ=True:=rfl
theorem vT_alt {rid i:Nat} {los:List LOp} {x y:OT}:vT P rid los K (.alt i x y) σ=(vstepM P (siteOf rid i) (loAt los i) (vT P rid los K x) σ∧vT P rid los K y σ):=rfl
theorem loAt_z {o:LOp} {os:List LOp}:loAt (o::os) 0=o:=rfl
theorem loAt_s {o:LOp} {os:List LOp} {n:Nat}:loAt (o::os) (n+1)=loAt os n:=rfl
theorem vopsH_z {rid i:Nat} {os:List LOp}:vopsH P rid 0 os i K σ=vopsM P rid os i K σ:=by cases os<;>rfl
theorem vopsH_cons {rid i k:Nat} {o:LOp} {os:List LOp}:vopsH P rid (k+1) (o::os) i K σ=vstep P (siteOf rid i) o (vopsH P rid k os (i+1) K) σ:=rfl
theorem vopsL_one {rid i:Nat} {o:LOp}:vopsL P rid [o] i K σ=vstepM P (siteOf rid i) o K σ:=rfl
theorem vopsL_cons {rid i:Nat} {o o':LOp} {os:List LOp}:vopsL P rid (o::o' :: os) i K σ=vstep P (siteOf rid i) o (vopsL P rid (o' :: os) (i+1) K) σ:=rfl
theorem vcg_regf {rid:Nat} {bs:List Nat} {ops:List LOp}:vcg P (.regf rid bs ops) Q σ=vops P rid ops 0 (Q .normal) σ:=rfl
theorem vcg_rego {rid:Nat} {ops:List LOp}:vcg P (.rego rid ops) Q σ=vopsM P rid ops 0 (Q .normal) σ:=rfl
theorem vcg_seq:vcg P (.seq x y) Q σ=vcg P x (thenQ (vcg P y Q) Q) σ:=rfl
theorem vcg_cond {c:Rd}:vcg P (.cond c x y) Q σ=condV (c.get σ.tm) (vcg P x Q) (vcg P y Q) σ:=rfl
theorem vcg_block {id:Nat}:vcg P (.block id x) Q σ=vcg P x (blockQ id Q) σ:=rfl
theorem vcg_loop:vcg P (.loop x) Q σ=loopW P x Q σ:=rfl
theorem vcg_exit {id:Nat}:vcg P (.exit id) Q σ=Q (.exit id) σ:=rfl
theorem vcg_ret:vcg P .ret Q σ=Q .ret σ:=rfl
theorem vcg_bad:vcg P .bad Q σ=False:=rfl
def joinW (P:Program) (x y:LC) (Q:Exit→St→Prop) (σ:St):Prop:=vcg P (.join x y) Q σ
theorem vcg_join:vcg P (.join x y) Q σ=joinW P x y Q σ:=rfl
theorem vcg_keep {ls:List Nat}:vcg P (.keep ls x) Q σ=vcg P x Q (σ.keep ls):=rfl
theorem vops_nil {rid i:Nat}:vops P rid [] i K σ=K σ:=rfl
theorem vops_cons {rid i:Nat} {o:LOp} {os:List LOp}:vops P rid (o::os) i K σ=vstep P (siteOf rid i) o (vops P rid os (i+1) K) σ:=rfl
theorem vopsM_nil {rid i:Nat}:vopsM P rid [] i K σ=K σ:=rfl
theorem vopsM_cons {rid i:Nat} {o:LOp} {os:List LOp}:vopsM P rid (o::os) i K σ=vstepM P (siteOf rid i) o (vopsM P rid os (i+1) K) σ:=rfl
theorem vcg_regb {rid:Nat} {ops:List (Bool × LOp)}:vcg P (.regb rid ops) Q σ=vopsB P rid ops 0 (Q .normal) σ:=rfl
theorem vopsB_nil {rid i:Nat}:vopsB P rid [] i K σ=K σ:=rfl
theorem vopsB_consF {rid i:Nat} {o:LOp} {os:List (Bool × LOp)}:vopsB P rid ((false,o)::os) i K σ=vstepM P (siteOf rid i) o (vopsB P rid os (i+1) K) σ:=rfl
theorem vopsB_consT {rid i:Nat} {o:LOp} {os:List (Bool × LOp)}:vopsB P rid ((true,o)::os) i K σ=vstepL P (siteOf rid i) o (vopsB P rid os (i+1) K) σ:=rfl
theorem vstepL_none {s:Nat} {d:Option Nat} {op:IOp}:vstepL P s ⟨d,op,none⟩ K σ=vres P σ s d K (litR op σ.tm):=rfl
theorem litR_bsl {n:Nat} {zs:List V} {ps:List (Nat × Nat × Rd)} {tm:Nat→V}:litR (.bsl n zs ps) tm=if n=0 then .bad else .C (partsOk tm zs.length ps) (.row 0 (zs.length / n) (fillL tm zs ps)) fun k=>.msl k 0 0 n:=rfl
theorem thenQ_normal:thenQ K Q .normal σ=K σ:=rfl
theorem thenQ_exit {id:Nat}:thenQ K Q (.exit id) σ=Q (.exit id) σ:=rfl
theorem thenQ_ret:thenQ K Q .ret σ=Q .ret σ:=rfl
theorem blockQ_normal {id:Nat}:blockQ id Q .normal σ=Q .normal σ:=rfl
theorem blockQ_exit {id i:Nat}:blockQ id Q (.exit i) σ=if i=id then Q .normal σ else Q (.exit i) σ:=rfl
theorem blockQ_ret {id:Nat}:blockQ id Q .ret σ=Q .ret σ:=rfl
theorem retK_normal {rs:List LRV} {R:V→St→Prop}:retK rs R .normal σ = ∃ v,rvals σ rs=some v∧R v σ:=rfl
theorem retK_ret {rs:List LRV} {R:V→St→Prop}:retK rs R .ret σ = ∃ v,rvals σ rs=some v∧R v σ:=rfl
theorem some_ex {v:V} {R:V→Prop}:(∃ u,some v=some u∧R u)=R v:=propext ⟨fun ⟨_,e,h⟩=>by cases e;exact h,fun h=>⟨v,rfl,h⟩⟩
end
theorem ofOpt_some (v:V):LRes.ofOpt (some v) = .A True v:=rfl
def tmOk (σ:St):List (Nat × V)→Prop
  | []=>True
  | (d,v)::r=>σ.tm d=v∧tmOk σ r
def hOk (σ:St):List (Key × LObj)→Prop
  | []=>True
  | (k,o)::r=>σ.H k=some o∧hOk σ r
theorem le_mk {σ:St} {l:List (Nat × V)} {hl:List (Key × LObj)} {c:Nat→Nat} (h1:tmOk σ l) (h2:hOk σ hl) (h3:∀ s,σ.cnt s≤c s):Ent σ ⟨tmk l,hmk hl,c⟩:=Ent.of_le {
  tm:=by
    intro t
    simp only []
    induction l with
    | nil=>exact .inr rfl
    | cons p l ih =>
      obtain ⟨d,v⟩:=p
      simp only [tmk]
      split
      · rename_i e;subst e;exact .inl h1.1.symm
      · exact ih h1.2
  H:=by
    intro k o h
    simp only [] at h
    induction hl with
    | nil=>cases h
    | cons p l ih =>
      obtain ⟨k',o'⟩:=p
      simp only [hmk] at h
      split at h
      · rename_i e;subst e;cases h;exact h2.1
      · exact ih h2.2 h
  cnt:=h3 }
theorem loop_intro {ι:Type} (I:ι→St) (C:ι→Prop) (m:ι→Nat) {body:(Exit→St→Prop)→St→Prop} {Q:Exit→St→Prop} {σ:St} (x0:ι) (h0:C x0) (hle:Ent σ (I x0))
    (hr:∀ x,C x→body (thenQ (fun σ2=>∃ y,C y∧m y<m x∧Ent σ2 (I y)) Q) (I x)) (hmono:∀ (Q1 Q2:Exit→St→Prop) σ,(∀ e σ,Q1 e σ→Q2 e σ)→body Q1 σ→body Q2 σ):loopV body Q σ:=by
  refine ⟨fun n σ=>∃ x,C x∧m x=n∧σ=I x,⟨m x0,I x0,hle,x0,h0,rfl,rfl⟩,?_⟩
  rintro n σ1 ⟨x,hx,rfl,rfl⟩
  refine hmono _ _ _ ?_ (hr x hx)
  intro e σ2 h
  cases e with
  | normal =>
    obtain ⟨y,hy,hlt,hle⟩:=h
    exact ⟨m y,I y,hlt,hle,y,hy,rfl,rfl⟩
  | _=>exact h
section
variable {P:Program}
theorem vstep_mono {s:Nat} {o:LOp} {K K':St→Prop} {σ:St} (hk:∀ σ,K σ→K' σ) (h:vstep P s o K σ):vstep P s o K' σ:=by
  rw [vstep_iff] at h ⊢
  obtain ⟨σ',h1,h2⟩:=h
  exact ⟨σ',h1,hk _ h2⟩
theorem vops_mono {rid:Nat}:∀ {os:List LOp} {i:Nat} {K K':St→Prop} {σ:St},(∀ σ,K σ→K' σ)→vops P rid os i K σ→vops P rid os i K' σ
  | [],_,_,_,_,hk,h=>hk _ h
  | _::_,_,_,_,_,hk,h=>vstep_mono (fun _ h=>vops_mono hk h) h
theorem vresM_mono {s:Nat} {d:Option Nat} {r:LRes} {K K':St→Prop} {σ:St} (hk:∀ σ,K σ→K' σ) (h:vresM P σ s d K r):vresM P σ s d K' r:=by
  cases r with
  | A pre v=>exact ⟨h.1,hk _ h.2⟩
  | C pre o mk=>exact ⟨h.1,hk _ h.2⟩
  | D pre v H'=>exact ⟨h.1,hk _ h.2⟩
  | call pre f a b =>
    obtain ⟨hp,⟨r,h1,h2,h3⟩|⟨e,n,cs,h1,h2,h3⟩|⟨k,g,n,ex,e,cs,rt,cs',h1,h2,h3,h4,h5,h6⟩|⟨R,h1,h2⟩⟩:=h
    · exact ⟨hp,.inl ⟨r,h1,h2,hk _ h3⟩⟩
    · exact ⟨hp,.inr (.inl ⟨e,n,cs,h1,h2,hk _ h3⟩)⟩
    · exact ⟨hp,.inr (.inr (.inl ⟨k,g,n,ex,e,cs,rt,cs',h1,h2,h3,h4,h5,hk _ h6⟩))⟩
    · exact ⟨hp,.inr (.inr (.inr ⟨R,h1,fun v σ' h=>hk _ (h2 v σ' h)⟩))⟩
  | bad=>exact h
theorem vstepM_mono {s:Nat} {o:LOp} {K K':St→Prop} {σ:St} (hk:∀ σ,K σ→K' σ) (h:vstepM P s o K σ):vstepM P s o K' σ:=by
  unfold vstepM at h ⊢
  split at h
  · exact vresM_mono hk h
  · exact hk _ h
  · exact h
theorem vopsM_mono {rid:Nat}:∀ {os:List LOp} {i:Nat} {K K':St→Prop} {σ:St},(∀ σ,K σ→K' σ)→vopsM P rid os i K σ→vopsM P rid os i K' σ
  | [],_,_,_,_,hk,h=>hk _ h
  | _::_,_,_,_,_,hk,h=>vstepM_mono (fun _ h=>vopsM_mono hk h) h
theorem vres_mono {s:Nat} {d:Option Nat} {r:LRes} {K K':St→Prop} {σ:St} (hk:∀ σ,K σ→K' σ) (h:vres P σ s d K r):vres P σ s d K' r:=by
  rw [vres_iff] at h ⊢
  obtain ⟨v,σ',h1,h2⟩:=h
  exact ⟨v,σ',h1,hk _ h2⟩
theorem vstepL_mono {s:Nat} {o:LOp} {K K':St→Prop} {σ:St} (hk:∀ σ,K σ→K' σ) (h:vstepL P s o K σ):vstepL P s o K' σ:=by
  unfold vstepL at h ⊢
  split at h
  · exact vres_mono hk h
  · exact h.elim
theorem vopsB_mono {rid:Nat}:∀ {os:List (Bool × LOp)} {i:Nat} {K K':St→Prop} {σ:St},(∀ σ,K σ→K' σ)→vopsB P rid os i K σ→vopsB P rid os i K' σ
  | [],_,_,_,_,hk,h=>hk _ h
  | (false,_)::_,_,_,_,_,hk,h=>vstepM_mono (fun _ h=>vopsB_mono hk h) h
  | (true,_)::_,_,_,_,_,hk,h=>vstepL_mono (fun _ h=>vopsB_mono hk h) h
theorem instV_mono {f:FuncId} {args:List V} {d:Option Nat} {K K':St→Prop} {σ:St} (hk:∀ σ,K σ→K' σ) (h:instV P f args d K σ):instV P f args d K' σ:=by
  obtain ⟨R,h1,h2⟩:=h
  exact ⟨R,h1,fun v σ' h=>hk _ (h2 v σ' h)⟩
theorem vstepC_mono {s:Nat} {o:LOp} {K K':St→Prop} {σ:St} (hk:∀ σ,K σ→K' σ) (h:vstepC P s o K σ):vstepC P s o K' σ:=by
  obtain ⟨σ',he,h|⟨hg,pre,f,args,sargs,hl,h⟩|h|⟨hg,⟨e,b,x,y,key,gen,q,n,m,cs,ys,h1,h2,h3,h4,h5,h6,h7,h8,k1,k2⟩|⟨x,es,h1,h2,k1⟩|⟨x,key,left,last,h1,h2,h3,k1,k2⟩|⟨x,key,left,p,h1,h2,h3,k1⟩⟩⟩:=h
  · exact ⟨σ',he,.inl (vstepM_mono hk h)⟩
  · exact ⟨σ',he,.inr (.inl ⟨hg,pre,f,args,sargs,hl,instV_mono hk h⟩)⟩
  · exact ⟨σ',he,.inr (.inr (.inl (vstepL_mono hk h)))⟩
  · exact ⟨σ',he,.inr (.inr (.inr ⟨hg,.inl ⟨e,b,x,y,key,gen,q,n,m,cs,ys,h1,h2,h3,h4,h5,h6,h7,h8,hk _ k1,hk _ k2⟩⟩))⟩
  · exact ⟨σ',he,.inr (.inr (.inr ⟨hg,.inr (.inl ⟨x,es,h1,h2,hk _ k1⟩)⟩))⟩
  · exact ⟨σ',he,.inr (.inr (.inr ⟨hg,.inr (.inr (.inl ⟨x,key,left,last,h1,h2,h3,fun e=>hk _ (k1 e),fun j hj=>hk _ (k2 j hj)⟩))⟩))⟩
  · exact ⟨σ',he,.inr (.inr (.inr ⟨hg,.inr (.inr (.inr ⟨x,key,left,p,h1,h2,h3,hk _ k1⟩))⟩))⟩
theorem vopsC_mono {rid:Nat}:∀ {os:List (Nat × LOp)} {i:Nat} {K K':St→Prop} {σ:St},(∀ σ,K σ→K' σ)→vopsC P rid os i K σ→vopsC P rid os i K' σ
  | [],_,_,_,_,hk,h=>hk _ h
  | (0,_)::_,_,_,_,_,hk,h=>vstepM_mono (fun _ h=>vopsC_mono hk h) h
  | (1,_)::_,_,_,_,_,hk,h=>vstepL_mono (fun _ h=>vopsC_mono hk h) h
  | (_+2,_)::_,_,_,_,_,hk,h=>vstepC_mono (fun _ h=>vopsC_mono hk h) h
theorem vopsL_mono {rid:Nat}:∀ {os:List LOp} {i:Nat} {K K':St→Prop} {σ:St},(∀ σ,K σ→K' σ)→vopsL P rid os i K σ→vopsL P rid os i K' σ
  | [],_,_,_,_,_,h=>h
  | [o],_,_,_,_,hk,h=>vstepM_mono hk h
  | o::o' :: os,i,_,_,_,hk,h=>vstep_mono (fun _ h=>vopsL_mono (os:=o' :: os) hk h) h
theorem vT_mono {rid:Nat} {los:List LOp} {K K':St→Prop} (hk:∀ σ,K σ→K' σ):∀ {t:OT} {σ:St},vT P rid los K t σ→vT P rid los K' t σ
  | .leaf,_,h=>hk _ h
  | .none,_,_=>trivial
  | .alt i x y,_,h=>⟨vstepM_mono (fun _ h=>vT_mono (t:=x) hk h) h.1,vT_mono (t:=y) hk h.2⟩
theorem vopsH_mono {rid:Nat}:∀ {k:Nat} {os:List LOp} {i:Nat} {K K':St→Prop} {σ:St},(∀ σ,K σ→K' σ)→vopsH P rid k os i K σ→vopsH P rid k os i K' σ
  | 0,os,_,_,_,_,hk,h=>by rw [vopsH_z] at h ⊢;exact vopsM_mono hk h
  | _+1,[],_,_,_,_,_,h=>h.elim
  | k+1,o::os,i,_,_,_,hk,h=>vstep_mono (fun _ h=>vopsH_mono (k:=k) (os:=os) hk h) h
theorem vcg_mono:∀ {c:LC} {Q Q':Exit→St→Prop} {σ:St},(∀ e σ,Q e σ→Q' e σ)→vcg P c Q σ→vcg P c Q' σ
  | .skip,_,_,_,hq,h=>hq _ _ h
  | .reg _ _,_,_,_,hq,h=>vops_mono (fun _ h=>hq _ _ h) h
  | .rego _ _,_,_,_,hq,h=>vopsM_mono (fun _ h=>hq _ _ h) h
  | .seq x y,_,_,_,hq,h=>vcg_mono (c:=x) (fun e σ h=>by
      cases e with
      | normal=>exact vcg_mono (c:=y) hq h
      | _=>exact hq _ _ h) h
  | .cond c x y,_,_,σ,hq,h=>by
      simp only [vcg] at h ⊢
      generalize c.get σ.tm=C at h
      cases C with
      | bool b =>
        cases b
        · exact vcg_mono (c:=y) hq h
        · exact vcg_mono (c:=x) hq h
      | _=>exact h
  | .block id x,_,_,_,hq,h=>vcg_mono (c:=x) (fun e σ h=>by
      cases e with
      | exit i=>simp only [blockQ] at h ⊢;split<;>(rename_i e;simp only [e,if_true,if_false] at h;exact hq _ _ h)
      | _=>exact hq _ _ h) h
  | .loop x,_,_,_,hq,h=>by
      obtain ⟨I,h0,hr⟩:=h
      refine ⟨I,h0,fun n σ1 hI=>vcg_mono (c:=x) (fun e σ h=>?_) (hr n σ1 hI)⟩
      cases e with
      | normal=>exact h
      | _=>exact hq _ _ h
  | .exit _,_,_,_,hq,h=>hq _ _ h
  | .ret,_,_,_,hq,h=>hq _ _ h
  | .bad,_,_,_,_,h=>h
  | .keep _ x,_,_,_,hq,h=>vcg_mono (c:=x) hq h
  | .regb _ _,_,_,_,hq,h=>vopsB_mono (fun _ h=>hq _ _ h) h
  | .regc _ _,_,_,_,hq,h=>vopsC_mono (fun _ h=>hq _ _ h) h
  | .regd _ _ _,_,_,_,hq,h=>vregd_mono (fun _ h=>hq _ _ h) h
  | .rege _ _ _,_,_,_,hq,h=>vregd_mono (fun _ h=>hq _ _ h) h
  | .regf _ _ _,_,_,_,hq,h=>vops_mono (fun _ h=>hq _ _ h) h
  | .regg _ _ _,_,_,_,hq,h=>⟨h.1,vopsL_mono (fun _ h=>hq _ _ h) h.2⟩
  | .regv _ _ _ _,_,_,_,hq,h=>⟨h.1,vT_mono (fun _ h=>hq _ _ h) h.2⟩
  | .regh _ _ _ _,_,_,_,hq,h=>⟨h.1,vopsH_mono (fun _ h=>hq _ _ h) h.2⟩
  | .join x y,_,_,_,hq,h=>by
      obtain ⟨I,h1,h2⟩:=h
      refine ⟨I,vcg_mono (c:=x) (fun e σ h=>?_) h1,fun σ2 hI=>vcg_mono (c:=y) hq (h2 σ2 hI)⟩
      cases e with
      | normal=>exact h
      | _=>exact hq _ _ h
def backTo {ι:Type} (I:ι→St) (C:ι→Prop) (m:ι→Nat) (n:Nat) (σ:St):Prop:=∃ y,C y∧m y<n∧Ent σ (I y)
theorem backTo_of {ι:Type} {I:ι→St} {C:ι→Prop} {m:ι→Nat} {n:Nat} {σ:St} (y:ι) (h1:C y) (h2:m y<n) (h3:Ent σ (I y)):backTo I C m n σ:=⟨y,h1,h2,h3⟩
theorem loop_vcg {ι:Type} (I:ι→St) (C:ι→Prop) (m:ι→Nat) {c:LC} {Q:Exit→St→Prop} {σ:St} (x0:ι) (h0:C x0) (hle:Ent σ (I x0))
    (hr:∀ x,C x→vcg P c (thenQ (backTo I C m (m x)) Q) (I x)):loopW P c Q σ :=
  loop_intro I C m x0 h0 hle hr fun _ _ _ hq h=>vcg_mono hq h
end
theorem callV_of {P:Program} {f:FuncId} {args sargs:List V} {d:Option Nat} {K:St→Prop} {σ:St} {r:V} (h:PRet P f sargs r) (h1:args=sargs∨flat 4 r=true) (h2:K (σ.put d r)):callV P f args sargs d K σ:=⟨r,h,.inl h1,h2⟩
theorem callX_of {P:Program} {f:FuncId} {args sargs:List V} {s:Nat} {d:Option Nat} {K:St→Prop} {σ:St} {r:V} (h:PRet P f sargs r) (h1:args=sargs∨flat 4 r=true) (h2:K (σ.put d r)):callX P s f args sargs d K σ:=.inl ⟨r,h,.inl h1,h2⟩
theorem callX_own {P:Program} {f:FuncId} {args sargs:List V} {s:Nat} {d:Option Nat} {K:St→Prop} {σ:St} {esz n:Nat} {cs:List V} (h:PRetM P f sargs esz n cs) (h1:args=sargs∨cs.all (flat 4)=true)
    (h2:K (St.put ⟨σ.tm,hupd σ.H (s,σ.cnt s) (.row 0 esz cs),cupd σ.cnt s⟩ d (.msl (s,σ.cnt s) 0 0 n))):callX P s f args sargs d K σ:=.inr (.inl ⟨esz,n,cs,h,h1,h2⟩)
theorem one_int (k:IntKind) (n:Int):V.one (.int k n)=true:=rfl
theorem one_bool (b:Bool):V.one (.bool b)=true:=rfl
theorem one_str (s:ByteArray):V.one (.str s)=true:=rfl
theorem one_sl (n:Nat) (cs:List V):V.one (.sl n cs)=true:=rfl
theorem one_e0:V.one .e0=true:=rfl
theorem one_msl (k:Key) (g o n:Nat):V.one (.msl k g o n)=true:=rfl
theorem one_mp (k:Key) (g o:Nat):V.one (.mp k g o)=true:=rfl
theorem one_ip (cs:List V) (o:Nat):V.one (.ip cs o)=true:=rfl
theorem one_nilp:V.one .nilp=true:=rfl
theorem one_fn (f:FuncId) (c:List V):V.one (.fn f c)=true:=rfl
theorem one_ifc (t:TypeId) (v:V):V.one (.ifc t v)=true:=rfl
theorem one_mm (k:Key):V.one (.mm k)=true:=rfl
theorem one_im (es:List (V × V)):V.one (.im es)=true:=rfl
theorem one_nili:V.one .nili=true:=rfl
theorem vcg_regc {P:Program} {rid:Nat} {ops:List (Nat × LOp)} {Q:Exit→St→Prop} {σ:St}:vcg P (.regc rid ops) Q σ=vopsC P rid ops 0 (Q .normal) σ:=rfl
theorem vopsC_nil {P:Program} {rid i:Nat} {K:St→Prop} {σ:St}:vopsC P rid [] i K σ=K σ:=rfl
theorem vopsC_z {P:Program} {rid i:Nat} {o:LOp} {os:List (Nat × LOp)} {K:St→Prop} {σ:St}:vopsC P rid ((0,o)::os) i K σ=vstepM P (siteOf rid i) o (vopsC P rid os (i+1) K) σ:=rfl
theorem vopsC_2 {P:Program} {rid i:Nat} {o:LOp} {os:List (Nat × LOp)} {K:St→Prop} {σ:St}:vopsC P rid ((2,o)::os) i K σ=vstepC P (siteOf rid i) o (vopsC P rid os (i+1) K) σ:=rfl
end Go.Lg

namespace Go.Lg
open Go Go.RowKit
structure Ren where
  pi:Key→Option Key
  nil:Key→Bool
  fz:Heap
def genOf:Option LObj→Nat
  | some (.row g _ _)=>g
  | _=>0
inductive VR (H:Heap) (r:Ren):V→V→Prop
  | junk (v):VR H r v .junk
  | pure (v d):imV d v=true→VR H r v v
  | frz (v d):VR H r v (snap r.fz d v)
  | msl (k k' gen off n esz cs):k'.1<PK→r.pi k' = some k→H k=some (.row gen esz cs)→VR H r (.msl k gen off n) (.msl k' 0 off n)
  | mp (k k' gen off esz cs):k'.1<PK→r.pi k' = some k→H k=some (.row gen esz cs)→VR H r (.mp k gen off) (.mp k' 0 off)
  | mm (k k' es):k'.1<PK→r.pi k' = some k→H k=some (.map es)→VR H r (.mm k) (.mm k')
  | qsl (k k' gen e q n esz cs):k'.1<PK→r.pi k' = some k→H k=some (.row gen esz cs)→VR H r (.qsl k gen e q n) (.qsl k' 0 e q n)
  | mslq (k k' gen e n esz cs):k'.1<PK→r.pi k' = some k→H k=some (.row gen esz cs)→VR H r (.msl k gen 0 n) (.qsl k' 0 e 0 n)
  | mpi (k k' left last):k'.1<PK→r.pi k' = some k→H k=some (.it left last)→VR H r (.mp k 0 0) (.mp k' 0 0)
  | pkl (k gen off n):PK≤k.1→VR H r (.msl k gen off n) (.msl k gen off n)
  | pkp (k gen off):PK≤k.1→VR H r (.mp k gen off) (.mp k gen off)
  | nil (k'):r.nil k' = true→VR H r .e0 (.msl k' 0 0 0)
  | agg (xs ys:List V):xs.length=ys.length→(∀ (j:Nat) (x y:V),xs[j]? = some x→ys[j]? = some y→VR H r x y)→VR H r (.agg xs) (.agg ys)
  | tup (xs ys:List V):xs.length=ys.length→(∀ (j:Nat) (x y:V),xs[j]? = some x→ys[j]? = some y→VR H r x y)→VR H r (.tup xs) (.tup ys)
  | fn (f) (xs ys:List V):xs.length=ys.length→(∀ (j:Nat) (x y:V),xs[j]? = some x→ys[j]? = some y→VR H r x y)→VR H r (.fn f xs) (.fn f ys)
  | ifc (t x y):VR H r x y→VR H r (.ifc t x) (.ifc t y)
structure RenOk (r:Ren) (σ σ':St):Prop where
  fz:∀ k o,r.fz k=some o→σ.H k=some o∧k.1<PK
  pi:∀ k' k,r.pi k' = some k→r.fz k=none∧(PK≤k'.1→k=k')∧(k'.1<PK→k.1<PK)
  inj:∀ k1 k2 k,r.pi k1=some k→r.pi k2=some k→k1=k2
  nil:∀ k',r.nil k' = true→r.pi k' = none∧k'.1<PK
  tm:∀ t,VR σ.H r (σ.tm t) (σ'.tm t)
  H:∀ k' o',σ'.H k' = some o'→(∃ k gen esz cs cs',r.pi k' = some k∧σ.H k=some (.row gen esz cs)∧o' = .row (if PK≤k'.1 then gen else 0) esz cs'∧cs.length=cs'.length ∧
      ∀ (j:Nat) (x y:V),cs[j]? = some x→cs'[j]? = some y→VR σ.H r x y)∨(r.nil k' = true∧∃ esz,o' = .row 0 esz []) ∨
    (∃ k es es',k'.1<PK∧r.pi k' = some k∧σ.H k=some (.map es)∧o' = .map es'∧es.length=es'.length∧∀ (j:Nat) (p q:V × V),es[j]? = some p→es'[j]? = some q→VR σ.H r p.1 q.1∧VR σ.H r p.2 q.2) ∨
    (∃ k left last,k'.1<PK∧r.pi k' = some k∧σ.H k=some (.it left last)∧o' = .it left none∧∀ p∈left,imV 8 p.1=true∧imV 8 p.2=true)
  cnt:∀ s n,σ'.cnt s≤n→r.pi (s,n)=none∧r.nil (s,n)=false
  cntP:∀ s,PK≤s→σ.cnt s≤σ'.cnt s
section
variable {P:Program} {g:Gh} {w w':World} {E:Env} {σ σ':St} {a:Act}
def Gh.ren (g:Gh) (σ:St) (r:Ren):Gh:=⟨allImm g r.fz,fun k' m=>if PK≤k'.1 then g.ref k' m else if m=0 then match r.pi k' with
  | some k=>g.ref k (genOf (σ.H k))
  | none=>if r.nil k' then some (none,0) else none else none⟩
theorem ren_rep (hs:SimG E g σ a w) {r:Ren} (hr:RenOk r σ σ') {x y:V} (h:VR σ.H r x y):∀ {v:Value},Rep g w v x→Rep (g.ren σ r) w v y:=by
  have hsf:SimG E g ⟨σ.tm,r.fz,σ.cnt⟩ a w:=hs.le ⟨fun _=>.inl rfl,fun k o h=>(hr.fz k o h).1,fun _=>Nat.le_refl _⟩
  have up:∀ {v x},RepI g.imm w v x→RepI (g.ren σ r).imm w v x:=fun h=>h.mono (fun _ h=>.inl h) (fun _ _=>rfl)
  induction h with
  | junk v=>intro v _;exact .junk _ _ _
  | pure x d hx=>intro v h;exact .imm _ _ (up (imV_rep d h hx))
  | frz x d=>intro v h;exact .imm _ _ (snap_rep hsf d h)
  | msl k k' gen off n esz cs hp hpi hk =>
    intro v h
    obtain ⟨c,A,blk,cap,rfl,q1,q2,q3,q4,q5⟩:=h.msl_inv
    refine .msl _ _ _ _ c A blk cap ?_ q2 q3 q4 q5
    simp only [Gh.ren]
    rw [if_neg (by omega),if_pos trivial,hpi]
    simp only [hk,genOf]
    exact q1
  | mp k k' gen off esz cs hp hpi hk =>
    intro v h
    obtain ⟨b,cap,q1,rfl⟩:=h.mp_inv
    refine .mp _ _ _ b cap ?_
    simp only [Gh.ren]
    rw [if_neg (by omega),if_pos trivial,hpi]
    simp only [hk,genOf]
    exact q1
  | mm k k' es hp hpi hk =>
    intro v h
    obtain ⟨b,cap,q1,rfl⟩:=h.mm_inv
    refine .mm _ b cap ?_
    simp only [Gh.ren]
    rw [if_neg (by omega),if_pos trivial,hpi]
    simp only [hk,genOf]
    exact q1
  | qsl k k' gen e q n esz cs hp hpi hk =>
    intro v h
    obtain ⟨c,A,blk,cap,rfl,q1,q2,q3,q4,q5⟩:=h.qsl_inv
    refine .qsl _ _ _ _ _ c A blk cap ?_ q2 q3 q4 q5
    simp only [Gh.ren]
    rw [if_neg (by omega),if_pos trivial,hpi]
    simp only [hk,genOf]
    exact q1
  | mslq k k' gen e n esz cs hp hpi hk =>
    intro v h
    obtain ⟨c,A,blk,cap,rfl,q1,q2,q3,q4,q5⟩:=(h.msl_qsl (esz:=e)).qsl_inv
    refine .qsl _ _ _ _ _ c A blk cap ?_ q2 q3 q4 q5
    simp only [Gh.ren]
    rw [if_neg (by omega),if_pos trivial,hpi]
    simp only [hk,genOf]
    exact q1
  | mpi k k' left last hp hpi hk =>
    intro v h
    obtain ⟨b,cap,q1,rfl⟩:=h.mp_inv
    refine .mp _ _ _ b cap ?_
    simp only [Gh.ren]
    rw [if_neg (by omega),if_pos trivial,hpi]
    simp only [hk,genOf]
    exact q1
  | pkl k gen off n hp =>
    intro v h
    obtain ⟨c,A,blk,cap,rfl,q1,q2,q3,q4,q5⟩:=h.msl_inv
    refine .msl _ _ _ _ c A blk cap ?_ q2 q3 q4 q5
    simp only [Gh.ren]
    rw [if_pos hp]
    exact q1
  | pkp k gen off hp =>
    intro v h
    obtain ⟨b,cap,q1,rfl⟩:=h.mp_inv
    refine .mp _ _ _ b cap ?_
    simp only [Gh.ren]
    rw [if_pos hp]
    exact q1
  | nil k' hn =>
    intro v h
    obtain ⟨A,rfl⟩:=h.e0_inv
    obtain ⟨h1,h2⟩:=hr.nil k' hn
    refine .msl _ _ _ _ 0 A none 0 ?_ (fun _=>rfl) (Nat.le_refl _) (fun _ e=>by cases e) (fun _=>rfl)
    simp only [Gh.ren]
    rw [if_neg (by omega),if_pos trivial,h1,if_pos hn]
  | agg xs ys hl _ ih =>
    intro v h
    obtain ⟨vs,rfl,hl',hj⟩:=h.agg_inv
    refine .agg vs ys (by omega) fun j v c hv hc=>?_
    have:j<xs.length:=by
      have:=(List.getElem?_eq_some_iff.1 hc).1
      omega
    exact ih j _ c (List.getElem?_eq_getElem this) hc (hj j v _ hv (List.getElem?_eq_getElem this))
  | tup xs ys hl _ ih =>
    intro v h
    obtain ⟨vs,rfl,hl',hj⟩:=h.tup_inv
    refine .tup vs ys (by omega) fun j v c hv hc=>?_
    have:j<xs.length:=by
      have:=(List.getElem?_eq_some_iff.1 hc).1
      omega
    exact ih j _ c (List.getElem?_eq_getElem this) hc (hj j v _ hv (List.getElem?_eq_getElem this))
  | fn f xs ys hl _ ih =>
    intro v h
    obtain ⟨vs,rfl,hl',hj⟩:=h.fn_inv
    refine .fn f vs ys (by omega) fun j v c hv hc=>?_
    have:j<xs.length:=by
      have:=(List.getElem?_eq_some_iff.1 hc).1
      omega
    exact ih j _ c (List.getElem?_eq_getElem this) hc (hj j v _ hv (List.getElem?_eq_getElem this))
  | ifc t x y _ ih =>
    intro v h
    obtain ⟨u,rfl,hu⟩:=h.ifc_inv
    exact .ifc t u y (ih hu)
theorem SimG.ren (hs:SimG E g σ a w) {r:Ren} (hr:RenOk r σ σ'):SimG E (g.ren σ r) σ' a w:=by
  have hsf:SimG E g ⟨σ.tm,r.fz,σ.cnt⟩ a w:=hs.le ⟨fun _=>.inl rfl,fun k o h=>(hr.fz k o h).1,fun _=>Nat.le_refl _⟩
  have href:∀ k' k gen esz cs,r.pi k' = some k→σ.H k=some (.row gen esz cs)→(g.ren σ r).ref k' (if PK≤k'.1 then gen else 0)=g.ref k gen:=by
    intro k' k gen esz cs h1 h2
    simp only [Gh.ren]
    split
    · rename_i hp
      rw [(hr.pi k' k h1).2.1 hp]
    · rw [if_pos rfl,h1];simp only [h2,genOf]
  have hblk:∀ k' o',σ'.H k' = some o'→(∃ k o,r.pi k' = some k∧σ.H k=some o∧blkOf (g.ren σ r) k' o' = blkOf g k o)∨blkOf (g.ren σ r) k' o' = none:=by
    intro k' o' h
    rcases hr.H k' o' h with ⟨k,gen,esz,cs,cs',h1,h2,rfl,h4,h5⟩|⟨hn,esz,rfl⟩|⟨k,es,es',hp,h1,h2,rfl,h4,h5⟩|⟨k,left,last,hp,h1,h2,rfl,h4⟩
    · refine .inl ⟨k,_,h1,h2,?_⟩
      simp only [blkOf]
      rw [href k' k gen esz cs h1 h2]
    · right
      obtain ⟨e1,e2⟩:=hr.nil k' hn
      simp only [blkOf,Gh.ren]
      rw [if_neg (by omega),if_pos trivial,e1,if_pos hn];rfl
    · refine .inl ⟨k,_,h1,h2,?_⟩
      simp only [blkOf,Gh.ren]
      rw [if_neg (by omega),if_pos trivial,h1]
      simp only [h2,genOf]
    · refine .inl ⟨k,_,h1,h2,?_⟩
      simp only [blkOf,Gh.ren]
      rw [if_neg (by omega),if_pos trivial,h1]
      simp only [h2,genOf]
  refine ⟨hs.below,hs.sizeB,hs.size,hs.defers,fun t=>ren_rep hs hr (hr.tm t) (hs.tm t),allImm_lt hsf,fun b hb=>.inl (hs.imm0 b hb),?_,?_,?_,?_,?_⟩
  · intro b hb hm
    rcases hm with hm|⟨key,o,hk,hbk⟩
    · exact hs.immB b hb hm
    · obtain ⟨h1,h2⟩:=hr.fz key o hk
      rcases ((hs.obj key o h1).blk hbk).2.2 with h|h
      · omega
      · have:=h.1;omega
  · intro k' o' hk'
    rcases hr.H k' o' hk' with ⟨k,gen,esz,cs,cs',h1,h2,rfl,h4,h5⟩|⟨hn,esz,rfl⟩|⟨k,es,es',hp,h1,h2,rfl,h4,h5⟩|⟨k,left,last,hp,h1,h2,rfl,h4⟩
    · obtain ⟨blk,cap,r1,r2,r3⟩:=hs.obj k _ h2
      obtain ⟨p1,p2,p3⟩:=hr.pi k' k h1
      refine ⟨blk,cap,(href k' k gen esz cs h1 h2).trans r1,fun m hm=>?_,?_⟩
      · simp only [Gh.ren]
        split
        · rename_i hp
          obtain rfl:=p2 hp
          rw [if_pos hp] at hm
          exact r2 m hm
        · rename_i hp
          rw [if_neg hp] at hm
          rw [if_neg (by omega)]
      · cases blk with
        | none =>
          obtain ⟨e1,e2⟩:=r3
          subst e1
          exact ⟨List.eq_nil_of_length_eq_zero (by simpa using h4.symm),e2⟩
        | some b =>
          obtain ⟨q1,q2,q3,us,T,fz,t1,t2,t3,t4,t5⟩:=r3
          refine ⟨?_,q2,?_,us,T,fz,t1,t2,by omega,t4,fun j u c hu hc=>?_⟩
          · rcases q1 with h|⟨h,hF⟩
            · exact .inl h
            · refine .inr ⟨?_,hF⟩
              rcases Nat.lt_or_ge k'.1 PK with hp|hp
              · have:=p3 hp;omega
              · exact hp
          · rintro (hm|⟨key,o,hk,hbk⟩)
            · exact q3 hm
            · have:=hs.apart key k o _ b (hr.fz key o hk).1 h2 hbk (by simp [blkOf,r1])
              subst this
              rw [p1] at hk;cases hk
          · have hj:j<cs.length:=by
              have:=(List.getElem?_eq_some_iff.1 hc).1
              omega
            exact ren_rep hs hr (h5 j _ c (List.getElem?_eq_getElem hj) hc) (t5 j u _ hu (List.getElem?_eq_getElem hj))
    · obtain ⟨e1,e2⟩:=hr.nil k' hn
      refine ⟨none,0,?_,fun m hm=>?_,rfl,rfl⟩
      · simp only [Gh.ren]
        rw [if_neg (by omega),if_pos trivial,e1,if_pos hn]
      · simp only [Gh.ren]
        rw [if_neg (by omega),if_neg (by omega)]
    · obtain ⟨b,r1,r2,q1,q2,q3,ents,clock,t1,t2,t3,t4⟩:=hs.obj k _ h2
      obtain ⟨p1,p2,p3⟩:=hr.pi k' k h1
      refine ⟨b,?_,fun m hm=>?_,?_,q2,?_,ents,clock,t1,by omega,fun j e q he hq=>?_,t4⟩
      · simp only [Gh.ren]
        rw [if_neg (by omega),if_pos trivial,h1]
        simp only [h2,genOf]
        exact r1
      · simp only [Gh.ren]
        rw [if_neg (by omega),if_neg (by omega)]
      · rcases q1 with h|⟨h,hF⟩
        · exact .inl h
        · have:=p3 hp;omega
      · rintro (hm|⟨key,o,hk,hbk⟩)
        · exact q3 hm
        · have:=hs.apart key k o _ b (hr.fz key o hk).1 h2 hbk (by simp [blkOf,r1])
          subst this
          rw [p1] at hk;cases hk
      · have hj:j<es.length:=by
          have:=(List.getElem?_eq_some_iff.1 hq).1
          omega
        obtain ⟨v1,v2⟩:=h5 j _ q (List.getElem?_eq_getElem hj) hq
        obtain ⟨w1,w2⟩:=t3 j e _ he (List.getElem?_eq_getElem hj)
        exact ⟨ren_rep hs hr v1 w1,ren_rep hs hr v2 w2⟩
    · obtain ⟨b,r1,r2,q1,q2,q3,bm,ents,clock,c0,seen,t0,t1,t2,t3,t4,t5,t6,t7⟩:=hs.obj k _ h2
      obtain ⟨p1,p2,p3⟩:=hr.pi k' k h1
      refine ⟨b,?_,fun m hm=>?_,?_,q2,?_,bm,ents,clock,c0,seen,.inl t0,t1,t2,t3,t4,t5,fun j e q he hq=>?_,fun p hp=>by cases hp⟩
      · simp only [Gh.ren]
        rw [if_neg (by omega),if_pos trivial,h1]
        simp only [h2,genOf]
        exact r1
      · simp only [Gh.ren]
        rw [if_neg (by omega),if_neg (by omega)]
      · rcases q1 with h|⟨h,hF⟩
        · exact .inl h
        · have:=p3 hp;omega
      · rintro (hm|⟨key,o,hk,hbk⟩)
        · exact q3 hm
        · have:=hs.apart key k o _ b (hr.fz key o hk).1 h2 hbk (by simp [blkOf,r1])
          subst this
          rw [p1] at hk;cases hk
      · obtain ⟨v1,v2⟩:=h4 q (List.mem_of_getElem? hq)
        exact ⟨ren_rep hs hr (.pure _ 8 v1) (t6 j e q he hq).1,ren_rep hs hr (.pure _ 8 v2) (t6 j e q he hq).2⟩
  · intro k k' o o' b hk hk' hb hb'
    rcases hblk k o hk with ⟨k1,o1,h1,h2,h3⟩|h3
    · rcases hblk k' o' hk' with ⟨k2,o2,h1',h2',h3'⟩|h3'
      · rw [h3] at hb;rw [h3'] at hb'
        have:=hs.apart k1 k2 o1 o2 b h2 h2' hb hb'
        subst this
        exact hr.inj k k' k1 h1 h1'
      · rw [h3'] at hb';cases hb'
    · rw [h3] at hb;cases hb
  · intro s n hn
    obtain ⟨h1,h2⟩:=hr.cnt s n hn
    refine ⟨?_,fun m=>?_⟩
    · cases hh:σ'.H (s,n) with
      | none=>rfl
      | some o' =>
        rcases hr.H _ _ hh with ⟨k,gen,esz,cs,cs',e1,_⟩|⟨e1,_⟩|⟨k,es,es',_,e1,_⟩|⟨k,left,last,_,e1,_⟩
        · rw [h1] at e1;cases e1
        · rw [h2] at e1;cases e1
        · rw [h1] at e1;cases e1
        · rw [h1] at e1;cases e1
    · simp only [Gh.ren]
      split
      · rename_i hp
        exact (hs.fresh s n (Nat.le_trans (hr.cntP s hp) hn)).2 m
      · rw [h1]
        simp only [h2,Bool.false_eq_true,if_false]
        split<;>rfl
  · intro k n x hp hx
    simp only [Gh.ren]
    rw [if_pos hp]
    exact hs.ref0 k n x hp hx
theorem Ent.ren {r:Ren} (hr:RenOk r σ σ'):Ent σ σ':=fun _ _ _ ⟨g,h⟩=>⟨_,h.ren hr⟩
end
end Go.Lg

namespace Go.Lg
open Go Go.RowKit
inductive SS where
  | val (v:V)
  | frz (v:V)
  | own (esz n:Nat) (cs:List V)
  | box (cs:List V)
  | rows (esz:Nat) (rs:List (Nat × List V))
  | mapS (es:List (V × V))
  | boxm (cs:List V) (es:List (V × V))
  | boxmm (es fs:List (V × V))
  | ownF (esz n:Nat) (cs:List V)
  | boxo (esz n:Nat) (cs:List V)
  | boxG (pre:List V) (esz n:Nat) (cs post:List V)
  | clo (f:FuncId) (ds:List Nat)
  | ali (d':Nat)
  | que (esz q n:Nat) (cs:List V)
  | itr (left:List (V × V))
  | mapR (esz:Nat) (es:List (V × Nat × List V))
def rowV (d:Nat):Nat→List (Nat × List V)→List V
  | _,[]=>[]
  | i,r::rs=>.msl (4398046511104+d,i) 0 0 r.1::rowV d (i+1) rs
def mapV (d:Nat):Nat→List (V × Nat × List V)→List (V × V)
  | _,[]=>[]
  | i,e::r=>(e.1,.msl (4398046511104+d,i) 0 0 e.2.1)::mapV d (i+1) r
def SS.v (d:Nat):SS→V
  | .val v=>v
  | .frz v=>v
  | .own _ n _=>.msl (2199023255552+d,0) 0 0 n
  | .box _=>.mp (2199023255552+d,0) 0 0
  | .rows _ rs=>.msl (2199023255552+d,0) 0 0 rs.length
  | .mapS _=>.mm (2199023255552+d,0)
  | .boxm _ _=>.mp (2199023255552+d,0) 0 0
  | .boxmm _ _=>.mp (2199023255552+d,0) 0 0
  | .ownF _ n _=>.msl (2199023255552+d,0) 0 0 n
  | .boxo _ _ _=>.mp (2199023255552+d,0) 0 0
  | .boxG ..=>.mp (2199023255552+d,0) 0 0
  | .clo f ds=>.fn f (ds.map fun d'=>.mp (2199023255552+d',0) 0 0)
  | .ali d'=>.mp (2199023255552+d',0) 0 0
  | .que esz q n _=>.qsl (2199023255552+d,0) 0 esz q n
  | .itr _=>.mp (2199023255552+d,0) 0 0
  | .mapR ..=>.mm (2199023255552+d,0)
def SS.isBox:SS→Bool
  | .box _ | .boxm .. | .boxmm .. | .boxo .. | .boxG ..=>true
  | _=>false
def slO:List (Nat × SS)→Nat→V
  | [],_=>.junk
  | (d,s)::r,t=>if t=d then s.v d else slO r t
def hpO:List (Nat × SS)→Heap
  | [],_=>none
  | (_,.val _)::r,k=>hpO r k
  | (_,.frz _)::r,k=>hpO r k
  | (d,.own esz _ cs)::r,k=>if k=(2199023255552+d,0) then some (.row 0 esz cs) else hpO r k
  | (d,.box cs)::r,k=>if k=(2199023255552+d,0) then some (.row 0 0 cs) else hpO r k
  | (d,.mapS es)::r,k=>if k=(2199023255552+d,0) then some (.map es) else hpO r k
  | (d,.boxm cs es)::r,k=>if k=(2199023255552+d,0) then some (.row 0 0 (cs++[.mm (4398046511104+d,0)])) else if k=(4398046511104+d,0) then some (.map es) else hpO r k
  | (d,.boxmm es fs)::r,k=>if k=(2199023255552+d,0) then some (.row 0 0 [.mm (4398046511104+d,0),.mm (4398046511104+d,1)]) else if k=(4398046511104+d,0) then some (.map es) else if k=(4398046511104+d,1) then some (.map fs) else hpO r k
  | (d,.ownF esz _ cs)::r,k=>if k=(2199023255552+d,0) then some (.row 0 esz cs) else hpO r k
  | (d,.boxo esz n cs)::r,k=>if k=(2199023255552+d,0) then some (.row 0 0 [.msl (4398046511104+d,0) 0 0 n]) else if k=(4398046511104+d,0) then some (.row 0 esz cs) else hpO r k
  | (d,.boxG pre esz n cs post)::r,k=>if k=(2199023255552+d,0) then some (.row 0 0 (pre ++ .msl (4398046511104+d,0) 0 0 n::post)) else if k=(4398046511104+d,0) then some (.row 0 esz cs) else hpO r k
  | (_,.clo ..)::r,k=>hpO r k
  | (_,.ali _)::r,k=>hpO r k
  | (d,.que esz _ _ cs)::r,k=>if k=(2199023255552+d,0) then some (.row 0 esz cs) else hpO r k
  | (d,.itr left)::r,k=>if k=(2199023255552+d,0) then some (.it left none) else hpO r k
  | (d,.mapR esz es)::r,k=>if k=(2199023255552+d,0) then some (.map (mapV d 0 es)) else if k.1=4398046511104+d then (es[k.2]?).map (fun e=>.row 0 esz e.2.2) else hpO r k
  | (d,.rows esz rs)::r,k=>if k=(2199023255552+d,0) then some (.row 0 1 (rowV d 0 rs)) else if k.1=4398046511104+d then (rs[k.2]?).map (fun r=>.row 0 esz r.2) else hpO r k
def mxO:List (Nat × SS)→Nat
  | []=>1
  | (_,.rows _ rs)::r=>rs.length+mxO r
  | (_,.mapR _ es)::r=>es.length+mxO r
  | (_,.boxmm ..)::r=>1+mxO r
  | _::r=>mxO r
def cnO (L:List (Nat × SS)) (c:Nat→Nat) (s:Nat):Nat:=if s<2199023255552 then 0 else if s<PK then mxO L else c s
def stO (L:List (Nat × SS)) (c:Nat→Nat):St:=⟨slO L,hpO L,cnO L c⟩
def rowAt (H:Heap) (esz:Nat) (U:Key→Prop) (κ:Nat→Option Key) (i:Nat) (r:Nat × List V):Option V→Prop
  | some (.msl k g off m)=>∃ cs,H k=some (.row g esz cs)∧off=0∧m=r.1∧cs=r.2∧cs.all (imV 8)=true∧¬ U k∧k.1<PK∧κ i=some k
  | some .e0=>r.1=0∧r.2=[]∧κ i=none
  | _=>False
def ownAt (H:Heap) (esz n:Nat) (cs:List V) (U:Key→Prop) (K:(Key→Prop)→Prop):V→Prop
  | .msl k g off m=>match H k with
    | some (.row g' esz' cs')=>(g' = g∧off=0∧m=n∧esz' = esz∧cs' = cs∧cs.all (imV 8)=true∧¬ U k∧k.1<PK)∧K fun k'=>k' = k∨U k'
    | _=>False
  | .e0=>(n=0∧cs=[])∧K U
  | _=>False
def queAt (H:Heap) (esz q n:Nat) (cs:List V) (U:Key→Prop) (K:(Key→Prop)→Prop):V→Prop
  | .qsl k g e q' m=>match H k with
    | some (.row g' esz' cs')=>(g' = g∧e=esz∧q' = q∧m=n∧esz' = esz∧cs' = cs∧cs.all (imV 8)=true∧¬ U k∧k.1<PK)∧K fun k'=>k' = k∨U k'
    | _=>False
  | .msl k g off m=>match H k with
    | some (.row g' esz' cs')=>(g' = g∧off=0∧q=0∧m=n∧esz' = esz∧cs' = cs∧cs.all (imV 8)=true∧¬ U k∧k.1<PK)∧K fun k'=>k' = k∨U k'
    | _=>False
  | _=>False
def itAt (H:Heap) (left:List (V × V)) (U:Key→Prop) (K:(Key→Prop)→Prop):V→Prop
  | .mp k g off=>match H k with
    | some (.it left' _)=>(g=0∧off=0∧left' = left∧left.all (fun p=>imV 8 p.1 && imV 8 p.2)=true∧¬ U k∧k.1<PK)∧K fun k'=>k' = k∨U k'
    | _=>False
  | _=>False
def boxAt (H:Heap) (cs:List V) (U:Key→Prop) (K:(Key→Prop)→Prop):V→Prop
  | .mp k g off=>match H k with
    | some (.row g' esz' cs')=>(g' = g∧off=0∧esz' = 0∧cs' = cs∧cs.all (imV 8)=true∧¬ U k∧k.1<PK)∧K fun k'=>k' = k∨U k'
    | _=>False
  | _=>False
def mapAt (H hf:Heap) (es:List (V × V)) (U:Key→Prop) (K:(Key→Prop)→Prop):V→Prop
  | .mm k=>match H k with
    | some (.map es')=>(es'.map (fun p=>(p.1,snap hf 8 p.2))=es∧es'.all (fun p=>imV 8 p.1)=true∧¬ U k∧k.1<PK)∧K fun k'=>k' = k∨U k'
    | _=>False
  | _=>False
def boxmAt (H hf:Heap) (cs:List V) (es:List (V × V)) (U:Key→Prop) (K:(Key→Prop)→Prop):V→Prop
  | .mp k g off=>match H k with
    | some (.row g' esz' cs')=>match cs'[cs.length]? with
      | some (.mm k2)=>match H k2 with
        | some (.map es')=>(g' = g∧off=0∧esz' = 0∧cs'.length=cs.length+1∧cs'.take cs.length=cs∧cs.all (imV 8)=true∧¬ U k∧k.1<PK) ∧
            (es'.map (fun p=>(p.1,snap hf 8 p.2))=es∧es'.all (fun p=>imV 8 p.1)=true∧¬ U k2∧k2.1<PK)∧K fun k'=>(k' = k∨k' = k2)∨U k'
        | _=>False
      | _=>False
    | _=>False
  | _=>False
def boxmmAt (H hf:Heap) (es fs:List (V × V)) (U:Key→Prop) (K:(Key→Prop)→Prop):V→Prop
  | .mp k g off=>match H k with
    | some (.row g' esz' cs')=>match cs' with
      | [.mm k2,.mm k3]=>match H k2 with
        | some (.map es')=>match H k3 with
          | some (.map fs')=>(g' = g∧off=0∧esz' = 0∧¬ U k∧k.1<PK) ∧
              (es'.map (fun p=>(p.1,snap hf 8 p.2))=es∧es'.all (fun p=>imV 8 p.1)=true∧¬ U k2∧k2.1<PK) ∧
              (fs'.map (fun p=>(p.1,snap hf 8 p.2))=fs∧fs'.all (fun p=>imV 8 p.1)=true∧¬ U k3∧k3.1<PK∧¬ k3=k2)∧K fun k'=>(k' = k∨(k' = k2∨k' = k3))∨U k'
          | _=>False
        | _=>False
      | _=>False
    | _=>False
  | _=>False
def ownFAt (H hf:Heap) (esz n:Nat) (cs:List V) (U:Key→Prop) (K:(Key→Prop)→Prop):V→Prop
  | .msl k g off m=>match H k with
    | some (.row g' esz' cs')=>(g' = g∧off=0∧m=n∧esz' = esz∧cs'.map (snap hf 8)=cs∧¬ U k∧k.1<PK)∧K fun k'=>k' = k∨U k'
    | _=>False
  | .e0=>(n=0∧cs=[])∧K U
  | _=>False
def boxoAt (H:Heap) (esz n:Nat) (cs:List V) (U:Key→Prop) (K:(Key→Prop)→Prop):V→Prop
  | .mp k g off=>match H k with
    | some (.row g' esz0 [.msl k2 g2 off2 m])=>match H k2 with
      | some (.row g2' esz' cs')=>(g' = g∧off=0∧esz0=0∧¬ U k∧k.1<PK)∧(g2' = g2∧off2=0∧m=n∧esz' = esz∧cs' = cs∧cs.all (imV 8)=true∧¬ U k2∧k2.1<PK)∧k2≠k∧K fun k'=>(k' = k∨k' = k2)∨U k'
      | _=>False
    | some (.row g' esz0 [.e0])=>(g' = g∧off=0∧esz0=0∧n=0∧cs=[]∧¬ U k∧k.1<PK)∧K fun k'=>k' = k∨U k'
    | _=>False
  | _=>False
def cutAt:List V→List V→Option (List V × V × List V)
  | [],x::r=>some ([],x,r)
  | _::p,x::r=>match cutAt p r with
    | some (a,y,b)=>some (x::a,y,b)
    | none=>none
  | _,[]=>none
def boxGAt (H hf:Heap) (pre:List V) (esz n:Nat) (cs post:List V) (U:Key→Prop) (K:(Key→Prop)→Prop):V→Prop
  | .mp k g off=>match H k with
    | some (.row g' esz0 cells)=>match cutAt pre cells with
      | some (a,.msl k2 g2 off2 m,b)=>match H k2 with
        | some (.row g2' esz' cs')=>(g' = g∧off=0∧esz0=0∧a.map (snap hf 8)=pre∧b.map (snap hf 8)=post∧¬ U k∧k.1<PK)∧(g2' = g2∧off2=0∧m=n∧esz' = esz∧cs'.map (snap hf 8)=cs∧¬ U k2∧k2.1<PK)∧k2≠k∧K fun k'=>(k' = k∨k' = k2)∨U k'
        | _=>False
      | some (a,.e0,b)=>(g' = g∧off=0∧esz0=0∧n=0∧cs=[]∧a.map (snap hf 8)=pre∧b.map (snap hf 8)=post∧¬ U k∧k.1<PK)∧K fun k'=>k' = k∨U k'
      | _=>False
    | _=>False
  | _=>False
def mapRAt (H:Heap) (esz:Nat) (es:List (V × Nat × List V)) (U:Key→Prop) (K:(Key→Prop)→Prop):V→Prop
  | .mm k=>match H k with
    | some (.map es')=>(es'.length=es.length∧(∀ (i:Nat) (p:V × V) (e:V × Nat × List V),es'[i]? = some p→es[i]? = some e→p.1=e.1∧imV 8 p.1=true)∧¬ U k∧k.1<PK) ∧
        ∃ κ:Nat→Option Key,(∀ (i:Nat) (e:V × Nat × List V),es[i]? = some e→rowAt H esz (fun k'=>k' = k∨U k') κ i e.2 (es'[i]?.map (·.2)))∧(∀ i j k,κ i=some k→κ j=some k→i=j) ∧
          (∀ i,es.length≤i→κ i=none)∧K fun k'=>(k' = k∨∃ i,κ i=some k')∨U k'
    | _=>False
  | _=>False
def entS (σ:St) (hf:Heap) (d:Nat) (L:List (Nat × SS)) (U:Key→Prop) (K:(Key→Prop)→Prop):SS→Prop
  | .val v=>(σ.tm d=v∧imV 8 v=true)∧K U
  | .frz v=>snap hf 8 (σ.tm d)=v∧K U
  | .own esz n cs=>ownAt σ.H esz n cs U K (σ.tm d)
  | .box cs=>boxAt σ.H cs U K (σ.tm d)
  | .rows esz rs=>False
  | .mapS es=>mapAt σ.H hf es U K (σ.tm d)
  | .boxm cs es=>False
  | .boxmm es fs=>boxmmAt σ.H hf es fs U K (σ.tm d)
  | .ownF esz n cs=>False
  | .boxo esz n cs=>False
  | .boxG pre esz n cs post=>False
  | .clo f ds=>(σ.tm d = .fn f (ds.map σ.tm)∧ds.all (fun d'=>L.any fun p=>p.1 == d' && p.2.isBox)=true)∧K U
  | .que esz q n cs=>False
  | .itr left=>False
  | .mapR esz es=>mapRAt σ.H esz es U K (σ.tm d)
  | .ali d'=>(σ.tm d=σ.tm d'∧(L.any fun p=>p.1 == d' && p.2.isBox)=true)∧K U
def entL (σ:St) (hf:Heap):List (Nat × SS)→(Key→Prop)→Prop
  | [],_=>True
  | (d,s)::r,U=>entS σ hf d r U (entL σ hf r) s
def dOk (L:List (Nat × SS)):Bool:=(L.map (·.1)).Nodup && (L.map (·.1)).all fun d=>decide (d<1099511627776)
def nK (d:Nat) (k:Key):Prop:=k.1=2199023255552+d∨k.1=4398046511104+d
structure Wit (σ:St) (hf:Heap) (L:List (Nat × SS)) (U:Key→Prop) (pi:Key→Option Key) (nil:Key→Bool):Prop where
  fpi:∀ k' k,pi k' = some k→¬ U k∧k.1<PK∧∃ p∈L,nK p.1 k'
  finj:∀ k1 k2 k,pi k1=some k→pi k2=some k→k1=k2
  fnil:∀ k',nil k' = true→pi k' = none∧∃ p∈L,nK p.1 k'
  ftm:∀ r:Ren,(∀ k' k,pi k' = some k→r.pi k' = some k)→(∀ k',nil k' = true→r.nil k' = true)→r.fz=hf→∀ p∈L,VR σ.H r (σ.tm p.1) (p.2.v p.1)
  fH:∀ r:Ren,(∀ k' k,pi k' = some k→r.pi k' = some k)→(∀ k',nil k' = true→r.nil k' = true)→r.fz=hf→∀ k' o',hpO L k' = some o' →
    (∃ k gen esz cs cs',pi k' = some k∧σ.H k=some (.row gen esz cs)∧o' = .row 0 esz cs'∧cs.length=cs'.length∧∀ (j:Nat) (x y:V),cs[j]? = some x→cs'[j]? = some y→VR σ.H r x y) ∨
      (nil k' = true∧∃ esz,o' = .row 0 esz [])∨(∃ k es,pi k' = some k∧σ.H k=some (.map es)∧o' = .map (es.map fun p=>(p.1,snap hf 8 p.2))∧es.all (fun p=>imV 8 p.1)=true) ∨
      (∃ k left last,pi k' = some k∧σ.H k=some (.it left last)∧o' = .it left none∧left.all (fun p=>imV 8 p.1 && imV 8 p.2)=true) ∨
      (∃ k es es',pi k' = some k∧σ.H k=some (.map es)∧o' = .map es'∧es.length=es'.length∧∀ (j:Nat) (p q:V × V),es[j]? = some p→es'[j]? = some q→p.1=q.1∧imV 8 p.1=true∧VR σ.H r p.2 q.2)
  fcnt:∀ s n,mxO L≤n→pi (s,n)=none∧nil (s,n)=false
theorem hpO_keys:∀ {L:List (Nat × SS)} {k:Key} {o:LObj},hpO L k=some o→∃ p∈L,nK p.1 k
  | [],_,_,h=>by cases h
  | (d,.val _)::r,k,o,h=>by
    obtain ⟨p,h1,h2⟩:=hpO_keys (L:=r) h
    exact ⟨p,List.mem_cons_of_mem _ h1,h2⟩
  | (d,.frz _)::r,k,o,h=>by
    obtain ⟨p,h1,h2⟩:=hpO_keys (L:=r) h
    exact ⟨p,List.mem_cons_of_mem _ h1,h2⟩
  | (d,.own esz n cs)::r,k,o,h=>by
    simp only [hpO] at h
    split at h
    · rename_i e;subst e;exact ⟨_,List.mem_cons_self ..,.inl rfl⟩
    · obtain ⟨p,h1,h2⟩:=hpO_keys (L:=r) h
      exact ⟨p,List.mem_cons_of_mem _ h1,h2⟩
  | (d,.box cs)::r,k,o,h=>by
    simp only [hpO] at h
    split at h
    · rename_i e;subst e;exact ⟨_,List.mem_cons_self ..,.inl rfl⟩
    · obtain ⟨p,h1,h2⟩:=hpO_keys (L:=r) h
      exact ⟨p,List.mem_cons_of_mem _ h1,h2⟩
  | (d,.mapS es)::r,k,o,h=>by
    simp only [hpO] at h
    split at h
    · rename_i e;subst e;exact ⟨_,List.mem_cons_self ..,.inl rfl⟩
    · obtain ⟨p,h1,h2⟩:=hpO_keys (L:=r) h
      exact ⟨p,List.mem_cons_of_mem _ h1,h2⟩
  | (d,.boxm cs es)::r,k,o,h=>by
    simp only [hpO] at h
    split at h
    · rename_i e;subst e;exact ⟨_,List.mem_cons_self ..,.inl rfl⟩
    · split at h
      · rename_i e;subst e;exact ⟨_,List.mem_cons_self ..,.inr rfl⟩
      · obtain ⟨p,h1,h2⟩:=hpO_keys (L:=r) h
        exact ⟨p,List.mem_cons_of_mem _ h1,h2⟩
  | (d,.boxmm es fs)::r,k,o,h=>by
    simp only [hpO] at h
    split at h
    · rename_i e;subst e;exact ⟨_,List.mem_cons_self ..,.inl rfl⟩
    · split at h
      · rename_i e;subst e;exact ⟨_,List.mem_cons_self ..,.inr rfl⟩
      · split at h
        · rename_i e;subst e;exact ⟨_,List.mem_cons_self ..,.inr rfl⟩
        · obtain ⟨p,h1,h2⟩:=hpO_keys (L:=r) h
          exact ⟨p,List.mem_cons_of_mem _ h1,h2⟩
  | (d,.que esz q n cs)::r,k,o,h=>by
    simp only [hpO] at h
    split at h
    · rename_i e;subst e;exact ⟨_,List.mem_cons_self ..,.inl rfl⟩
    · obtain ⟨p,h1,h2⟩:=hpO_keys (L:=r) h
      exact ⟨p,List.mem_cons_of_mem _ h1,h2⟩
  | (d,.itr left)::r,k,o,h=>by
    simp only [hpO] at h
    split at h
    · rename_i e;subst e;exact ⟨_,List.mem_cons_self ..,.inl rfl⟩
    · obtain ⟨p,h1,h2⟩:=hpO_keys (L:=r) h
      exact ⟨p,List.mem_cons_of_mem _ h1,h2⟩
  | (d,.mapR esz es)::r,k,o,h=>by
    simp only [hpO] at h
    split at h
    · rename_i e;subst e;exact ⟨_,List.mem_cons_self ..,.inl rfl⟩
    · split at h
      · rename_i e;exact ⟨_,List.mem_cons_self ..,.inr e⟩
      · obtain ⟨p,h1,h2⟩:=hpO_keys (L:=r) h
        exact ⟨p,List.mem_cons_of_mem _ h1,h2⟩
  | (d,.ownF esz n cs)::r,k,o,h=>by
    simp only [hpO] at h
    split at h
    · rename_i e;subst e;exact ⟨_,List.mem_cons_self ..,.inl rfl⟩
    · obtain ⟨p,h1,h2⟩:=hpO_keys (L:=r) h
      exact ⟨p,List.mem_cons_of_mem _ h1,h2⟩
  | (d,.boxo esz n cs)::r,k,o,h=>by
    simp only [hpO] at h
    split at h
    · rename_i e;subst e;exact ⟨_,List.mem_cons_self ..,.inl rfl⟩
    · split at h
      · rename_i e;subst e;exact ⟨_,List.mem_cons_self ..,.inr rfl⟩
      · obtain ⟨p,h1,h2⟩:=hpO_keys (L:=r) h
        exact ⟨p,List.mem_cons_of_mem _ h1,h2⟩
  | (d,.boxG pre esz n cs post)::r,k,o,h=>by
    simp only [hpO] at h
    split at h
    · rename_i e;subst e;exact ⟨_,List.mem_cons_self ..,.inl rfl⟩
    · split at h
      · rename_i e;subst e;exact ⟨_,List.mem_cons_self ..,.inr rfl⟩
      · obtain ⟨p,h1,h2⟩:=hpO_keys (L:=r) h
        exact ⟨p,List.mem_cons_of_mem _ h1,h2⟩
  | (d,.clo ..)::r,k,o,h=>by
    obtain ⟨p,h1,h2⟩:=hpO_keys (L:=r) h
    exact ⟨p,List.mem_cons_of_mem _ h1,h2⟩
  | (d,.ali _)::r,k,o,h=>by
    obtain ⟨p,h1,h2⟩:=hpO_keys (L:=r) h
    exact ⟨p,List.mem_cons_of_mem _ h1,h2⟩
  | (d,.rows esz rs)::r,k,o,h=>by
    simp only [hpO] at h
    split at h
    · rename_i e;subst e;exact ⟨_,List.mem_cons_self ..,.inl rfl⟩
    · split at h
      · rename_i e;exact ⟨_,List.mem_cons_self ..,.inr e⟩
      · obtain ⟨p,h1,h2⟩:=hpO_keys (L:=r) h
        exact ⟨p,List.mem_cons_of_mem _ h1,h2⟩
theorem mapV_get (d:Nat):∀ (es:List (V × Nat × List V)) (i j:Nat) (x:V × V),(mapV d i es)[j]? = some x→∃ e,es[j]? = some e∧x=(e.1,.msl (4398046511104+d,i+j) 0 0 e.2.1)
  | [],i,j,x,h=>by simp [mapV] at h
  | r::rs,i,0,x,h=>by
    simp only [mapV,List.getElem?_cons_zero,Option.some.injEq] at h
    exact ⟨r,rfl,h.symm⟩
  | r::rs,i,j+1,x,h=>by
    simp only [mapV,List.getElem?_cons_succ] at h
    obtain ⟨r',h1,h2⟩:=mapV_get d rs (i+1) j x h
    exact ⟨r',by simpa using h1,by rw [h2,show i+1+j=i+(j+1) by omega]⟩
theorem mapV_len (d:Nat):∀ (es:List (V × Nat × List V)) (i:Nat),(mapV d i es).length=es.length
  | [],_=>rfl
  | _::es,i=>by simp [mapV,mapV_len d es (i+1)]
theorem dOk_cons {d:Nat} {s:SS} {L:List (Nat × SS)} (h:dOk ((d,s)::L)=true):dOk L=true∧d<1099511627776∧∀ p∈L,p.1≠d∧p.1<1099511627776:=by
  simp only [dOk,List.map_cons,Bool.and_eq_true,decide_eq_true_eq,List.nodup_cons,List.all_cons,List.all_eq_true,List.mem_map,forall_exists_index,and_imp,forall_apply_eq_imp_iff₂] at h ⊢
  obtain ⟨⟨h1,h2⟩,h3,h4⟩:=h
  refine ⟨⟨h2,h4⟩,h3,fun p hp=>⟨?_,h4 p hp⟩⟩
  rintro rfl
  exact h1 ⟨p,hp,rfl⟩
theorem nK_apart {d:Nat} {L:List (Nat × SS)} (hd:d<1099511627776) (hL:∀ p∈L,p.1≠d∧p.1<1099511627776) {k:Key} (h:∃ p∈L,nK p.1 k):¬ nK d k:=by
  obtain ⟨p,hp,h⟩:=h
  obtain ⟨h1,h2⟩:=hL p hp
  unfold nK at *
  omega
instance (d:Nat) (k:Key):Decidable (nK d k):=by unfold nK;infer_instance
section
variable {σ:St} {hf:Heap}
theorem Wit.consX {d:Nat} {s:SS} {L:List (Nat × SS)} {U U':Key→Prop} {pi hp:Key→Option Key} {nil hn:Key→Bool} (hok:dOk ((d,s)::L)=true) (ht:Wit σ hf L U' pi nil) (hU:∀ k,U k→U' k)
    (h1:∀ k' k,nK d k'→hp k' = some k→¬ U k∧k.1<PK∧U' k) (h2:∀ k1 k2 k,nK d k1→nK d k2→hp k1=some k→hp k2=some k→k1=k2) (h3:∀ k',nK d k'→hn k' = true→hp k' = none)
    (h4:∀ r:Ren,(∀ k' k,nK d k'→hp k' = some k→r.pi k' = some k)→(∀ k',nK d k'→hn k' = true→r.nil k' = true)→r.fz=hf→(∀ p∈L,VR σ.H r (σ.tm p.1) (p.2.v p.1))→VR σ.H r (σ.tm d) (s.v d))
    (h5:∀ r:Ren,(∀ k' k,nK d k'→hp k' = some k→r.pi k' = some k)→(∀ k',nK d k'→hn k' = true→r.nil k' = true)→r.fz=hf→∀ k' o',nK d k'→hpO ((d,s)::L) k' = some o' →
      (∃ k gen esz cs cs',hp k' = some k∧σ.H k=some (.row gen esz cs)∧o' = .row 0 esz cs'∧cs.length=cs'.length∧∀ (j:Nat) (x y:V),cs[j]? = some x→cs'[j]? = some y→VR σ.H r x y) ∨
        (hn k' = true∧∃ esz,o' = .row 0 esz [])∨(∃ k es,hp k' = some k∧σ.H k=some (.map es)∧o' = .map (es.map fun p=>(p.1,snap hf 8 p.2))∧es.all (fun p=>imV 8 p.1)=true) ∨
      (∃ k left last,hp k' = some k∧σ.H k=some (.it left last)∧o' = .it left none∧left.all (fun p=>imV 8 p.1 && imV 8 p.2)=true) ∨
      (∃ k es es',hp k' = some k∧σ.H k=some (.map es)∧o' = .map es'∧es.length=es'.length∧∀ (j:Nat) (p q:V × V),es[j]? = some p→es'[j]? = some q→p.1=q.1∧imV 8 p.1=true∧VR σ.H r p.2 q.2))
    (h6:∀ k',¬ nK d k'→hpO ((d,s)::L) k' = hpO L k') (h7:∀ k',nK d k'→mxO ((d,s)::L)≤k'.2→hp k' = none∧hn k' = false) (h8:mxO L≤mxO ((d,s)::L)) :
    Wit σ hf ((d,s)::L) U (fun k'=>if nK d k' then hp k' else pi k') (fun k'=>if nK d k' then hn k' else nil k'):=by
  obtain ⟨_,hd,hL⟩:=dOk_cons hok
  have offp:∀ k' k,pi k' = some k→¬ nK d k':=fun k' k h=>nK_apart hd hL (ht.fpi k' k h).2.2
  have offn:∀ k',nil k' = true→¬ nK d k':=fun k' h=>nK_apart hd hL (ht.fnil k' h).2
  have self:∃ p∈(d,s)::L,p.1=d:=⟨_,List.mem_cons_self ..,rfl⟩
  refine ⟨?_,?_,?_,?_,?_,?_⟩
  · intro k' k h
    try simp only [] at h
    split at h
    · rename_i hk
      obtain ⟨a1,a2,_⟩:=h1 k' k hk h
      exact ⟨a1,a2,_,List.mem_cons_self ..,hk⟩
    · obtain ⟨a1,a2,p,hp1,hp2⟩:=ht.fpi k' k h
      exact ⟨fun hu=>a1 (hU k hu),a2,p,List.mem_cons_of_mem _ hp1,hp2⟩
  · intro k1 k2 k ha hb
    try simp only [] at ha hb
    split at ha<;>split at hb
    · rename_i e1 e2;exact h2 k1 k2 k e1 e2 ha hb
    · rename_i e1 e2;exact absurd (h1 k1 k e1 ha).2.2 (ht.fpi k2 k hb).1
    · rename_i e1 e2;exact absurd (h1 k2 k e2 hb).2.2 (ht.fpi k1 k ha).1
    · exact ht.finj k1 k2 k ha hb
  · intro k' h
    try simp only [] at h ⊢
    split at h
    · rename_i hk
      rw [if_pos hk]
      exact ⟨h3 k' hk h,_,List.mem_cons_self ..,hk⟩
    · rename_i hk
      rw [if_neg hk]
      obtain ⟨a1,p,hp1,hp2⟩:=ht.fnil k' h
      exact ⟨a1,p,List.mem_cons_of_mem _ hp1,hp2⟩
  · intro r e1 e2 e3 p hp'
    rcases List.mem_cons.1 hp' with rfl|hp'
    · exact h4 r (fun k' k hk h=>e1 k' k (by rw [if_pos hk];exact h)) (fun k' hk h=>e2 k' (by rw [if_pos hk];exact h)) e3 (ht.ftm r (fun k' k h=>e1 k' k (by rw [if_neg (offp k' k h)];exact h)) (fun k' h=>e2 k' (by rw [if_neg (offn k' h)];exact h)) e3)
    · exact ht.ftm r (fun k' k h=>e1 k' k (by rw [if_neg (offp k' k h)];exact h)) (fun k' h=>e2 k' (by rw [if_neg (offn k' h)];exact h)) e3 p hp'
  · intro r e1 e2 e3 k' o' ho
    by_cases hk:nK d k'
    · rcases h5 r (fun k' k hk h=>e1 k' k (by rw [if_pos hk];exact h)) (fun k' hk h=>e2 k' (by rw [if_pos hk];exact h)) e3 k' o' hk ho with ⟨k,gen,esz,cs,cs',a1,a2⟩|⟨a1,a2⟩|⟨k,es,a1,a2⟩|⟨k,left,last,a1,a2⟩|⟨k,es,es',a1,a2⟩
      · exact .inl ⟨k,gen,esz,cs,cs',by rw [if_pos hk];exact a1,a2⟩
      · exact .inr (.inl ⟨by rw [if_pos hk];exact a1,a2⟩)
      · exact .inr (.inr (.inl ⟨k,es,by rw [if_pos hk];exact a1,a2⟩))
      · exact .inr (.inr (.inr (.inl ⟨k,left,last,by rw [if_pos hk];exact a1,a2⟩)))
      · exact .inr (.inr (.inr (.inr ⟨k,es,es',by rw [if_pos hk];exact a1,a2⟩)))
    · rw [h6 k' hk] at ho
      rcases ht.fH r (fun k' k h=>e1 k' k (by rw [if_neg (offp k' k h)];exact h)) (fun k' h=>e2 k' (by rw [if_neg (offn k' h)];exact h)) e3 k' o' ho with ⟨k,gen,esz,cs,cs',a1,a2⟩|⟨a1,a2⟩|⟨k,es,a1,a2⟩|⟨k,left,last,a1,a2⟩|⟨k,es,es',a1,a2⟩
      · exact .inl ⟨k,gen,esz,cs,cs',by rw [if_neg hk];exact a1,a2⟩
      · exact .inr (.inl ⟨by rw [if_neg hk];exact a1,a2⟩)
      · exact .inr (.inr (.inl ⟨k,es,by rw [if_neg hk];exact a1,a2⟩))
      · exact .inr (.inr (.inr (.inl ⟨k,left,last,by rw [if_neg hk];exact a1,a2⟩)))
      · exact .inr (.inr (.inr (.inr ⟨k,es,es',by rw [if_neg hk];exact a1,a2⟩)))
  · intro s' n hn'
    try simp only []
    by_cases hk:nK d (s',n)
    · rw [if_pos hk,if_pos hk];exact h7 _ hk hn'
    · rw [if_neg hk,if_neg hk];exact ht.fcnt s' n (Nat.le_trans h8 hn')
theorem Wit.cons {d:Nat} {s:SS} {L:List (Nat × SS)} {U U':Key→Prop} {pi hp:Key→Option Key} {nil hn:Key→Bool} (hok:dOk ((d,s)::L)=true) (ht:Wit σ hf L U' pi nil) (hU:∀ k,U k→U' k)
    (h1:∀ k' k,nK d k'→hp k' = some k→¬ U k∧k.1<PK∧U' k) (h2:∀ k1 k2 k,nK d k1→nK d k2→hp k1=some k→hp k2=some k→k1=k2) (h3:∀ k',nK d k'→hn k' = true→hp k' = none)
    (h4:∀ r:Ren,(∀ k' k,nK d k'→hp k' = some k→r.pi k' = some k)→(∀ k',nK d k'→hn k' = true→r.nil k' = true)→r.fz=hf→VR σ.H r (σ.tm d) (s.v d))
    (h5:∀ r:Ren,(∀ k' k,nK d k'→hp k' = some k→r.pi k' = some k)→(∀ k',nK d k'→hn k' = true→r.nil k' = true)→r.fz=hf→∀ k' o',nK d k'→hpO ((d,s)::L) k' = some o' →
      (∃ k gen esz cs cs',hp k' = some k∧σ.H k=some (.row gen esz cs)∧o' = .row 0 esz cs'∧cs.length=cs'.length∧∀ (j:Nat) (x y:V),cs[j]? = some x→cs'[j]? = some y→VR σ.H r x y) ∨
        (hn k' = true∧∃ esz,o' = .row 0 esz [])∨(∃ k es,hp k' = some k∧σ.H k=some (.map es)∧o' = .map (es.map fun p=>(p.1,snap hf 8 p.2))∧es.all (fun p=>imV 8 p.1)=true) ∨
      (∃ k left last,hp k' = some k∧σ.H k=some (.it left last)∧o' = .it left none∧left.all (fun p=>imV 8 p.1 && imV 8 p.2)=true) ∨
      (∃ k es es',hp k' = some k∧σ.H k=some (.map es)∧o' = .map es'∧es.length=es'.length∧∀ (j:Nat) (p q:V × V),es[j]? = some p→es'[j]? = some q→p.1=q.1∧imV 8 p.1=true∧VR σ.H r p.2 q.2))
    (h6:∀ k',¬ nK d k'→hpO ((d,s)::L) k' = hpO L k') (h7:∀ k',nK d k'→mxO ((d,s)::L)≤k'.2→hp k' = none∧hn k' = false) (h8:mxO L≤mxO ((d,s)::L)) :
    Wit σ hf ((d,s)::L) U (fun k'=>if nK d k' then hp k' else pi k') (fun k'=>if nK d k' then hn k' else nil k') :=
  ht.consX hok hU h1 h2 h3 (fun r a b c _=>h4 r a b c) h5 h6 h7 h8
theorem mxO_pos:∀ L:List (Nat × SS),1≤mxO L
  | []=>Nat.le_refl _
  | (_,.val _)::r=>mxO_pos r
  | (_,.frz _)::r=>mxO_pos r
  | (_,.own ..)::r=>mxO_pos r
  | (_,.box _)::r=>mxO_pos r
  | (_,.mapS _)::r=>mxO_pos r
  | (_,.boxm ..)::r=>mxO_pos r
  | (_,.boxmm ..)::r=>by have:=mxO_pos r;simp only [mxO];omega
  | (_,.ownF ..)::r=>mxO_pos r
  | (_,.boxo ..)::r=>mxO_pos r
  | (_,.boxG ..)::r=>mxO_pos r
  | (_,.clo ..)::r=>mxO_pos r
  | (_,.ali _)::r=>mxO_pos r
  | (_,.que ..)::r=>mxO_pos r
  | (_,.itr _)::r=>mxO_pos r
  | (_,.rows _ rs)::r=>by have:=mxO_pos r;simp only [mxO];omega
  | (_,.mapR _ es)::r=>by have:=mxO_pos r;simp only [mxO];omega
theorem pure_get {cs:List V} {r:Ren} (h:cs.all (imV 8)=true) (j:Nat) (x y:V) (hx:cs[j]? = some x) (hy:cs[j]? = some y):VR σ.H r x y:=by
  rw [hx] at hy;cases hy
  exact .pure x 8 (List.all_eq_true.1 h x (List.mem_of_getElem? hx))
theorem wit_of:∀ (L:List (Nat × SS)) (U:Key→Prop),dOk L=true→entL σ hf L U→∃ pi nil,Wit σ hf L U pi nil
  | [],U,_,_=>⟨fun _=>none,fun _=>false,⟨fun _ _ h=>(by cases h),fun _ _ _ h=>(by cases h),fun _ h=>(by cases h),fun _ _ _ _ p hp=>(by cases hp),fun _ _ _ _ _ _ h=>(by cases h),fun _ _ _=>⟨rfl,rfl⟩⟩⟩
  | (d,s)::L,U,hok,h=>by
    obtain ⟨hok',hd,hL⟩:=dOk_cons hok
    have noK:∀ (k':Key) o,nK d k'→hpO L k' = some o→False:=fun k' o hk ho=>nK_apart hd hL (hpO_keys ho) hk
    cases s with
    | val v =>
      obtain ⟨⟨h1,h2⟩,h⟩:=h
      obtain ⟨pi,nil,hw⟩:=wit_of L U hok' h
      exact ⟨_,_,hw.cons (hp:=fun _=>none) (hn:=fun _=>false) hok (fun _ h=>h) (fun _ _ _ h=>by cases h) (fun _ _ _ _ _ h=>by cases h) (fun _ _ _=>rfl) (fun r _ _ _=>by rw [h1];exact .pure v 8 h2)
        (fun r _ _ _ k' o' hk ho=>(noK k' o' hk ho).elim) (fun _ _=>rfl) (fun _ _ _=>⟨rfl,rfl⟩) (Nat.le_refl _)⟩
    | frz v =>
      obtain ⟨h1,h⟩:=h
      obtain ⟨pi,nil,hw⟩:=wit_of L U hok' h
      exact ⟨_,_,hw.cons (hp:=fun _=>none) (hn:=fun _=>false) hok (fun _ h=>h) (fun _ _ _ h=>by cases h) (fun _ _ _ _ _ h=>by cases h) (fun _ _ _=>rfl) (fun r _ _ hr=>by rw [SS.v,← h1,← hr];exact .frz _ 8)
        (fun r _ _ _ k' o' hk ho=>(noK k' o' hk ho).elim) (fun _ _=>rfl) (fun _ _ _=>⟨rfl,rfl⟩) (Nat.le_refl _)⟩
    | itr left=>exact False.elim h
    | que esz q n cs=>exact False.elim h
    | own esz n cs =>
      simp only [entL,entS] at h
      generalize htm:σ.tm d=X at h
      cases X with
      | msl k g off m =>
        simp only [ownAt] at h
        split at h
        case h_2=>exact h.elim
        rename_i g' esz' cs' hk
        obtain ⟨⟨rfl,rfl,rfl,rfl,rfl,hall,hU,hP⟩,h⟩:=h
        obtain ⟨pi,nil,hw⟩:=wit_of L _ hok' h
        refine ⟨_,_,hw.cons (hp:=fun k'=>if k' = (2199023255552+d,0) then some k else none) (hn:=fun _=>false) hok (fun _ h=>.inr h) ?_ ?_ (fun _ _ h=>by cases h) ?_ ?_ ?_ ?_ (Nat.le_refl _)⟩
        · intro k' k1 _ h1
          try simp only [] at h1
          split at h1
          · cases h1;exact ⟨hU,hP,.inl rfl⟩
          · cases h1
        · intro k1 k2 k3 _ _ a b
          try simp only [] at a b
          split at a
          · split at b
            · rename_i e1 e2;rw [e1,e2]
            · cases b
          · cases a
        · intro r e1 _ _
          rw [htm]
          exact .msl _ _ _ _ _ _ _ (by show _<PK;unfold PK;omega) (e1 _ k (.inl rfl) (by simp)) hk
        · intro r e1 _ _ k' o' hk' ho
          simp only [hpO] at ho
          split at ho
          · rename_i e
            cases ho
            exact .inl ⟨k,_,_,_,_,by simp [e],hk,rfl,rfl,pure_get hall⟩
          · exact (noK k' o' hk' ho).elim
        · intro k' hk'
          simp only [hpO]
          rw [if_neg]
          rintro rfl
          exact hk' (.inl rfl)
        · intro k' _ hm
          have:=mxO_pos L
          simp only [mxO] at hm
          refine ⟨if_neg ?_,rfl⟩
          rintro rfl
          simp at hm;omega
      | e0 =>
        obtain ⟨⟨rfl,rfl⟩,h⟩:=h
        obtain ⟨pi,nil,hw⟩:=wit_of L _ hok' h
        refine ⟨_,_,hw.cons (hp:=fun _=>none) (hn:=fun k'=>decide (k' = (2199023255552+d,0))) hok (fun _ h=>h) (fun _ _ _ h=>by cases h) (fun _ _ _ _ _ h=>by cases h) (fun _ _ _=>rfl) ?_ ?_ ?_ ?_ (Nat.le_refl _)⟩
        · intro r _ e2 _
          rw [htm]
          exact .nil _ (e2 _ (.inl rfl) (by simp))
        · intro r e1 _ _ k' o' hk' ho
          simp only [hpO] at ho
          split at ho
          · rename_i e
            cases ho
            exact .inr (.inl ⟨by simp [e],_,rfl⟩)
          · exact (noK k' o' hk' ho).elim
        · intro k' hk'
          simp only [hpO]
          rw [if_neg]
          rintro rfl
          exact hk' (.inl rfl)
        · intro k' _ hm
          have:=mxO_pos L
          simp only [mxO] at hm
          refine ⟨rfl,?_⟩
          simp only [decide_eq_false_iff_not]
          rintro rfl
          simp at hm;omega
      | _=>exact h.elim
    | ownF esz n cs=>exact False.elim h
    | boxo esz n cs=>exact False.elim h
    | boxG pre esz n cs post=>exact False.elim h
    | ali d' =>
      obtain ⟨⟨h1,h2⟩,h⟩:=h
      obtain ⟨pi,nil,hw⟩:=wit_of L U hok' h
      have hbox:∀ (d':Nat) (s':SS),s'.isBox=true→s'.v d' = .mp (2199023255552+d',0) 0 0:=by
        intro d' s' hb
        cases s'<;>first|rfl|cases hb
      refine ⟨_,_,hw.consX (hp:=fun _=>none) (hn:=fun _=>false) hok (fun _ h=>h) (fun _ _ _ h=>by cases h) (fun _ _ _ _ _ h=>by cases h) (fun _ _ _=>rfl) (fun r e1 e2 e3 e4=>?_)
        (fun r _ _ _ k' o' hk ho=>(noK k' o' hk ho).elim) (fun _ _=>rfl) (fun _ _ _=>⟨rfl,rfl⟩) (Nat.le_refl _)⟩
      rw [h1]
      obtain ⟨q,hq,hq2⟩:=List.any_eq_true.1 h2
      simp only [Bool.and_eq_true,beq_iff_eq] at hq2
      obtain ⟨rfl,hb⟩:=hq2
      have:=e4 q hq
      rw [hbox _ _ hb] at this
      exact this
    | clo f ds =>
      obtain ⟨⟨h1,h2⟩,h⟩:=h
      obtain ⟨pi,nil,hw⟩:=wit_of L U hok' h
      have hbox:∀ (d':Nat) (s':SS),s'.isBox=true→s'.v d' = .mp (2199023255552+d',0) 0 0:=by
        intro d' s' hb
        cases s'<;>first|rfl|cases hb
      refine ⟨_,_,hw.consX (hp:=fun _=>none) (hn:=fun _=>false) hok (fun _ h=>h) (fun _ _ _ h=>by cases h) (fun _ _ _ _ _ h=>by cases h) (fun _ _ _=>rfl) (fun r e1 e2 e3 e4=>?_)
        (fun r _ _ _ k' o' hk ho=>(noK k' o' hk ho).elim) (fun _ _=>rfl) (fun _ _ _=>⟨rfl,rfl⟩) (Nat.le_refl _)⟩
      rw [h1]
      refine .fn f _ _ (by simp) fun j x y hx hy=>?_
      rw [List.getElem?_map,Option.map_eq_some_iff] at hx hy
      obtain ⟨d1,hd1,rfl⟩:=hx
      obtain ⟨d2,hd2,rfl⟩:=hy
      rw [hd1] at hd2;cases hd2
      have:=List.all_eq_true.1 h2 d1 (List.mem_of_getElem? hd1)
      obtain ⟨q,hq,hq2⟩:=List.any_eq_true.1 this
      simp only [Bool.and_eq_true,beq_iff_eq] at hq2
      obtain ⟨rfl,hb⟩:=hq2
      have:=e4 q hq
      rw [hbox _ _ hb] at this
      exact this
    | box cs =>
      simp only [entL,entS] at h
      generalize htm:σ.tm d=X at h
      cases X with
      | mp k g off =>
        simp only [boxAt] at h
        split at h
        case h_2=>exact h.elim
        rename_i g' esz' cs' hk
        obtain ⟨⟨rfl,rfl,rfl,rfl,hall,hU,hP⟩,h⟩:=h
        obtain ⟨pi,nil,hw⟩:=wit_of L _ hok' h
        refine ⟨_,_,hw.cons (hp:=fun k'=>if k' = (2199023255552+d,0) then some k else none) (hn:=fun _=>false) hok (fun _ h=>.inr h) ?_ ?_ (fun _ _ h=>by cases h) ?_ ?_ ?_ ?_ (Nat.le_refl _)⟩
        · intro k' k1 _ h1
          try simp only [] at h1
          split at h1
          · cases h1;exact ⟨hU,hP,.inl rfl⟩
          · cases h1
        · intro k1 k2 k3 _ _ a b
          try simp only [] at a b
          split at a
          · split at b
            · rename_i e1 e2;rw [e1,e2]
            · cases b
          · cases a
        · intro r e1 _ _
          rw [htm]
          exact .mp _ _ _ _ _ _ (by show _<PK;unfold PK;omega) (e1 _ k (.inl rfl) (by simp)) hk
        · intro r e1 _ _ k' o' hk' ho
          simp only [hpO] at ho
          split at ho
          · rename_i e
            cases ho
            exact .inl ⟨k,_,_,_,_,by simp [e],hk,rfl,rfl,pure_get hall⟩
          · exact (noK k' o' hk' ho).elim
        · intro k' hk'
          simp only [hpO]
          rw [if_neg]
          rintro rfl
          exact hk' (.inl rfl)
        · intro k' _ hm
          have:=mxO_pos L
          simp only [mxO] at hm
          refine ⟨if_neg ?_,rfl⟩
          rintro rfl
          simp at hm;omega
      | _=>exact h.elim
    | mapS es =>
      simp only [entL,entS] at h
      generalize htm:σ.tm d=X at h
      cases X with
      | mm k =>
        simp only [mapAt] at h
        split at h
        case h_2=>exact h.elim
        rename_i es' hk
        obtain ⟨⟨rfl,hall,hU,hP⟩,h⟩:=h
        obtain ⟨pi,nil,hw⟩:=wit_of L _ hok' h
        refine ⟨_,_,hw.cons (hp:=fun k'=>if k' = (2199023255552+d,0) then some k else none) (hn:=fun _=>false) hok (fun _ h=>.inr h) ?_ ?_ (fun _ _ h=>by cases h) ?_ ?_ ?_ ?_ (Nat.le_refl _)⟩
        · intro k' k1 _ h1
          try simp only [] at h1
          split at h1
          · cases h1;exact ⟨hU,hP,.inl rfl⟩
          · cases h1
        · intro k1 k2 k3 _ _ a b
          try simp only [] at a b
          split at a
          · split at b
            · rename_i e1 e2;rw [e1,e2]
            · cases b
          · cases a
        · intro r e1 _ _
          rw [htm]
          exact .mm _ _ _ (by show _<PK;unfold PK;omega) (e1 _ k (.inl rfl) (by simp)) hk
        · intro r e1 _ _ k' o' hk' ho
          simp only [hpO] at ho
          split at ho
          · rename_i e
            cases ho
            exact .inr (.inr (.inl ⟨k,_,by simp [e],hk,rfl,hall⟩))
          · exact (noK k' o' hk' ho).elim
        · intro k' hk'
          simp only [hpO]
          rw [if_neg]
          rintro rfl
          exact hk' (.inl rfl)
        · intro k' _ hm
          have:=mxO_pos L
          simp only [mxO] at hm
          refine ⟨if_neg ?_,rfl⟩
          rintro rfl
          simp at hm;omega
      | _=>exact h.elim
    | boxm cs es=>exact False.elim h
    | boxmm es fs =>
      simp only [entL,entS] at h
      generalize htm:σ.tm d=X at h
      cases X with
      | mp k g off =>
        simp only [boxmmAt] at h
        split at h
        case h_2=>exact h.elim
        rename_i g' esz' cs' hk
        split at h
        case h_2=>exact h.elim
        rename_i cs'' k2 k3
        split at h
        case h_2=>exact h.elim
        rename_i es' hk2
        split at h
        case h_2=>exact h.elim
        rename_i fs' hk3
        obtain ⟨⟨rfl,rfl,rfl,hU,hP⟩,⟨rfl,hall2,hU2,hP2⟩,⟨rfl,hall3,hU3,hP3,h32⟩,h⟩:=h
        obtain ⟨pi,nil,hw⟩:=wit_of L _ hok' h
        have hne:k≠k2:=by rintro rfl;rw [hk] at hk2;cases hk2
        have hne3:k≠k3:=by rintro rfl;rw [hk] at hk3;cases hk3
        have h23:k2≠k3:=fun e=>h32 e.symm
        have hdd:((4398046511104+d,0):Key)≠(2199023255552+d,0):=by intro e;injection e with e;omega
        have hdd1:((4398046511104+d,1):Key)≠(2199023255552+d,0):=by intro e;injection e with e;omega
        have hdd2:((4398046511104+d,1):Key)≠(4398046511104+d,0):=by intro e;injection e with _ e;cases e
        refine ⟨_,_,hw.cons (hp:=fun k'=>if k' = (2199023255552+d,0) then some k else if k' = (4398046511104+d,0) then some k2 else if k' = (4398046511104+d,1) then some k3 else none) (hn:=fun _=>false) hok (fun _ h=>.inr h) ?_ ?_ (fun _ _ h=>by cases h) ?_ ?_ ?_ ?_ (by simp only [mxO];omega)⟩
        · intro k' k1 _ h1
          try simp only [] at h1
          split at h1
          · cases h1;exact ⟨hU,hP,.inl (.inl rfl)⟩
          · split at h1
            · cases h1;exact ⟨hU2,hP2,.inl (.inr (.inl rfl))⟩
            · split at h1
              · cases h1;exact ⟨hU3,hP3,.inl (.inr (.inr rfl))⟩
              · cases h1
        · intro k1 k3 k4 _ _ a b
          try simp only [] at a b
          repeat' (split at a)
          all_goals repeat' (split at b)
          all_goals first
            | (rename_i e1 e2;rw [e1,e2];done)
            | (cases a;done)
            | (cases b;done)
            | (cases a;cases b;first|exact (hne rfl).elim|exact (hne3 rfl).elim|exact (h23 rfl).elim)
            | (cases a;cases b;simp_all;done)
        · intro r e1 _ _
          rw [htm]
          exact .mp _ _ _ _ _ _ (by show _<PK;unfold PK;omega) (e1 _ k (.inl rfl) (by simp)) hk
        · intro r e1 _ _ k' o' hk' ho
          simp only [hpO] at ho
          split at ho
          · rename_i e
            cases ho
            refine .inl ⟨k,_,_,_,_,by simp [e],hk,rfl,rfl,fun j x y hx hy=>?_⟩
            match j,hx,hy with
            | 0,hx,hy =>
              cases hx;cases hy
              exact .mm _ _ _ (by show _<PK;unfold PK;omega) (e1 _ k2 (.inr rfl) (by rw [if_neg hdd,if_pos rfl])) hk2
            | 1,hx,hy =>
              cases hx;cases hy
              exact .mm _ _ _ (by show _<PK;unfold PK;omega) (e1 _ k3 (.inr rfl) (by rw [if_neg hdd1,if_neg hdd2,if_pos rfl])) hk3
            | j+2,hx,_=>simp at hx
          · split at ho
            · rename_i e0 e
              cases ho
              exact .inr (.inr (.inl ⟨k2,_,by rw [if_neg e0,if_pos e],hk2,rfl,hall2⟩))
            · split at ho
              · rename_i e0 e2 e
                cases ho
                exact .inr (.inr (.inl ⟨k3,_,by rw [if_neg e0,if_neg e2,if_pos e],hk3,rfl,hall3⟩))
              · exact (noK k' o' hk' ho).elim
        · intro k' hk'
          simp only [hpO]
          rw [if_neg,if_neg,if_neg]
          · rintro rfl;exact hk' (.inr rfl)
          · rintro rfl;exact hk' (.inr rfl)
          · rintro rfl;exact hk' (.inl rfl)
        · intro k' _ hm
          have:=mxO_pos L
          simp only [mxO] at hm
          refine ⟨?_,rfl⟩
          rw [if_neg (by rintro rfl;first|(simp at hm;done)|(simp at hm;omega)),if_neg (by rintro rfl;first|(simp at hm;done)|(simp at hm;omega)),if_neg (by rintro rfl;first|(simp at hm;done)|(simp at hm;omega))]
      | _=>exact h.elim
    | mapR esz es =>
      simp only [entL,entS] at h
      generalize htm:σ.tm d=X at h
      cases X with
      | mm k =>
        simp only [mapRAt] at h
        split at h
        case h_2=>exact h.elim
        rename_i es' hk
        obtain ⟨⟨hlen,hky,hU,hP⟩,κ,hrow,hinj,hout,h⟩:=h
        obtain ⟨pi,nil,hw⟩:=wit_of L _ hok' h
        have hκ:∀ i k',κ i=some k'→¬ (k' = k∨U k')∧k'.1<PK∧i<es.length:=by
          intro i k' hi
          have hlt:i<es.length:=by
            rcases Nat.lt_or_ge i es.length with h|h
            · exact h
            · rw [hout i h] at hi;cases hi
          have hr:=hrow i _ (List.getElem?_eq_getElem hlt)
          revert hr
          cases (es'[i]?.map (·.2)) with
          | none=>exact fun h=>h.elim
          | some c =>
            cases c with
            | msl k1 g1 o1 m1 =>
              rintro ⟨cs,_,_,_,_,_,a1,a2,a3⟩
              rw [a3] at hi;cases hi
              exact ⟨a1,a2,hlt⟩
            | e0 =>
              rintro ⟨_,_,a3⟩
              rw [a3] at hi;cases hi
            | _=>exact fun h=>h.elim
        refine ⟨_,_,hw.cons (hp:=fun k'=>if k' = (2199023255552+d,0) then some k else if k'.1=4398046511104+d then κ k'.2 else none)
          (hn:=fun k'=>decide (k'.1=4398046511104+d) && (decide (k'.2<es.length) && (κ k'.2).isNone)) hok (fun _ h=>.inr h) ?_ ?_ ?_ ?_ ?_ ?_ ?_ (by simp only [mxO];omega)⟩
        · intro k' k1 _ h1
          try simp only [] at h1
          split at h1
          · cases h1;exact ⟨hU,hP,.inl (.inl rfl)⟩
          · split at h1
            · obtain ⟨a1,a2,_⟩:=hκ _ _ h1
              exact ⟨fun hu=>a1 (.inr hu),a2,.inl (.inr ⟨_,h1⟩)⟩
            · cases h1
        · intro k1 k2 k3 _ _ a b
          try simp only [] at a b
          split at a
          · rename_i e1
            split at b
            · rename_i e2;rw [e1,e2]
            · split at b
              · cases a;exact ((hκ _ _ b).1 (.inl rfl)).elim
              · cases b
          · split at a
            · rename_i e1
              split at b
              · cases b;exact ((hκ _ _ a).1 (.inl rfl)).elim
              · split at b
                · rename_i e2
                  have:=hinj _ _ _ a b
                  exact Prod.ext (e1.trans e2.symm) this
                · cases b
            · cases a
        · intro k' _ h1
          simp only [Bool.and_eq_true,decide_eq_true_eq,Option.isNone_iff_eq_none] at h1
          obtain ⟨a1,a2,a3⟩:=h1
          rw [if_neg (by rintro rfl;try simp only [] at a1;omega),if_pos a1];exact a3
        · intro r e1 _ _
          rw [htm]
          exact .mm _ _ _ (by show _<PK;unfold PK;omega) (e1 _ k (.inl rfl) (by simp)) hk
        · intro r e1 e2 _ k' o' hk' ho
          simp only [hpO] at ho
          split at ho
          · rename_i e
            cases ho
            refine .inr (.inr (.inr (.inr ⟨k,_,_,by simp [e],hk,rfl,by rw [mapV_len];exact hlen,fun j x y hx hy=>?_⟩)))
            obtain ⟨rj,a1,rfl⟩:=mapV_get d es 0 j y hy
            have hr:=hrow j rj a1
            rw [hx] at hr
            obtain ⟨c1,c2⟩:=hky j x rj hx a1
            refine ⟨c1,c2,?_⟩
            simp only [Option.map_some] at hr
            rw [Nat.zero_add]
            generalize x.2=y at hr
            cases y with
            | msl k1 g1 o1 m1 =>
              obtain ⟨cs,b1,rfl,rfl,_,_,_,_,b3⟩:=hr
              exact .msl _ _ _ _ _ _ _ (by show _<PK;unfold PK;omega) (e1 _ k1 (.inr rfl) (by
                rw [if_neg (by intro e;injection e with e;omega),if_pos rfl];exact b3)) b1
            | e0 =>
              obtain ⟨b1,b2,b3⟩:=hr
              rw [b1]
              have hlt:=(List.getElem?_eq_some_iff.1 a1).1
              exact .nil _ (e2 _ (.inr rfl) (by simp [b3,hlt]))
            | _=>exact hr.elim
          · split at ho
            · rename_i e0 e
              rw [Option.map_eq_some_iff] at ho
              obtain ⟨rj,a1,rfl⟩:=ho
              have hr:=hrow _ rj a1
              revert hr
              cases (es'[k'.2]?.map (·.2)) with
              | none=>exact fun h=>h.elim
              | some c =>
                cases c with
                | msl k1 g1 o1 m1 =>
                  rintro ⟨cs,b1,_,_,rfl,b2,_,_,b3⟩
                  exact .inl ⟨k1,_,_,_,_,by rw [if_neg e0,if_pos e];exact b3,b1,rfl,rfl,pure_get b2⟩
                | e0 =>
                  rintro ⟨b1,b2,b3⟩
                  have hlt:=(List.getElem?_eq_some_iff.1 a1).1
                  exact .inr (.inl ⟨by simp [e,b3,hlt],_,by rw [b2]⟩)
                | _=>exact fun h=>h.elim
            · exact (noK k' o' hk' ho).elim
        · intro k' hk'
          simp only [hpO]
          rw [if_neg,if_neg]
          · intro e;exact hk' (.inr e)
          · rintro rfl
            exact hk' (.inl rfl)
        · intro k' _ hm
          have:=mxO_pos L
          simp only [mxO] at hm
          have hge:es.length≤k'.2:=by omega
          refine ⟨?_,?_⟩
          · rw [if_neg (by rintro rfl;simp at hm;omega)]
            split
            · exact hout _ hge
            · rfl
          · simp only [show ¬ k'.2<es.length by omega,decide_false,Bool.false_and,Bool.and_false]
      | _=>exact h.elim
    | rows esz rs=>exact False.elim h
def hfz (H:Heap) (fl:List Key):Heap:=fun k=>if k∈fl then H k else none
theorem slO_get:∀ {L:List (Nat × SS)} {t:Nat},(∃ p∈L,p.1=t∧slO L t=p.2.v p.1)∨slO L t = .junk
  | [],_=>.inr rfl
  | (d,s)::r,t=>by
    simp only [slO]
    split
    · rename_i e;exact .inl ⟨_,List.mem_cons_self ..,e.symm,rfl⟩
    · rcases slO_get (L:=r) (t:=t) with ⟨p,h1,h2,h3⟩|h
      · exact .inl ⟨p,List.mem_cons_of_mem _ h1,h2,h3⟩
      · exact .inr h
theorem ent_of (L:List (Nat × SS)) (fl:List Key) (hok:dOk L=true) (hfl:fl.all (fun k=>decide (k.1<PK))=true) (h:entL σ (hfz σ.H fl) L (fun k=>k∈fl)):Ent σ (stO L σ.cnt):=by
  obtain ⟨pi,nil,hw⟩:=wit_of L _ hok h
  refine Ent.ren (r:=⟨pi,nil,hfz σ.H fl⟩) ⟨?_,?_,hw.finj,?_,?_,?_,?_,?_⟩
  · intro k o hk
    simp only [hfz] at hk
    split at hk
    · rename_i hm;exact ⟨hk,by simpa using List.all_eq_true.1 hfl k hm⟩
    · cases hk
  · intro k' k hk
    obtain ⟨a1,a2,p,hp,a3⟩:=hw.fpi k' k hk
    have hlt:k'.1<PK:=by
      have:∀ p∈L,p.1<1099511627776:=by
        intro p hp
        simp only [dOk,Bool.and_eq_true,List.all_eq_true,List.mem_map,forall_exists_index,and_imp,forall_apply_eq_imp_iff₂,decide_eq_true_eq] at hok
        exact hok.2 p hp
      have:=this p hp
      unfold nK at a3;unfold PK;omega
    refine ⟨?_,fun h=>by omega,fun _=>a2⟩
    simp only [hfz];rw [if_neg a1]
  · intro k' hk
    obtain ⟨a1,p,hp,a3⟩:=hw.fnil k' hk
    refine ⟨a1,?_⟩
    have:∀ p∈L,p.1<1099511627776:=by
      intro p hp
      simp only [dOk,Bool.and_eq_true,List.all_eq_true,List.mem_map,forall_exists_index,and_imp,forall_apply_eq_imp_iff₂,decide_eq_true_eq] at hok
      exact hok.2 p hp
    have:=this p hp
    unfold nK at a3;unfold PK;omega
  · intro t
    rcases slO_get (L:=L) (t:=t) with ⟨p,h1,h2,h3⟩|h3
    · simp only [stO,h3]
      rw [← h2]
      exact hw.ftm _ (fun _ _ h=>h) (fun _ h=>h) rfl p h1
    · simp only [stO,h3];exact .junk _
  · intro k' o' ho
    rcases hw.fH ⟨pi,nil,hfz σ.H fl⟩ (fun _ _ h=>h) (fun _ h=>h) rfl k' o' ho with ⟨k,gen,esz,cs,cs',a1,a2,a3,a4⟩|h|⟨k,es,a1,a2,a3,a4⟩|⟨k,left,last,a1,a2,a3,a4⟩|⟨k,es,es',a1,a2,a3,a4,a5⟩
    · left
      have hlt:¬ PK≤k'.1:=by
        obtain ⟨_,_,p,hp,a5⟩:=hw.fpi k' k a1
        have:∀ p∈L,p.1<1099511627776:=by
          intro p hp
          simp only [dOk,Bool.and_eq_true,List.all_eq_true,List.mem_map,forall_exists_index,and_imp,forall_apply_eq_imp_iff₂,decide_eq_true_eq] at hok
          exact hok.2 p hp
        have:=this p hp
        unfold nK at a5;unfold PK;omega
      exact ⟨k,gen,esz,cs,cs',a1,a2,by rw [if_neg hlt];exact a3,a4⟩
    · exact .inr (.inl h)
    · right;right;left
      have hlt:k'.1<PK:=by
        obtain ⟨_,_,p,hp,a5⟩:=hw.fpi k' k a1
        have:∀ p∈L,p.1<1099511627776:=by
          intro p hp
          simp only [dOk,Bool.and_eq_true,List.all_eq_true,List.mem_map,forall_exists_index,and_imp,forall_apply_eq_imp_iff₂,decide_eq_true_eq] at hok
          exact hok.2 p hp
        have:=this p hp
        unfold nK at a5;unfold PK;omega
      refine ⟨k,es,_,hlt,a1,a2,a3,by simp,fun j p q hp hq=>?_⟩
      rw [List.getElem?_map,hp] at hq;cases hq
      have:=List.all_eq_true.1 a4 p (List.mem_of_getElem? hp)
      exact ⟨.pure _ 8 this,.frz _ 8⟩
    · right;right;right
      have hlt:k'.1<PK:=by
        obtain ⟨_,_,p,hp,a5⟩:=hw.fpi k' k a1
        have:∀ p∈L,p.1<1099511627776:=by
          intro p hp
          simp only [dOk,Bool.and_eq_true,List.all_eq_true,List.mem_map,forall_exists_index,and_imp,forall_apply_eq_imp_iff₂,decide_eq_true_eq] at hok
          exact hok.2 p hp
        have:=this p hp
        unfold nK at a5;unfold PK;omega
      exact ⟨k,left,last,hlt,a1,a2,a3,fun p hp=>by simpa using List.all_eq_true.1 a4 p hp⟩
    · right;right;left
      have hlt:k'.1<PK:=by
        obtain ⟨_,_,p,hp,a6⟩:=hw.fpi k' k a1
        have:∀ p∈L,p.1<1099511627776:=by
          intro p hp
          simp only [dOk,Bool.and_eq_true,List.all_eq_true,List.mem_map,forall_exists_index,and_imp,forall_apply_eq_imp_iff₂,decide_eq_true_eq] at hok
          exact hok.2 p hp
        have:=this p hp
        unfold nK at a6;unfold PK;omega
      refine ⟨k,es,es',hlt,a1,a2,a3,a4,fun j p q hp hq=>?_⟩
      obtain ⟨b1,b2,b3⟩:=a5 j p q hp hq
      exact ⟨by rw [← b1];exact .pure _ 8 b2,b3⟩
  · intro s n hn
    simp only [stO,cnO] at hn
    have hlt:∀ p∈L,p.1<1099511627776:=by
      intro p hp
      simp only [dOk,Bool.and_eq_true,List.all_eq_true,List.mem_map,forall_exists_index,and_imp,forall_apply_eq_imp_iff₂,decide_eq_true_eq] at hok
      exact hok.2 p hp
    by_cases hs:2199023255552≤s∧s<PK
    · rw [if_neg (by omega),if_pos hs.2] at hn
      exact hw.fcnt s n hn
    · have off:∀ p∈L,¬ nK p.1 (s,n):=by
        intro p hp hk
        have:=hlt p hp
        unfold nK at hk;unfold PK at hs;try simp only [] at hk;omega
      refine ⟨?_,?_⟩
      · cases hh:pi (s,n) with
        | none=>exact hh
        | some k=>obtain ⟨_,_,p,hp,hk⟩:=hw.fpi _ k hh;exact (off p hp hk).elim
      · cases hh:nil (s,n) with
        | false=>exact hh
        | true=>obtain ⟨_,p,hp,hk⟩:=hw.fnil _ hh;exact (off p hp hk).elim
  · intro s hs
    simp only [stO,cnO]
    rw [if_neg (by unfold PK at hs;omega),if_neg (by omega)]
    exact Nat.le_refl _
end
theorem rowV_at (d:Nat):∀ (rs:List (Nat × List V)) (i j:Nat) (h:j<rs.length),(rowV d i rs)[j]? = some (.msl (4398046511104+d,i+j) 0 0 rs[j].1)
  | r::rs,i,0,_=>rfl
  | r::rs,i,j+1,h=>by
    simp only [rowV,List.getElem?_cons_succ]
    rw [rowV_at d rs (i+1) j (by simpa using h),show i+1+j=i+(j+1) by omega];rfl
theorem rowV_ld {d j:Nat} {rs:List (Nat × List V)} (h:j<rs.length):ldV false 1 (rowV d 0 rs) j=some (.msl (4398046511104+d,j) 0 0 rs[j].1):=by
  have:=rowV_at d rs 0 j h
  rw [Nat.zero_add] at this
  simpa [ldV] using this
theorem Ent.cut {σ:St} {key:Key} {g esz:Nat} {cs:List V} (k:Nat) (h:σ.H key=some (.row g esz cs)):Ent σ ⟨σ.tm,hupd σ.H key (.row g esz (cs.take k)),σ.cnt⟩:=by
  rintro E a w ⟨gh,hs⟩
  refine ⟨gh,⟨hs.below,hs.sizeB,hs.size,hs.defers,hs.tm,hs.immlt,hs.imm0,hs.immB,?_,?_,?_,hs.ref0⟩⟩
  · intro k' o ho
    simp only [hupd] at ho
    split at ho
    · rename_i e;subst e;cases ho
      obtain ⟨blk,cap,r1,r2,r3⟩:=hs.obj _ _ h
      refine ⟨blk,cap,r1,r2,?_⟩
      cases blk with
      | none=>exact ⟨by rw [r3.1];simp,r3.2⟩
      | some b =>
        obtain ⟨q1,q2,q3,us,T,fz,t1,t2,t3,t4,t5⟩:=r3
        refine ⟨q1,q2,q3,us,T,fz,t1,t2,by rw [List.length_take];omega,t4,fun j u c hu hc=>?_⟩
        rw [List.getElem?_take] at hc
        split at hc
        · exact t5 j u c hu hc
        · cases hc
    · exact hs.obj _ _ ho
  · intro k1 k2 o1 o2 b h1 h2 hb1 hb2
    have old:∀ (k':Key) (o:LObj),hupd σ.H key (.row g esz (cs.take k)) k' = some o→∃ o',σ.H k' = some o'∧blkOf gh k' o' = blkOf gh k' o:=by
      intro k' o ho
      simp only [hupd] at ho
      split at ho
      · rename_i e;subst e;cases ho
        exact ⟨_,h,rfl⟩
      · exact ⟨o,ho,rfl⟩
    obtain ⟨o1',a1,a2⟩:=old k1 o1 h1
    obtain ⟨o2',b1,b2⟩:=old k2 o2 h2
    exact hs.apart k1 k2 o1' o2' b a1 b1 (by rw [a2];exact hb1) (by rw [b2];exact hb2)
  · intro s n hn
    have hf:=hs.fresh s n hn
    refine ⟨?_,hf.2⟩
    simp only [hupd]
    rw [if_neg]
    · exact hf.1
    · rintro rfl;rw [hf.1] at h;cases h
end Go.Lg
