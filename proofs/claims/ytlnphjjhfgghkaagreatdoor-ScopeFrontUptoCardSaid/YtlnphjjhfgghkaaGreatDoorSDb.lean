/-
  LgHa LgJ LgK LgKa LgL LgM LgN: put together.
-/
import Derived.Test.YtlnphjjhfgghkaaGreatDoorSDa
import Derived.ChangeKeysEq
import Derived.MapKept
import Derived.Laws.StructEq
import Derived.Lib.ConvBytes
import Derived.Laws.BytesString
import Derived.Orders
set_option linter.unusedSimpArgs false
set_option linter.unusedVariables false
namespace Go.Lg
open Go Go.RowKit
def kval1:V→Value
  | .int q n=>.int q n
  | .str s=>.string s
  | .bool b=>.bool b
  | _=>.nilIface
def kval:V→Value
  | .agg cs=>.agg (cs.map kval1).toArray
  | x=>kval1 x
theorem intsK_get {q:IntKind}:∀ {cs:List V},intsK q cs=true→∀ {j:Nat} {c:V},cs[j]? = some c→∃ n,c = .int q n
  | [],_,j,c,h=>by simp at h
  | x::r,hk,j,c,h=>by
    cases x with
    | int q' n =>
      simp only [intsK,Bool.and_eq_true,decide_eq_true_eq] at hk
      cases j with
      | zero=>simp at h;subst h;exact ⟨n,by rw [hk.1]⟩
      | succ j=>exact intsK_get hk.2 (by simpa using h)
    | _=>cases hk
section
variable {P:Program} {g:Gh} {w w':World} {E:Env} {σ:St} {a:Act}
theorem rep_ints {q:IntKind} {vs:Array Value} {cs:List V} (hk:intsK q cs=true) (hs:vs.size=cs.length) (hj:∀ (j:Nat) (v:Value) (c:V),vs[j]? = some v→cs[j]? = some c→Rep g w v c):vs=(cs.map kval1).toArray:=by
  apply Array.ext
  · simp [hs]
  · intro i h1 h2
    have hc:i<cs.length:=by omega
    obtain ⟨n,hn⟩:=intsK_get hk (List.getElem?_eq_getElem hc)
    have:=hj i _ _ (Array.getElem?_eq_getElem h1) (List.getElem?_eq_getElem hc)
    rw [hn] at this
    have:=this.int_inv
    simp [this,hn,kval1]
theorem rep_key {kt:KT} {v:Value} {x:V} (h:Rep g w v x) (hk:keyV kt x=true):v=kval x:=by
  cases x with
  | int q n=>exact h.int_inv
  | str s=>exact h.str_inv
  | bool b=>exact h.bool_inv
  | agg cs =>
    cases kt with
    | arr n q =>
      simp only [keyV,Bool.and_eq_true,decide_eq_true_eq] at hk
      obtain ⟨vs,rfl,hs,hj⟩:=h.agg_inv
      simp only [kval]
      rw [rep_ints hk.2 hs hj]
    | _=>cases hk
  | _=>cases kt<;>cases hk
theorem szT_info {t:TypeId} {n:Nat} (h:szT P t=some n):∃ i,P.info? t=some i∧P.cellsOf t=n:=by
  unfold szT at h
  cases hi:P.info? t with
  | none=>simp [hi] at h
  | some i=>simp [hi] at h;exact ⟨i,rfl,by simp [Program.cellsOf,hi,h]⟩
theorem eqInts_run {e:TypeId} {q:IntKind} (he:P.underlying e=some (.int q)) (d:Nat) {xs ys:List V} (hx:intsK q xs=true) (hy:intsK q ys=true) (hl:xs.length=ys.length):∀ (m s:Nat),s+m=xs.length →
    (Op.eqItems (d+1) e 1 (xs.map kval1).toArray (ys.map kval1).toArray (List.range' s m)).run P w = .ok (eqInts (xs.drop s) (ys.drop s)) w:=by
  intro m
  induction m with
  | zero =>
    intro s hs
    rw [List.drop_of_length_le (by omega),List.drop_of_length_le (by omega)]
    simp [Op.eqItems,eqInts]
  | succ m ih =>
    intro s hs
    have h1:s<xs.length:=by omega
    have h2:s<ys.length:=by omega
    obtain ⟨x,ex⟩:=intsK_get hx (List.getElem?_eq_getElem h1)
    obtain ⟨y,ey⟩:=intsK_get hy (List.getElem?_eq_getElem h2)
    have hp:P.plainKey e=true:=by simp [Program.plainKey,he]
    have gx:(xs.map kval1).toArray[s*1]? = some (.int q x):=by simp [h1,ex,kval1]
    have gy:(ys.map kval1).toArray[s*1]? = some (.int q y):=by simp [h2,ey,kval1]
    have hq:(Op.equalIn (d+1) e (.int q x) (.int q y)).run P w = .ok (x == y) w:=by simp [Op.equalIn,run_underlying he]
    have ih':=ih (s+1) (by omega)
    rw [List.drop_eq_getElem_cons h1,List.drop_eq_getElem_cons h2,ex,ey]
    simp only [List.range'_succ,Op.eqItems,Sem.run_bind,run_part_plain w hp gx,run_part_plain w hp gy,Result.andThen_ok,hq,eqInts]
    cases hxy:(x == y)
    · simp
    · simpa using ih'
theorem equal_arr {t e:TypeId} {q:IntKind} {n:Nat} (d:Nat) (ht:P.underlying t=some (.array n e)) (he:P.underlying e=some (.int q)) (hz:szT P e=some 1) {xs ys:List V} (hx:intsK q xs=true) (hy:intsK q ys=true) (hxl:xs.length=n) (hyl:ys.length=n) :
    (Op.equalIn (d+2) t (.agg (xs.map kval1).toArray) (.agg (ys.map kval1).toArray)).run P w = .ok (eqInts xs ys) w:=by
  obtain ⟨i,hi,hc⟩:=szT_info hz
  rw [run_equalIn_array w (d+1) _ _ ht hi,hc,List.range_eq_range']
  have:=eqInts_run (w:=w) he d hx hy (by omega) n 0 (by omega)
  simpa using this
theorem checkItems {e:TypeId} {q:IntKind} {i0:TypeInfo} (hi:P.info? e=some i0) (hc:P.cellsOf e=1) (he:P.underlying e=some (.int q)) (em:Bool) (d:Nat) {xs:List V} (hx:intsK q xs=true):∀ (m s:Nat),s+m≤xs.length →
    (forIn (List.range' s m) PUnit.unit fun i r=>do Instr.checkKey em (d+1) e (← part e (xs.map kval1).toArray (i*(← sizeOf e)));pure (ForInStep.yield PUnit.unit):Sem PUnit).run P w = .ok PUnit.unit w:=by
  intro m
  induction m with
  | zero=>intro s _;simp
  | succ m ih =>
    intro s hs
    have h1:s<xs.length:=by omega
    obtain ⟨x,ex⟩:=intsK_get hx (List.getElem?_eq_getElem h1)
    have hp:P.plainKey e=true:=by simp [Program.plainKey,he]
    have gx:(xs.map kval1).toArray[s*1]? = some (.int q x):=by simp [h1,ex,kval1]
    have hck:(Instr.checkKey em (d+1) e (.int q x)).run P w = .ok () w:=by simp [Instr.checkKey,run_underlying he]
    simp only [List.range'_succ,List.forIn_cons,Sem.run_bind,run_sizeOf w hi,hc,run_part_plain w hp gx,Result.andThen_ok,hck,Sem.run_pure]
    exact ih (s+1) (by omega)
theorem check_run' (d0:Nat) {k:TypeId} {kt:KT} (hk:ktOf P k=some kt) {x:V} (hx:keyV kt x=true) (em:Bool):(Instr.checkKey em (d0+2) k (kval x)).run P w = .ok () w:=by
  unfold ktOf at hk
  cases hu:P.underlying k with
  | none=>simp [hu] at hk
  | some d =>
    rw [hu] at hk
    cases d with
    | int q=>simp [Instr.checkKey,run_underlying hu]
    | string=>simp [Instr.checkKey,run_underlying hu]
    | bool=>simp [Instr.checkKey,run_underlying hu]
    | array n e =>
      simp only at hk
      cases he:P.underlying e with
      | none=>simp [he] at hk
      | some de =>
        rw [he] at hk
        cases de with
        | int q =>
          simp only at hk
          split at hk
          · rename_i hz
            cases hk
            cases x with
            | agg cs =>
              simp only [keyV,Bool.and_eq_true,decide_eq_true_eq] at hx
              obtain ⟨i,hi,hc⟩:=szT_info hz
              have:=checkItems (w:=w) hi hc he em d0 hx.2 n 0 (by omega)
              simp only [kval]
              rw [Instr.checkKey]
              simp only [Sem.run_bind,run_underlying hu,Result.andThen_ok]
              simp only [Std.Legacy.Range.forIn_eq_forIn_range',Std.Legacy.Range.size,Nat.sub_zero,Nat.add_one_sub_one,Nat.div_one]
              simp only [Sem.run_bind,this,Result.andThen_ok,Sem.run_pure]
            | _=>cases hx
          · cases hk
        | _=>cases hk
    | _=>cases hk
theorem check_run {k:TypeId} {kt:KT} (hk:ktOf P k=some kt) {x:V} (hx:keyV kt x=true) (em:Bool):(Instr.checkKey em 10000 k (kval x)).run P w = .ok () w:=check_run' 9998 hk hx em
def fr (i:Nat) (L:List MapEntry):Option (Nat × V)→Option (Nat × Value)
  | some p=>some (i+p.1,((L[p.1]?).map (·.val)).getD .nilIface)
  | none=>none
theorem fr_cons (i:Nat) (e:MapEntry) (L:List MapEntry) (r:Option (Nat × V)):fr i (e::L) (r.map fun p=>(p.1+1,p.2))=fr (i+1) L r:=by
  cases r with
  | none=>rfl
  | some p=>simp [fr];omega
theorem findNow_ok {d:TypeDesc} {x:V}:∀ (es:List (V × V)) (L:List MapEntry) (i:Nat),L.map (·.key)=es.map (fun p=>kval p.1)→(∀ p∈es,Instr.sameNow d (kval x) (kval p.1)=some (eqK x p.1)) →
    Instr.findNow d (kval x) L i=some (fr i L (findK x es))
  | [],[],i,_,_=>rfl
  | [],e::L,i,h,_=>by simp at h
  | p::es,[],i,h,_=>by simp at h
  | p::es,e::L,i,h,hs=>by
    simp only [List.map_cons,List.cons.injEq] at h
    have h1:=hs p (List.mem_cons_self ..)
    have ih:=findNow_ok es L (i+1) h.2 fun q hq=>hs q (List.mem_cons_of_mem _ hq)
    simp only [Instr.findNow,h.1,h1,findK]
    cases hq:eqK x p.1
    · simp only [Bool.false_eq_true,if_false,fr_cons]
      exact ih
    · simp [fr]
theorem findAsking_ok {k:TypeId} {x:V}:∀ (es:List (V × V)) (L:List MapEntry) (i:Nat),L.map (·.key)=es.map (fun p=>kval p.1)→(∀ p∈es,(Op.equal k (kval x) (kval p.1)).run P w = .ok (eqK x p.1) w) →
    (Instr.findAsking k (kval x) L i).run P w = .ok (fr i L (findK x es)) w
  | [],[],i,_,_=>by simp [Instr.findAsking,findK,fr]
  | [],e::L,i,h,_=>by simp at h
  | p::es,[],i,h,_=>by simp at h
  | p::es,e::L,i,h,hs=>by
    simp only [List.map_cons,List.cons.injEq] at h
    have h1:=hs p (List.mem_cons_self ..)
    have ih:=findAsking_ok es L (i+1) h.2 fun q hq=>hs q (List.mem_cons_of_mem _ hq)
    simp only [Instr.findAsking,h.1,Sem.run_bind,h1,Result.andThen_ok,findK]
    cases hq:eqK x p.1
    · simp only [Bool.false_eq_true,if_false,fr_cons]
      exact ih
    · simp [fr]
theorem findKey_ok {k:TypeId} {kt:KT} (hk:ktOf P k=some kt) {x:V} (hx:keyV kt x=true) {es:List (V × V)} (hes:es.all (fun e=>keyV kt e.1)=true) {L:List MapEntry} (hL:L.map (·.key)=es.map (fun p=>kval p.1)) :
    (Instr.findKey k (kval x) L).run P w = .ok (fr 0 L (findK x es)) w:=by
  rw [List.all_eq_true] at hes
  unfold ktOf at hk
  unfold Instr.findKey
  cases hu:P.underlying k with
  | none=>simp [hu] at hk
  | some d =>
    rw [hu] at hk
    simp only [Sem.run_bind,run_underlying hu,Result.andThen_ok]
    have prim:(∀ p∈es,Instr.sameNow d (kval x) (kval p.1)=some (eqK x p.1))→(match Instr.findNow d (kval x) L 0 with|some r=>pure r|none=>Instr.findAsking k (kval x) L:Sem _).run P w = .ok (fr 0 L (findK x es)) w:=by
      intro h
      rw [findNow_ok es L 0 hL h]
      simp
    cases d with
    | int q =>
      cases hk
      refine prim fun p hp=>?_
      have h1:=hes p hp
      generalize p.1=y at h1
      cases x<;>simp only [keyV,Bool.false_eq_true] at hx
      cases y<;>simp only [keyV,Bool.false_eq_true] at h1
      rw [decide_eq_true_eq] at hx h1
      subst hx h1
      simp [kval,kval1,Instr.sameNow,eqK]
    | string =>
      cases hk
      refine prim fun p hp=>?_
      have h1:=hes p hp
      generalize p.1=y at h1
      cases x<;>simp only [keyV,Bool.false_eq_true] at hx
      cases y<;>simp only [keyV,Bool.false_eq_true] at h1
      simp [kval,kval1,Instr.sameNow,eqK]
    | bool =>
      cases hk
      refine prim fun p hp=>?_
      have h1:=hes p hp
      generalize p.1=y at h1
      cases x<;>simp only [keyV,Bool.false_eq_true] at hx
      cases y<;>simp only [keyV,Bool.false_eq_true] at h1
      simp [kval,kval1,Instr.sameNow,eqK]
    | array n e =>
      simp only at hk
      cases he:P.underlying e with
      | none=>simp [he] at hk
      | some de =>
        rw [he] at hk
        cases de with
        | int q =>
          simp only at hk
          split at hk
          · rename_i hz
            cases hk
            cases x with
            | agg xs =>
              simp only [keyV,Bool.and_eq_true,decide_eq_true_eq] at hx
              have ask:=findAsking_ok (P:=P) (w:=w) (k:=k) (x:=.agg xs) es L 0 hL fun p hp=>by
                have h1:=hes p hp
                generalize p.1=y at h1
                cases y with
                | agg ys =>
                  simp only [keyV,Bool.and_eq_true,decide_eq_true_eq] at h1
                  exact equal_arr 9998 hu he hz hx.2 h1.2 hx.1 h1.1
                | _=>simp [keyV] at h1
              have hnow:Instr.findNow (.array n e) (kval (.agg xs)) L 0=none∨L=[]:=by
                cases L with
                | nil=>exact .inr rfl
                | cons e0 L =>
                  left
                  simp only [Instr.findNow]
                  have:Instr.sameNow (.array n e) (kval (.agg xs)) e0.key=none:=by simp [kval,Instr.sameNow]
                  rw [this]
              rcases hnow with h|h
              · rw [h];exact ask
              · subst h
                have:es=[]:=by simpa using hL.symm
                subst this
                simp [Instr.findNow,findK,fr]
            | _=>cases hx
          · cases hk
        | _=>cases hk
    | _=>cases hk
theorem findK_get {x:V}:∀ {es:List (V × V)} {j:Nat} {v:V},findK x es=some (j,v)→∃ k',es[j]? = some (k',v)∧eqK x k' = true
  | [],j,v,h=>by simp [findK] at h
  | e::es,j,v,h=>by
    simp only [findK] at h
    split at h
    · rename_i hq;cases h;exact ⟨e.1,rfl,hq⟩
    · simp only [Option.map_eq_some_iff] at h
      obtain ⟨⟨j',v'⟩,h1,h2⟩:=h
      cases h2
      obtain ⟨k',h3,h4⟩:=findK_get h1
      exact ⟨k',by simpa using h3,h4⟩
theorem bytes_eq {a b:ByteArray} (h:(a == b)=true):a=b:=by
  cases a;cases b
  have h':(_ == _)=true:=h
  congr 1
  exact eq_of_beq h'
theorem bytes_refl (a:ByteArray):(a == a)=true:=by
  cases a with|mk d=>exact (beq_self_eq_true d:(d == d)=true)
theorem eqInts_eq {q:IntKind}:∀ {xs ys:List V},intsK q xs=true→intsK q ys=true→eqInts xs ys=true→xs=ys
  | [],[],_,_,_=>rfl
  | [],y::ys,_,_,h=>by simp [eqInts] at h
  | x::xs,[],_,_,h=>by cases x<;>simp [eqInts] at h
  | x::xs,y::ys,hx,hy,h=>by
    cases x<;>simp only [intsK,Bool.false_eq_true] at hx
    cases y<;>simp only [intsK,Bool.false_eq_true] at hy
    simp only [Bool.and_eq_true,decide_eq_true_eq] at hx hy
    simp only [eqInts,Bool.and_eq_true,beq_iff_eq] at h
    rw [hx.1,hy.1,h.1,eqInts_eq hx.2 hy.2 h.2]
theorem eqK_eq {kt:KT} {x y:V} (hx:keyV kt x=true) (hy:keyV kt y=true) (h:eqK x y=true):x=y:=by
  cases kt<;>cases x<;>simp only [keyV,Bool.false_eq_true] at hx<;>cases y<;>simp only [keyV,Bool.false_eq_true] at hy<;>simp only [eqK] at h
  · simp_all
  · rw [bytes_eq h]
  · simp_all
  · simp only [Bool.and_eq_true,decide_eq_true_eq] at hx hy
    rw [eqInts_eq hx.2 hy.2 h]
theorem sameBits_ints {q:IntKind} (m:Nat):∀ {cs:List V},intsK q cs=true→(((cs.map kval1).zip (cs.map kval1)).all fun (x,y)=>Instr.sameBits m x y)=true
  | [],_=>rfl
  | x::cs,h=>by
    cases x<;>simp only [intsK,Bool.false_eq_true] at h
    simp only [Bool.and_eq_true] at h
    simp only [List.map_cons,List.zip_cons_cons,List.all_cons,Bool.and_eq_true]
    exact ⟨by simp [kval1,Instr.sameBits],sameBits_ints m h.2⟩
theorem stays_run {kt:KT} {x:V} (hx:keyV kt x=true):(Instr.keyThatStays (kval x) (kval x)).run P w = .ok (kval x) w:=by
  have:∀ m,Instr.sameBits (m+1) (kval x) (kval x)=true:=by
    intro m
    cases kt<;>cases x<;>simp only [keyV,Bool.false_eq_true] at hx
    · simp [kval,kval1,Instr.sameBits]
    · simp only [kval,kval1,Instr.sameBits];exact bytes_refl _
    · simp [kval,kval1,Instr.sameBits]
    · simp only [Bool.and_eq_true] at hx
      simp only [kval,Instr.sameBits,Bool.and_eq_true]
      exact ⟨by simp,sameBits_ints m hx.2⟩
  have h:=this 9999
  unfold Instr.keyThatStays
  rw [show (10000:Nat)=9999+1 from rfl,h]
  simp
theorem entries_keys {kt:KT} {ents:Array MapEntry} {es:List (V × V)} (hl:ents.size=es.length) (hes:es.all (fun e=>keyV kt e.1)=true)
    (h:∀ (j:Nat) (e:MapEntry) (p:V × V),ents[j]? = some e→es[j]? = some p→Rep g w e.key p.1∧Rep g w e.val p.2):ents.toList.map (·.key)=es.map (fun p=>kval p.1):=by
  rw [List.all_eq_true] at hes
  apply List.ext_getElem
  · simp [hl]
  · intro j h1 h2
    have hj1:j<ents.size:=by simpa using h1
    have hj2:j<es.length:=by simpa using h2
    simp only [List.getElem_map,Array.getElem_toList]
    exact rep_key (h j _ _ (Array.getElem?_eq_getElem hj1) (List.getElem?_eq_getElem hj2)).1 (hes _ (List.getElem_mem hj2))
theorem mapObj (hs:SimG E g σ a w) {key:Key} {es:List (V × V)} (hk:σ.H key=some (.map es)) {b cap:Nat} (hb:g.ref key 0=some (some b,cap)) :
    cap=0∧OwnB E.B E.F key b∧b<w.heap.size∧¬ g.imm b∧MapOk g w es b∧∀ m,0<m→g.ref key m=none:=by
  obtain ⟨b',h1,h2,h3,h4,h5,h6⟩:=hs.obj key _ hk
  rw [hb] at h1;cases h1
  exact ⟨rfl,h3,h4,h5,h6,h2⟩
theorem im_inv {v:Value} {es:List (V × V)} (h:Rep g w v (.im es)):∃ b,v = .map (some b)∧MapOk g w es b:=by
  cases h with
  | imm _ _ h =>
    cases h with
    | im b clock ents _ h1 h2 h3 h4 h5 h6=>exact ⟨b,rfl,ents,clock,h2,h3,fun j e p he hp=>⟨.imm _ _ (h4 j e p he hp),.imm _ _ (h5 j e p he hp)⟩,h6⟩
theorem mlk_obj {t k e:TypeId} {kt:KT} {ok:Bool} {z I:V} {vi:Value} {es:List (V × V)} {b:Nat} (ht:P.underlying t=some (.map k e)) (hkt:ktOf P k=some kt) (hz:zeroT P e=some z) (hm:MapOk g w es b) (hi:Rep g w vi I) :
    LRes.pureOk P g w (Instr.lookup t (.map (some b)) vi ok) (.A (keyV kt I=true∧es.all (fun e=>keyV kt e.1)=true) (lkV ok z (findK I es))):=by
        intro ⟨p1,p2⟩
        obtain ⟨ents,clock,m1,m2,m3,m4⟩:=hm
        have hki:=rep_key hi p1
        subst hki
        obtain ⟨zv,hzv,rfl⟩:=zeroT_run (w:=w) hz
        have hf:=findKey_ok (P:=P) (w:=w) hkt p1 p2 (entries_keys m2 p2 m3)
        cases hfk:findK I es with
        | none =>
          rw [hfk] at hf
          refine ⟨if ok then .tuple #[zv,.bool false] else zv,?_,?_⟩
          · simp only [Instr.lookup,Sem.run_bind,run_underlying ht,Result.andThen_ok,MapKept.run_getObj_map m1,Sem.run_pure,check_run hkt p1,hf,fr,hzv]
          · cases ok
            · exact .imm _ _ (repI_ofVal _)
            · refine .tup _ _ rfl fun j u c hu hc=>?_
              match j with
              | 0=>simp at hu hc;subst hu hc;exact .imm _ _ (repI_ofVal _)
              | 1=>simp at hu hc;subst hu hc;exact rbool _
              | j+2=>simp at hu
        | some q =>
          obtain ⟨j,vv⟩:=q
          rw [hfk] at hf
          obtain ⟨k',g1,g2⟩:=findK_get hfk
          have hj:j<ents.size:=by rw [m2];exact (List.getElem?_eq_some_iff.1 g1).1
          have hr:=(m3 j _ _ (Array.getElem?_eq_getElem hj) g1).2
          have hval:((ents.toList[j]?).map (·.val)).getD .nilIface=ents[j].val:=by simp [hj]
          refine ⟨if ok then .tuple #[ents[j].val,.bool true] else ents[j].val,?_,?_⟩
          · simp only [Instr.lookup,Sem.run_bind,run_underlying ht,Result.andThen_ok,MapKept.run_getObj_map m1,Sem.run_pure,check_run hkt p1,hf,fr,hval]
          · cases ok
            · exact hr
            · refine .tup _ _ rfl fun j u c hu hc=>?_
              match j with
              | 0=>simp at hu hc;subst hu hc;exact hr
              | 1=>simp at hu hc;subst hu hc;exact rbool _
              | j+2=>simp at hu
theorem mlk_pure (hs:SimG E g σ a w) {t k e:TypeId} {kt:KT} {ok:Bool} {z X I:V} {v vi:Value} (ht:P.underlying t=some (.map k e)) (hkt:ktOf P k=some kt) (hz:zeroT P e=some z) (hx:Rep g w v X) (hi:Rep g w vi I) :
    LRes.pureOk P g w (Instr.lookup t v vi ok) (lmlk σ.H kt ok z X I):=by
  cases X with
  | mm key =>
    obtain ⟨b,cap,hb,rfl⟩:=hx.mm_inv
    simp only [lmlk]
    cases hk:σ.H key with
    | none=>trivial
    | some o =>
      cases o with
      | row=>trivial
      | map es=>exact mlk_obj ht hkt hz (mapObj hs hk hb).2.2.2.2.1 hi
      | it=>trivial
  | im es =>
    obtain ⟨b,rfl,hm⟩:=im_inv hx
    exact mlk_obj ht hkt hz hm hi
  | _=>trivial
theorem isU8_inv {e:TypeId} (h:isU8 P e=true):P.underlying e=some (.int .u8):=by
  unfold isU8 at h
  split at h
  · assumption
  · cases h
theorem msb_ok (hs:SimG E g σ a w) {s:Nat} {t e:TypeId} {v:Value} {x:V} (ht:P.underlying t=some (.slice e)) (he:isU8 P e=true) (hx:Rep g w v x) :
    LRes.ok P E g σ a w s (do pure (.value (← convert t t v))) (lmsb σ.H x):=by
  have he':=isU8_inv he
  cases x with
  | msl key gen off n =>
    obtain ⟨c,A,blk,cap,rfl,q1,q2,q3,q4,q5⟩:=hx.msl_inv
    simp only [lmsb]
    cases hk:σ.H key with
    | none=>trivial
    | some o =>
      cases o with
      | map=>trivial
      | it=>trivial
      | row g' esz cs =>
        intro ⟨e1,hn⟩
        subst e1
        obtain ⟨blk',cap',r1,r2,r3⟩:=hs.obj key _ hk
        rw [q1] at r1;cases r1
        cases blk with
        | none=>have:=q5 rfl;omega
        | some b =>
          have hA:=q4 b rfl (by omega);subst hA
          obtain ⟨p1,p2,p3,us,T,fz,t1,t2,t3,t4,t5⟩:=r3
          have hsh:w.shape? b=some (T,us.size):=by simp [World.shape?,t1]
          have hw:w.freeze ⟨b,us.size,none⟩ 1 = { w with heap:=w.heap.modify b fun
              | .cells c elem (lo,hi)=>.cells c elem (if lo == hi then (us.size,us.size+1) else (min lo us.size,max hi (us.size+1)))
              | o=>o }:=by
            unfold World.freeze
            rw [if_neg (by decide)]
            rfl
          have hne:∀ j,j≠b→(w.freeze ⟨b,us.size,none⟩ 1).heap[j]? = w.heap[j]?:=by
            intro j hj
            rw [hw]
            simp only [Array.getElem?_modify]
            rw [if_neg (Ne.symm hj)]
          have hsz:(w.freeze ⟨b,us.size,none⟩ 1).heap.size=w.heap.size:=by rw [hw];simp
          have hat:∃ fz',NoFz us.size fz'∧(w.freeze ⟨b,us.size,none⟩ 1).heap[b]? = some (.cells us T fz'):=by
            obtain ⟨lo,hi⟩:=fz
            refine ⟨if lo == hi then (us.size,us.size+1) else (min lo us.size,max hi (us.size+1)),?_,by rw [hw];simp [Array.getElem?_modify,t1]⟩
            obtain ⟨z1,z2⟩:=t2
            simp only at z1 z2
            split
            · exact ⟨fun o ho=>by simp only;omega,by simp only;omega⟩
            · rename_i hne2
              have hlt:lo<hi:=by
                rcases Nat.lt_or_ge lo hi with h|h
                · exact h
                · exact absurd (by simp;omega) hne2
              have hge:us.size≤lo:=by
                rcases Nat.lt_or_ge lo us.size with h|h
                · exact absurd ⟨Nat.le_refl lo,hlt⟩ (z1 lo h)
                · exact h
              exact ⟨fun o ho=>by simp only;omega,by simp only;omega⟩
          obtain ⟨fz',hfz',hat⟩:=hat
          generalize hw':w.freeze ⟨b,us.size,none⟩ 1=w' at *
          have hos:w'.os=w.os∧w'.tape=w.tape∧w'.output=w.output∧w.drawn≤w'.drawn:=by rw [hw];exact ⟨rfl,rfl,rfl,Nat.le_refl _⟩
          have hrun:(convert t t (.slice (some ⟨b,off,none⟩) n c)).run P w = .ok (.slice (some ⟨b,off,none⟩) n c) w':=by
            simp [convert,run_underlying ht,run_underlying he',markStringish,hsh,hw']
          have hblk:blkOf g key (.row g' esz cs)=some b:=by simp [blkOf,q1]
          have hset:=hs.setObj (w':=w') hk (gen':=g') (esz':=esz) (cap':=cap) (cs':=cs) (blk':=some b) (Nat.le_refl _) (fun _=>q1)
            ⟨hos.1,hos.2.1,hos.2.2.1,by omega,fun j hj hf=>hne j (by
              rintro rfl
              rcases p1 with h|h
              · omega
              · exact hf h.2),hos.2.2.2⟩ (fun j hj hb=>hne j fun e=>hb (by rw [hblk,e]))
            ⟨.inl hblk,by omega,us,T,fz',hat,hfz',t3,t4,fun j u x hu hx=>(t5 j u x hu hx).mono (fun _ h=>h) (fun b' hb'=>hne b' fun e=>p3 (by rw [← e];exact hb')) (fun k m r h=>by
              by_cases e:k=key∧m=g'
              · obtain ⟨rfl,rfl⟩:=e
                rw [Gh.set_same,← q1];exact h
              · rw [Gh.set_ne _ _ e];exact h)⟩
          have hH:hupd σ.H key (.row g' esz cs)=σ.H:=by
            funext k
            simp only [hupd]
            split
            · rename_i e;rw [e,hk]
            · rfl
          rw [hH] at hset
          refine ⟨_,w',_,by simp only [Sem.run_bind,hrun,Result.andThen_ok,Sem.run_pure],hset,.msl _ _ _ _ c _ (some b) cap (Gh.set_same _ _ _ _) q2 q3 q4 (fun h=>by cases h)⟩
  | _=>trivial
theorem mset_ok (hs:SimG E g σ a w) {s:Nat} {t k e:TypeId} {kt:KT} {X I Y:V} {v vi vy:Value} (ht:P.underlying t=some (.map k e)) (hkt:ktOf P k=some kt) (hx:Rep g w v X) (hi:Rep g w vi I) (hy:Rep g w vy Y) :
    LRes.ok P E g σ a w s (do Instr.mapUpdate t v vi vy;pure .skip) (lmset σ.H kt X I Y):=by
  cases X with
  | mm key =>
    obtain ⟨b,cap,hb,rfl⟩:=hx.mm_inv
    simp only [lmset]
    cases hk:σ.H key with
    | none=>trivial
    | some o =>
      cases o with
      | row=>trivial
      | it=>trivial
      | map es =>
        intro ⟨p1,p2⟩
        obtain ⟨rfl,q1,q2,q3,⟨ents,clock,m1,m2,m3,m4⟩,q4⟩:=mapObj hs hk hb
        have hki:=rep_key hi p1
        subst hki
        have hf:=findKey_ok (P:=P) (w:=w) hkt p1 p2 (entries_keys m2 p2 m3)
        have fin:∀ (ents':Array MapEntry) (clock':Nat) (es':List (V × V)),(Instr.mapUpdate t (.map (some b)) (kval I) vy).run P w = .ok () { w with heap:=w.heap.setIfInBounds b (.map ents' clock') }→ents'.size=es'.length →
            (∀ (j:Nat) (e:MapEntry) (p:V × V),ents'[j]? = some e→es'[j]? = some p→Rep g w e.key p.1∧Rep g w e.val p.2)→StOk ents' clock'→setK es I Y=es' →
            ∃ n w' g',(do Instr.mapUpdate t (.map (some b)) (kval I) vy;pure .skip:Sem Next).run P w = .ok n w'∧((n = .skip∧V.junk = .junk)∨∃ u,n = .value u∧Rep g' w' u .junk)∧SimG E g' ⟨σ.tm,hupd σ.H key (.map (setK es I Y)),σ.cnt⟩ a w':=by
          intro ents' clock' es' hrun hl' hr' hst' he'
          have hheap:∀ j,j≠b→({ w with heap:=w.heap.setIfInBounds b (.map ents' clock') }:World).heap[j]? = w.heap[j]?:=fun j hj=>by
            show (w.heap.setIfInBounds b _)[j]? = _
            rw [Array.getElem?_setIfInBounds_ne (Ne.symm hj)]
          have href:∀ k n r,g.ref k n=some r→(g.set key 0 (some b,0)).ref k n=some r:=by
            intro k n r hh
            by_cases e:k=key∧n=0
            · obtain ⟨rfl,rfl⟩:=e;rw [Gh.set_same,← hb];exact hh
            · rw [Gh.set_ne _ _ e];exact hh
          refine ⟨.skip,{ w with heap:=w.heap.setIfInBounds b (.map ents' clock') },_,by simp [hrun],.inl ⟨rfl,rfl⟩,hs.setAny hk (gen':=0) (r':=(some b,0)) href ?_ ?_ ?_ ?_⟩
          · refine ⟨rfl,rfl,rfl,by simp,fun j hj hf=>hheap j ?_,Nat.le_refl _⟩
            rintro rfl
            rcases q1 with h|h
            · omega
            · exact hf h.2
          · intro j _ hne
            refine hheap j fun e=>hne ?_
            simp [blkOf,hb,e]
          · intro hmono
            refine ⟨b,Gh.set_same _ _ _ _,fun m hm=>?_,q1,by simpa using q2,q3,ents',clock',?_,?_,?_,hst'⟩
            · rw [Gh.set_ne]
              · exact q4 m hm
              · rintro ⟨_,rfl⟩;omega
            · show (w.heap.setIfInBounds b _)[b]? = _
              simp [q2]
            · rw [hl',he']
            · intro j e p h1 h2
              rw [he'] at h2
              obtain ⟨r1,r2⟩:=hr' j e p h1 h2
              exact ⟨hmono _ _ r1,hmono _ _ r2⟩
          · intro b' hb'
            left
            simp only [blkOf,Gh.set_same,Option.bind_some] at hb'
            simp [blkOf,hb,← hb']
        cases hfk:findK I es with
        | none =>
          rw [hfk] at hf
          refine fin (ents.push ⟨kval I,vy,clock⟩) (clock+1) (es++[(I,Y)]) ?_ (by simp [m2]) ?_ (m4.push _ _) (by simp [setK,hfk])
          · simp [Instr.mapUpdate,run_underlying ht,MapKept.run_getObj_map m1,check_run hkt p1,hf,fr,MapKept.run_setObj_map _ m1,Result.andThen]
          · intro j e p h1 h2
            rw [Array.getElem?_push] at h1
            rw [List.getElem?_append] at h2
            split at h1
            · rename_i hj
              cases h1
              rw [if_neg (by omega)] at h2
              have e0:j - es.length=0:=by omega
              rw [e0] at h2
              simp at h2
              subst h2
              exact ⟨hi,hy⟩
            · rename_i hj
              have hj2:j<ents.size:=by
                rcases Nat.lt_or_ge j ents.size with h' | h'
                · exact h'
                · rw [Array.getElem?_eq_none h'] at h1;cases h1
              rw [if_pos (by omega)] at h2
              exact m3 j e p h1 h2
        | some q =>
          obtain ⟨j,vv⟩:=q
          rw [hfk] at hf
          obtain ⟨k',g1,g2⟩:=findK_get hfk
          have hjl:j<es.length:=(List.getElem?_eq_some_iff.1 g1).1
          have hj:j<ents.size:=by omega
          have hkk:I=k':=eqK_eq p1 (List.all_eq_true.1 p2 _ (List.mem_of_getElem? g1)) g2
          subst hkk
          have hkey:ents[j].key=kval I:=rep_key (m3 j _ _ (Array.getElem?_eq_getElem hj) g1).1 p1
          refine fin (ents.modify j fun e=>{ e with key:=kval I,val:=vy }) clock (es.set j (I,Y)) ?_ (by simp [m2]) ?_ (m4.modify _ _ _) (by simp [setK,hfk])
          · simp [Instr.mapUpdate,run_underlying ht,MapKept.run_getObj_map m1,check_run hkt p1,hf,fr,hj,hkey,stays_run p1,MapKept.run_setObj_map _ m1,Result.andThen]
          · intro i e p h1 h2
            rw [Array.getElem?_modify] at h1
            rw [List.getElem?_set] at h2
            by_cases hij:j=i
            · subst hij
              rw [if_pos rfl] at h1 h2
              simp only [hj,hjl,if_true,Array.getElem?_eq_getElem,Option.map_some,Option.some.injEq] at h1 h2
              subst h1 h2
              exact ⟨hi,hy⟩
            · rw [if_neg hij] at h1 h2
              exact m3 i e p h1 h2
  | _=>trivial
theorem mkmap_ok (hs:SimG E g σ a w) {s:Nat} {t:TypeId} :
    LRes.ok P E g σ a w s (do pure (.value (← Instr.makeMap t none))) (.C True (.map []) .mm):=by
  intro _
  have hfr:=(hs.fresh s (σ.cnt s) (Nat.le_refl _)).2
  have hb:BelowD w.heap.size w (w.alloc (.map #[] 0)):=(BelowD.refl _ _).alloc (Nat.le_refl _) _
  refine ⟨.map (some w.heap.size),w.alloc (.map #[] 0),_,by simp [Instr.makeMap],hs.newAny s (r0:=(some w.heap.size,0)) (o0:=.map []) (.of (hb.mono hs.sizeB)) (fun b h=>hb.block b h)
    ⟨w.heap.size,Gh.set_same _ _ _ _,fun m hm=>?_,.inl hs.sizeB,by simp,fun hm=>by have:=hs.immlt _ hm;omega,#[],0,?_,rfl,fun j e p h=>by simp at h,StOk.nil 0⟩ (fun b hbk k o hk hb'=>?_),.mm _ _ 0 (Gh.set_same _ _ _ _)⟩
  · rw [Gh.set_ne]
    · exact hfr m
    · rintro ⟨_,rfl⟩;omega
  · show (w.heap.push _)[w.heap.size]? = _
    simp
  · have:=((hs.obj k o hk).blk hb').1
    simp only [blkOf,Gh.set_same,Option.bind_some] at hbk
    cases hbk
    omega
theorem nilm_inv {v:Value} (h:Rep g w v .nilm):v = .map none:=by
  cases h with|imm _ _ h=>cases h;rfl
theorem mlen_pure (hs:SimG E g σ a w) {ts:Array TypeId} {ty t k e:TypeId} {x:Operand} (h:ts[0]? = some t) (hu:P.underlying t=some (.map k e)) (hx:Rep g w (a.eval x) ((rdOf x).get σ.tm)) :
    LRes.pureOk P g w (Builtin.len_ ts ty (#[x].map a.eval)) (lmlen σ.H ((rdOf x).get σ.tm)):=by
  generalize (rdOf x).get σ.tm=X at hx
  cases X with
  | mm key =>
    obtain ⟨b,cap,hb,hv⟩:=hx.mm_inv
    simp only [lmlen]
    cases hk:σ.H key with
    | none=>trivial
    | some o =>
      cases o with
      | row=>trivial
      | it=>trivial
      | map es =>
        intro _
        obtain ⟨_,_,_,_,⟨ents,clock,m1,m2,m3,m4⟩,_⟩:=mapObj hs hk hb
        exact ⟨_,by simp [Builtin.len_,h,run_underlying hu,hv,goInt,MapKept.run_getObj_map m1,Result.andThen,m2],rint _ _⟩
  | nilm =>
    have hv:=nilm_inv hx
    intro _
    exact ⟨_,by simp [Builtin.len_,h,run_underlying hu,hv,goInt],rint _ _⟩
  | im es =>
    obtain ⟨b,hv,ents,clock,m1,m2,m3,m4⟩:=im_inv hx
    intro _
    exact ⟨_,by simp [Builtin.len_,h,run_underlying hu,hv,goInt,MapKept.run_getObj_map m1,Result.andThen,m2],rint _ _⟩
  | _=>trivial
theorem s2b_ok (hs:SimG E g σ a w) {s:Nat} {src dst e:TypeId} {v:Value} {x:V} (h1:P.underlying src=some .string) (h2:P.underlying dst=some (.slice e)) (he:isU8 P e=true) (hx:Rep g w v x) :
    LRes.ok P E g σ a w s (do pure (.value (← convert src dst v))) (ls2b x):=by
  cases x with
  | str t =>
    have:=hx.str_inv;subst this
    intro _
    have he':=isU8_inv he
    have hge:=grownCap_ge w t.size 0 e
    have hbel:BelowD w.heap.size w (Lib.bytesWorld w e t):=⟨⟨rfl,rfl,rfl,by rw [Lib.bytesWorld_size];omega,fun j hj=>Lib.bytesWorld_at_old w e t j hj⟩,by show w.drawn≤_;unfold Lib.bytesWorld World.freeze;rw [if_neg (by decide)];exact Nat.le_succ _⟩
    have hsz:(Lib.bytesCells w e t).size=grownCap w t.size 0 e:=by
      simp only [Lib.bytesCells,Array.size_append,Array.size_map,Array.size_replicate]
      have:t.data.size=t.size:=rfl
      omega
    refine ⟨.slice (some ⟨w.heap.size,0,none⟩) t.size (grownCap w t.size 0 e),_,_,by simp only [Sem.run_bind,Lib.run_convert_string_bytes w src dst e t h1 h2 he',Result.andThen_ok,Sem.run_pure],hs.newObj s (esz:=1) (cap:=grownCap w t.size 0 e) (cs:=t.data.toList.map fun b=>.int .u8 b.toNat) (blk:=some w.heap.size) hbel
      ⟨Nat.le_refl _,by rw [Lib.bytesWorld_size];omega,_,_,_,Lib.bytesWorld_at_new w e t,⟨fun o ho=>by simp only;omega,by simp only;omega⟩,?_,by omega,fun j u c hu hc=>?_⟩,
      .msl _ _ _ _ (grownCap w t.size 0 e) _ (some w.heap.size) _ (Gh.set_same _ _ _ _) (fun _=>rfl) hge (fun b hb _=>by cases hb;rfl) (fun h=>by cases h)⟩
    · rw [hsz,List.length_map,Array.length_toList];exact hge
    · simp only [List.getElem?_map,Array.getElem?_toList,Option.map_eq_some_iff] at hc
      obtain ⟨y,hy,rfl⟩:=hc
      have hjl:j<t.data.size:=(Array.getElem?_eq_some_iff.1 hy).1
      rw [Lib.bytesCells,Array.getElem?_append_left (by simpa using hjl),Array.getElem?_map,hy] at hu
      simp at hu
      subst hu
      exact rint _ _
  | _=>trivial
theorem strOf_fold:∀ {cs:List V} {q:IntKind},intsK q cs=true→∀ (r:ByteArray),∃ ns:List Int,cs.map kval1=ns.map (Value.int q) ∧
    cs.foldl strStep r=ns.foldl (fun r n=>r.push (UInt8.ofNat n.toNat)) r
  | [],q,_,r=>⟨[],rfl,rfl⟩
  | x::cs,q,h,r=>by
    cases x<;>simp only [intsK,Bool.false_eq_true] at h
    rename_i q' n
    simp only [Bool.and_eq_true,decide_eq_true_eq] at h
    obtain ⟨rfl,h⟩:=h
    obtain ⟨ns,h1,h2⟩:=strOf_fold h (r.push (UInt8.ofNat n.toNat))
    exact ⟨n::ns,by simp [kval1,h1],by simp [strStep,h2]⟩
theorem b2s_pure (hs:SimG E g σ a w) {src dst e:TypeId} {v:Value} {x:V} (h1:P.underlying src=some (.slice e)) (h2:P.underlying dst=some .string) (he:isU8 P e=true) (hx:Rep g w v x) :
    LRes.pureOk P g w (convert src dst v) (lb2s σ.H x):=by
  simp only [lb2s]
  cases hsrc:srcOf σ.H 1 x with
  | none=>trivial
  | some srcv =>
    obtain ⟨m,ys⟩:=srcv
    intro ⟨hsl,hk⟩
    dsimp only at hk
    have he':=isU8_inv he
    obtain ⟨hlen,arr,hfc,harr,hys,hrep⟩:=src_run (w1:=w) hs hsrc hx rfl
    have harr':=rep_ints hk (by simpa using harr) hrep
    obtain ⟨ns,e1,e2⟩:=strOf_fold hk ByteArray.empty
    have hv:∃ A n c,v = .slice A n c:=by
      cases x<;>simp only [isSlV,Bool.false_eq_true] at hsl
      · obtain ⟨A,c,rfl,_⟩:=hx.sl_inv;exact ⟨_,_,_,rfl⟩
      · obtain ⟨A,rfl⟩:=hx.e0_inv;exact ⟨_,_,_,rfl⟩
      · obtain ⟨c,A,blk,cap,rfl,_⟩:=hx.msl_inv;exact ⟨_,_,_,rfl⟩
    obtain ⟨A,n,c,rfl⟩:=hv
    have hn:n=m:=by
      have:=hlen w
      simpa [Builtin.lenOf] using this
    subst hn
    refine ⟨.string (strOf ys),?_,rstr _⟩
    cases A with
    | none =>
      have:arr = #[]:=by simpa [Builtin.firstCells] using hfc.symm
      subst this
      have hy0:ys=[]:=List.eq_nil_of_length_eq_zero (by simpa using harr.symm)
      subst hy0
      simp [convert,run_underlying h1,run_underlying h2,run_underlying he',Conv.bytesToString,strOf]
    | some ad =>
      have hld:(loadCells ad n).run P w = .ok ((ns.map (Value.int .u8)).toArray) w:=by
        have:=hfc
        simp only [Builtin.firstCells,Nat.mul_one] at this
        rw [this,harr',e1]
      have:=run_bytesToString (P:=P) w ad n c ns hld
      simp only [convert,Sem.run_bind,run_underlying h1,run_underlying h2,Result.andThen_ok,run_underlying he',this]
      simp only [strOf]
      rw [e2]
theorem eqFields_run {q:IntKind} (d:Nat) {xs ys:List V} (hx:intsK q xs=true) (hy:intsK q ys=true) (hl:xs.length=ys.length):∀ (fs:List Field) (s:Nat),stIn P q s fs=true→s+fs.length=xs.length →
    (Op.eqFields (d+1) (xs.map kval1).toArray (ys.map kval1).toArray fs).run P w = .ok (eqInts (xs.drop s) (ys.drop s)) w:=by
  intro fs
  induction fs with
  | nil =>
    intro s _ hs
    simp only [List.length_nil] at hs
    rw [List.drop_of_length_le (by omega),List.drop_of_length_le (by omega)]
    simp [Op.eqFields,eqInts]
  | cons f fs ih =>
    intro s hst hs
    simp only [stIn,Bool.and_eq_true,decide_eq_true_eq] at hst
    obtain ⟨⟨⟨h0,ho⟩,he0⟩,hst⟩:=hst
    have he:P.underlying f.type=some (.int q):=by
      split at he0
      · rename_i k hk;rw [hk,of_decide_eq_true he0]
      · cases he0
    simp only [List.length_cons] at hs
    have h1:s<xs.length:=by omega
    have h2:s<ys.length:=by omega
    obtain ⟨x,ex⟩:=intsK_get hx (List.getElem?_eq_getElem h1)
    obtain ⟨y,ey⟩:=intsK_get hy (List.getElem?_eq_getElem h2)
    have hp:P.plainKey f.type=true:=by simp [Program.plainKey,he]
    have gx:(xs.map kval1).toArray[f.offset]? = some (.int q x):=by simp [ho,h1,ex,kval1]
    have gy:(ys.map kval1).toArray[f.offset]? = some (.int q y):=by simp [ho,h2,ey,kval1]
    have hq:(Op.equalIn (d+1) f.type (.int q x) (.int q y)).run P w = .ok (x == y) w:=by simp [Op.equalIn,run_underlying he]
    have ih':=ih (s+1) hst (by omega)
    rw [List.drop_eq_getElem_cons h1,List.drop_eq_getElem_cons h2,ex,ey]
    simp only [Op.eqFields,if_pos h0,Sem.run_bind,run_part_plain w hp gx,run_part_plain w hp gy,Result.andThen_ok,hq,eqInts]
    cases hxy:(x == y)
    · simp
    · simpa using ih'
theorem arrIT_eq {t:TypeId} {n:Nat} {q:IntKind} (h:arrIT P t=some (n,q)) (d:Nat):P.eqGuardType P.depth t=false∧∀ {xs ys:List V},intsK q xs=true→intsK q ys=true→xs.length=n→ys.length=n →
    (Op.equalIn (d+2) t (.agg (xs.map kval1).toArray) (.agg (ys.map kval1).toArray)).run P w = .ok (eqInts xs ys) w:=by
  unfold arrIT at h
  split at h
  · rename_i fs hu
    split at h
    · cases h
    · rename_i f r hfs
      split at h
      · rename_i q' he
        split at h
        · rename_i h1
          cases h
          refine ⟨h1.2.1,fun {xs ys} hx hy hxl hyl=>?_⟩
          have hf:P.fieldsOf t=fs:=by simp [Program.fieldsOf,hu]
          rw [run_equalIn_struct w (d+1) t _ _ (by rw [hf];exact hu) h1.2.2,hf]
          exact eqFields_run d hx hy (by omega) _ 0 h1.1 (by omega)
        · cases h
      · cases h
  · rename_i n e hu
    split at h
    · rename_i q he
      split at h
      · rename_i h1
        cases h
        exact ⟨h1.2,fun hx hy hxl hyl=>equal_arr d hu he h1.1 hx hy hxl hyl⟩
      · cases h
    · cases h
  · cases h
theorem leqa_sound {neg:Bool} {t:TypeId} {n:Nat} {q:IntKind} {x y:Operand} {vx vy:Value} {X Y:V} (hx:Rep g w vx X) (hy:Rep g w vy Y) (ha:arrIT P t=some (n,q)) :
    LRes.pureOk P g w (do eqGuard (if neg then .neq else .eql) t x y vx vy;binOp (if neg then .neq else .eql) t vx vy) (leqa n q neg X Y):=by
  obtain ⟨hg,hq⟩:=arrIT_eq (w:=w) ha 9998
  cases X with
  | agg xs =>
    cases Y with
    | agg ys =>
      intro ⟨h1,h2⟩
      have e1:=rep_key hx h1
      have e2:=rep_key hy h2
      simp only [keyV,Bool.and_eq_true,decide_eq_true_eq] at h1 h2
      have heq:(Op.equal t (kval (.agg xs)) (kval (.agg ys))).run P w = .ok (eqInts xs ys) w:=hq h1.2 h2.2 h1.1 h2.1
      subst e1 e2
      refine eq_fin (r:=eqInts xs ys) ?_ ?_ rfl
      · simp only [kval]
        cases neg<;>simp [eqGuard,hg]
      · simp only [kval] at heq ⊢
        cases neg<;>simp [binOp,heq]
    | _=>trivial
  | _=>trivial
theorem equalIn_ff (d:Nat) {t a b c} (ht:P.underlying t=some (.func a b c)):(Op.equalIn (d+1) t .nilFunc .nilFunc).run P w = .ok true w:=by
  simp [Op.equalIn,run_underlying ht]
theorem equalIn_fg (d:Nat) {t a b c x y z} (ht:P.underlying t=some (.func a b c)):(Op.equalIn (d+1) t .nilFunc (.func x y z)).run P w = .ok false w:=by
  simp [Op.equalIn,run_underlying ht]
theorem equalIn_gf (d:Nat) {t a b c x y z} (ht:P.underlying t=some (.func a b c)):(Op.equalIn (d+1) t (.func x y z) .nilFunc).run P w = .ok false w:=by
  simp [Op.equalIn,run_underlying ht]
theorem leqf_sound {neg:Bool} {t:TypeId} {a b c} {x y:Operand} {vx vy:Value} {X Y:V} (hx:Rep g w vx X) (hy:Rep g w vy Y) (ht:P.underlying t=some (.func a b c)) :
    LRes.pureOk P g w (do eqGuard (if neg then .neq else .eql) t x y vx vy;binOp (if neg then .neq else .eql) t vx vy) (leqf neg X Y):=by
  have nil:∀ {v:Value},Rep g w v .nilf→v = .nilFunc:=by
    intro v h
    cases h with
    | imm _ _ h=>cases h;rfl
  cases X with
  | nilf =>
    obtain rfl:=nil hx
    cases Y with
    | nilf =>
      obtain rfl:=nil hy
      intro _
      refine eq_fin (r:=true) (by cases neg<;>simp [eqGuard]) ?_ (by cases neg<;>rfl)
      have he:(Op.equal t .nilFunc .nilFunc).run P w = .ok true w:=equalIn_ff 9999 ht
      cases neg<;>simp [binOp,he]
    | fn f cs =>
      obtain ⟨vs,rfl,_⟩:=hy.fn_inv
      intro _
      refine eq_fin (r:=false) (by cases neg<;>simp [eqGuard]) ?_ (by cases neg<;>rfl)
      have he:(Op.equal t .nilFunc (.func (.func f) #[] vs)).run P w = .ok false w:=equalIn_fg 9999 ht
      cases neg<;>simp [binOp,he]
    | _=>trivial
  | fn f cs =>
    obtain ⟨vs,rfl,_⟩:=hx.fn_inv
    cases Y with
    | nilf =>
      obtain rfl:=nil hy
      intro _
      refine eq_fin (r:=false) (by cases neg<;>simp [eqGuard]) ?_ (by cases neg<;>rfl)
      have he:(Op.equal t (.func (.func f) #[] vs) .nilFunc).run P w = .ok false w:=equalIn_gf 9999 ht
      cases neg<;>simp [binOp,he]
    | _=>trivial
  | _=>trivial
end
end Go.Lg

namespace Go.Lg
open Go Go.RowKit
section
variable {P:Program} {g:Gh} {w w':World} {E:Env} {σ:St} {a:Act}
theorem orBad_ok {s:Nat} {q:Sem Next} {x:Option IOp} (h:∀ i,x=some i→LRes.ok P E g σ a w s q (lop i σ.tm σ.H)):LRes.ok P E g σ a w s q (lop (orBad x) σ.tm σ.H):=by
  cases x with
  | none=>trivial
  | some i=>exact h i rfl
theorem pure_ok (hs:SimG E g σ a w) {s:Nat} {v:Value} {x:V} (h:Rep g w v x):LRes.ok P E g σ a w s (pure (.value v)) (.A True x) :=
  fun _=>⟨v,w,g,rfl,hs,h⟩
theorem args_rep (ht:∀ t,Rep g w (slotV E a t) (σ.tm t)) (args:Array Operand) :
    (args.map a.eval).size=((args.toList.map rdOf).map (Rd.get σ.tm)).length ∧
    ∀ (j:Nat) (u:Value) (c:V),(args.map a.eval)[j]? = some u→((args.toList.map rdOf).map (Rd.get σ.tm))[j]? = some c→Rep g w u c:=by
  refine ⟨by simp,fun j u c hu hc=>?_⟩
  simp only [Array.getElem?_map,List.getElem?_map,Array.getElem?_toList,Option.map_eq_some_iff] at hu hc
  obtain ⟨x,hx,rfl⟩:=hu
  obtain ⟨y,⟨z,hz,rfl⟩,rfl⟩:=hc
  rw [hx] at hz;cases hz
  exact rep_rd ht x
theorem callFunc_run {f:FuncId} {vs:Array Value} (hf:entersOk P f=true):(callFunc f vs).run P w = .ok (.enter f vs) w:=by
  unfold entersOk at hf
  cases hfn:P.funcs[f]? with
  | none=>simp [hfn] at hf
  | some fn =>
    simp only [hfn,Bool.not_eq_true',Bool.or_eq_false_iff] at hf
    simp only [callFunc,Sem.run_bind,run_program,Result.andThen_ok,hfn]
    rw [hf.2,hf.1]
    rfl
theorem args1 {args:Array Operand} {x:Operand} (h:args.toList=[x]):args = #[x]:=by
  rw [← Array.toArray_toList (xs:=args),h]
theorem args2 {args:Array Operand} {x y:Operand} (h:args.toList=[x,y]):args = #[x,y]:=by
  rw [← Array.toArray_toList (xs:=args),h]
theorem types1 {ts:Array TypeId} {d} (h:(ts[0]?).bind P.underlying=some d):∃ t,ts[0]? = some t∧P.underlying t=some d:=Option.bind_eq_some_iff.1 h
theorem types2 {ts:Array TypeId} {d} (h:(ts[1]?).bind P.underlying=some d):∃ t,ts[1]? = some t∧P.underlying t=some d:=Option.bind_eq_some_iff.1 h
theorem len_str {ts:Array TypeId} {ty t:TypeId} {x:Operand} (h:ts[0]? = some t) (hu:P.underlying t=some .string) (hx:Rep g w (a.eval x) ((rdOf x).get σ.tm)) :
    LRes.pureOk P g w (Builtin.len_ ts ty (#[x].map a.eval)) (llen true ((rdOf x).get σ.tm)):=by
  generalize (rdOf x).get σ.tm=X at hx
  cases X with
  | str s =>
    have:=hx.str_inv
    intro _
    exact ⟨_,by simp [Builtin.len_,h,run_underlying hu,this,goInt],rint _ _⟩
  | _=>trivial
theorem len_sl {ts:Array TypeId} {ty t e:TypeId} {x:Operand} (h:ts[0]? = some t) (hu:P.underlying t=some (.slice e)) (hx:Rep g w (a.eval x) ((rdOf x).get σ.tm)) :
    LRes.pureOk P g w (Builtin.len_ ts ty (#[x].map a.eval)) (llen false ((rdOf x).get σ.tm)):=by
  generalize (rdOf x).get σ.tm=X at hx
  cases X with
  | sl n cs =>
    obtain ⟨A,c,hv,_⟩:=hx.sl_inv
    intro _
    exact ⟨_,by simp [Builtin.len_,h,run_underlying hu,hv,goInt],rint _ _⟩
  | msl k g' o n =>
    obtain ⟨c,A,blk,cap,hv,_⟩:=hx.msl_inv
    intro _
    exact ⟨_,by simp [Builtin.len_,h,run_underlying hu,hv,goInt],rint _ _⟩
  | qsl k g' e q n =>
    obtain ⟨c,A,blk,cap,hv,_⟩:=hx.qsl_inv
    intro _
    exact ⟨_,by simp [Builtin.len_,h,run_underlying hu,hv,goInt],rint _ _⟩
  | msv k g' o n e =>
    obtain ⟨c,A,blk,cap,hv,_⟩:=hx.msv_inv
    intro _
    exact ⟨_,by simp [Builtin.len_,h,run_underlying hu,hv,goInt],rint _ _⟩
  | e0 =>
    obtain ⟨A,hv⟩:=hx.e0_inv
    intro _
    exact ⟨_,by simp [Builtin.len_,h,run_underlying hu,hv,goInt],rint _ _⟩
  | _=>trivial
theorem call_ok (hs:SimG E g σ a w) {s:Nat} (c:Call) (ty:TypeId) :
    LRes.ok P E g σ a w s (do let d ← resolve a.eval c ty;invoke d.target d.args) (lop (trCall P c) σ.tm σ.H):=by
  obtain ⟨callee,args,argTypes⟩:=c
  unfold trCall
  cases callee with
  | value f =>
    cases f with
    | func f =>
      obtain ⟨h1,h2⟩:=args_rep hs.tm args
      intro hen
      refine ⟨args.map a.eval,?_,h1,h2,rfl,fun h=>h⟩
      have:=callFunc_run (P:=P) (w:=w) (vs:=args.map a.eval) hen
      simp [resolve,Act.eval,Deferred.ofValue,invoke,this]
    | tmp t =>
      have hf:=rep_rd hs.tm (.tmp t)
      simp only [lop]
      generalize (rdOf (.tmp t)).get σ.tm=F at hf
      cases F with
      | fn f cap =>
        obtain ⟨vs,hv,hl,hr⟩:=hf.fn_inv
        intro hen
        obtain ⟨h1,h2⟩:=args_rep hs.tm args
        refine ⟨args.map a.eval++vs,?_,by rw [Array.size_append,List.length_append,h1,hl],fun j u c hu hc=>?_,rfl,fun h=>h⟩
        · have:=callFunc_run (P:=P) (w:=w) (vs:=args.map a.eval++vs) hen
          simp [resolve,hv,Deferred.ofValue,invoke,this]
        · rw [Array.getElem?_append] at hu
          rw [List.getElem?_append] at hc
          rw [h1] at hu
          split at hu
          · rename_i hlt;rw [if_pos hlt] at hc;exact h2 j u c hu hc
          · rename_i hlt;rw [if_neg hlt] at hc;exact hr _ u c hu hc
      | _=>trivial
    | _=>trivial
  | builtin b =>
    cases b with
    | len =>
      have hq:(do let d ← resolve a.eval { callee:=.builtin .len,args,argTypes } ty;invoke d.target d.args:Sem Next)=(do pure (.value (← Builtin.len_ argTypes ty (args.map a.eval)))):=rfl
      rw [hq]
      simp only []
      split
      · rename_i x ha ht
        obtain rfl:=args1 ha
        obtain ⟨t0,ht0,hu⟩:=types1 ht
        exact ok_of_pure hs (len_str ht0 hu (rep_rd hs.tm x))
      · rename_i x e ha ht
        obtain rfl:=args1 ha
        obtain ⟨t0,ht0,hu⟩:=types1 ht
        exact ok_of_pure hs (len_sl ht0 hu (rep_rd hs.tm x))
      · rename_i x n e ha ht
        obtain rfl:=args1 ha
        obtain ⟨t0,ht0,hu⟩:=types1 ht
        refine ok_of_pure hs fun _=>⟨_,by simp [Builtin.len_,ht0,run_underlying hu,goInt],rint _ _⟩
      · rename_i x k e ha ht
        obtain rfl:=args1 ha
        obtain ⟨t0,ht0,hu⟩:=types1 ht
        exact ok_of_pure hs (mlen_pure hs ht0 hu (rep_rd hs.tm x))
      · trivial
    | append =>
      have hq:(do let d ← resolve a.eval { callee:=.builtin .append,args,argTypes } ty;invoke d.target d.args:Sem Next)=(do pure (.value (← Builtin.append_ argTypes ty (args.map a.eval)))):=rfl
      rw [hq]
      have key:∀ (x y:Operand) (e:TypeId) (d2:TypeDesc),args.toList=[x,y]→(argTypes[0]?).bind P.underlying=some (.slice e)→(argTypes[1]?).bind P.underlying=some d2→((∃ e',d2 = .slice e')∨d2 = .string) →
          LRes.ok P E g σ a w s (do pure (.value (← Builtin.append_ argTypes ty (args.map a.eval)))) (lop (orBad do
            let s ← szT P e
            let b ← bytesT P e
            let z ← zeroT P e
            if s=0 || z.cells.length != s then none else pure (.app s b (rdOf x) (rdOf y))) σ.tm σ.H):=by
        intro x y e d2 ha h1 h2 hd
        obtain rfl:=args2 ha
        obtain ⟨t1,ht1,hu1⟩:=types1 h1
        obtain ⟨t2,ht2,hu2⟩:=types2 h2
        refine orBad_ok fun i hi=>?_
        simp only [Option.bind_eq_bind,Option.bind_eq_some_iff] at hi
        obtain ⟨s',hs',b,hb,z,hz,hi⟩:=hi
        split at hi
        · cases hi
        · rename_i hc
          cases hi
          simp only [Bool.or_eq_true,not_or,bne_iff_ne,ne_eq,Decidable.not_not,decide_eq_true_eq] at hc
          have em:#[x,y].map a.eval = #[a.eval x,a.eval y]:=by simp
          rw [em]
          exact app_ok hs ht1 ht2 hu1 hu2 hd hs' hc.1 hb hz hc.2 (rep_rd hs.tm x) (rep_rd hs.tm y)
      simp only []
      split
      · rename_i x y e e' ha h1 h2;exact key x y e _ ha h1 h2 (.inl ⟨e',rfl⟩)
      · rename_i x y e ha h1 h2;exact key x y e _ ha h1 h2 (.inr rfl)
      · trivial
    | min =>
      have hq:(do let d ← resolve a.eval { callee:=.builtin .min,args,argTypes } ty;invoke d.target d.args:Sem Next)=(do pure (.value (← Builtin.min_ argTypes ty (args.map a.eval)))):=rfl
      rw [hq]
      simp only []
      split
      · rename_i x y ha
        obtain rfl:=args2 ha
        refine ok_of_pure hs (pureOk_of (s':=Builtin.min2 (a.eval x) (a.eval y)) (mn_pure (rep_rd hs.tm x) (rep_rd hs.tm y)) ?_)
        simp [Builtin.min_]
      · trivial
    | max =>
      have hq:(do let d ← resolve a.eval { callee:=.builtin .max,args,argTypes } ty;invoke d.target d.args:Sem Next)=(do pure (.value (← Builtin.max_ argTypes ty (args.map a.eval)))):=rfl
      rw [hq]
      simp only []
      split
      · rename_i x y ha
        obtain rfl:=args2 ha
        refine ok_of_pure hs (pureOk_of (s':=Builtin.max2 (a.eval x) (a.eval y)) (mx_pure (rep_rd hs.tm x) (rep_rd hs.tm y)) ?_)
        simp [Builtin.max_]
      · rename_i x y z ha
        obtain rfl:args = #[x,y,z]:=by rw [← Array.toArray_toList (xs:=args),ha]
        refine ok_of_pure hs (pureOk_of (s':=do Builtin.max2 (← Builtin.max2 (a.eval x) (a.eval y)) (a.eval z)) (mx3_pure (rep_rd hs.tm x) (rep_rd hs.tm y) (rep_rd hs.tm z)) ?_)
        simp [Builtin.max_]
      · trivial
    | _=>trivial
  | invoke=>trivial
theorem caps_rep (ht:∀ t,Rep g w (slotV E a t) (σ.tm t)) (f:FuncId) (cap:Array Operand):Rep g w (.func (.func f) #[] (cap.map a.eval)) (.fn f ((cap.toList.map rdOf).map (Rd.get σ.tm))):=by
  obtain ⟨h1,h2⟩:=args_rep ht cap
  exact .fn f _ _ h1 h2
theorem step_sound (hs:SimG E g σ a w) (o:Oper) (s:Nat):LRes.ok P E g σ a w s (execOp a.eval o) (lop (tr P o) σ.tm σ.H):=by
  obtain ⟨dst,op,ty,pos,after,guard⟩:=o
  have rd:=rep_rd hs.tm
  cases op with
  | move x=>exact pure_ok hs (rd x)
  | assign x=>exact pure_ok hs (rd x)
  | pick c x y =>
    simp only [tr,lop,execOp]
    have hc:=rd c
    generalize (rdOf c).get σ.tm=C at hc
    cases C with
    | bool t =>
      have:=hc.bool_inv
      intro _
      refine ⟨_,w,g,by simp [this,asBool];rfl,hs,?_⟩
      cases t
      · exact rd y
      · exact rd x
    | _=>trivial
  | alloc t =>
    refine orBad_ok fun i hi=>?_
    simp only [Option.map_eq_some_iff] at hi
    obtain ⟨z,hz,rfl⟩:=hi
    exact alloc_ok hs hz
  | box t x=>exact box_ok hs (rd x)
  | build t parts =>
    refine orBad_ok fun i hi=>?_
    simp only [Option.bind_eq_bind,Option.bind_eq_some_iff] at hi
    obtain ⟨z,hz,ps,hps,hi⟩:=hi
    cases hi
    exact build_ok hs hz hps
  | buildSlice t n parts =>
    simp only [tr]
    cases ht:P.underlying t with
    | none=>trivial
    | some d =>
      cases d with
      | slice e =>
        refine orBad_ok fun i hi=>?_
        simp only [Option.bind_eq_bind,Option.bind_eq_some_iff] at hi
        obtain ⟨s',hs',z,hz,hi⟩:=hi
        split at hi
        · cases hi
        · rename_i hc
          cases hi
          simp only [Bool.or_eq_true,not_or,decide_eq_true_eq,bne_iff_ne,ne_eq,Decidable.not_not,beq_iff_eq,Bool.and_eq_true,not_and] at hc
          obtain ⟨⟨⟨c1,c2⟩,c3⟩,c4⟩:=hc
          exact bsl_ok hs ht hs' c3 hz c2 c1 (fun h=>by simpa using c4 h)
      | _=>trivial
  | load t x =>
    refine orBad_ok fun i hi=>?_
    simp only [Option.bind_eq_bind,Option.bind_eq_some_iff] at hi
    obtain ⟨n,hn,agg,hagg,hi⟩:=hi
    cases hi
    exact load_ok hs hn hagg (rd x)
  | store t x y =>
    refine orBad_ok fun i hi=>?_
    simp only [Option.map_eq_some_iff] at hi
    obtain ⟨n,hn,rfl⟩:=hi
    exact store_ok hs hn (rd x) (rd y)
  | nilCheck x =>
    simp only [tr,lop,execOp]
    exact nil_ok hs (rd x) fun ad h=>by rw [h]
  | binOp op t x y yt =>
    have bin:∀ op',op' = op→LRes.ok P E g σ a w s (execOp a.eval ⟨dst,.binOp op t x y yt,ty,pos,after,guard⟩) (lop (.bin op' (rdOf x) (rdOf y)) σ.tm σ.H):=by
      intro op' e;subst e
      exact ok_of_pure hs (lbin_sound (rd x) (rd y))
    by_cases he:op = .eql∨op = .neq
    · have hneg:∃ neg:Bool,op=(if neg then .neq else .eql):=by
        rcases he with h|h
        · exact ⟨false,h⟩
        · exact ⟨true,h⟩
      obtain ⟨neg,hop⟩:=hneg
      have htr:tr P ⟨dst,.binOp op t x y yt,ty,pos,after,guard⟩=match P.underlying t with
          | some (.int _)|some .string=>.bin op (rdOf x) (rdOf y)
          | some .bool=>.eqb neg (rdOf x) (rdOf y)
          | some (.pointer _)=>.eqp neg (rdOf x) (rdOf y)
          | some (.interface _)=>.eqi neg (isConstO x || isConstO y) (rdOf x) (rdOf y)
          | some (.array _ _)=>orBad ((arrIT P t).map fun nq=>.eqa nq.1 nq.2 neg (rdOf x) (rdOf y))
          | some (.struct _)=>orBad ((arrIT P t).map fun nq=>.eqa nq.1 nq.2 neg (rdOf x) (rdOf y))
          | some (.func _ _ _)=>.eqf neg (rdOf x) (rdOf y)
          | _=>.bad:=by subst hop;cases neg<;>rfl
      rw [htr]
      cases ht:P.underlying t with
      | none=>trivial
      | some d =>
        cases d with
        | int k=>exact bin op rfl
        | string=>exact bin op rfl
        | bool=>subst hop;exact ok_of_pure hs (leqb_sound (rd x) (rd y) ht)
        | pointer e=>subst hop;exact ok_of_pure hs (leqp_sound (rd x) (rd y) ht)
        | interface ms=>subst hop;exact ok_of_pure hs (leqi_sound (rd x) (rd y) ht rfl)
        | array m e =>
          subst hop
          refine orBad_ok fun i hi=>?_
          simp only [Option.map_eq_some_iff] at hi
          obtain ⟨⟨n,q⟩,hn,rfl⟩:=hi
          exact ok_of_pure hs (leqa_sound (rd x) (rd y) hn)
        | struct fs =>
          subst hop
          refine orBad_ok fun i hi=>?_
          simp only [Option.map_eq_some_iff] at hi
          obtain ⟨⟨n,q⟩,hn,rfl⟩:=hi
          exact ok_of_pure hs (leqa_sound (rd x) (rd y) hn)
        | func a b c=>subst hop;exact ok_of_pure hs (leqf_sound (rd x) (rd y) ht)
        | _=>trivial
    · have htr:tr P ⟨dst,.binOp op t x y yt,ty,pos,after,guard⟩ = .bin op (rdOf x) (rdOf y):=by
        cases op<;>first|rfl|exact absurd (.inl rfl) he|exact absurd (.inr rfl) he
      rw [htr]
      exact bin op rfl
  | unOp op t x=>exact ok_of_pure hs (lun_sound (rd x))
  | convert sT dT x =>
    simp only [tr]
    cases h1:P.underlying sT with
    | none=>trivial
    | some d1 =>
      cases h2:P.underlying dT with
      | none=>cases d1<;>trivial
      | some d2 =>
        have triv:LRes.ok P E g σ a w s (execOp a.eval ⟨dst,.convert sT dT x,ty,pos,after,guard⟩) (lop .bad σ.tm σ.H):=trivial
        cases d1 with
        | int k1 =>
          cases d2 with
          | int k =>
            refine ok_of_pure hs ?_
            have hx:=rd x
            simp only [lop]
            generalize (rdOf x).get σ.tm=X at hx
            cases X with
            | int k' n =>
              have:=hx.int_inv
              intro _
              exact ⟨_,by simp [convert,run_underlying h1,run_underlying h2,this,Conv.intToInt],rint _ _⟩
            | _=>trivial
          | _=>trivial
        | string =>
          cases d2 with
          | string =>
            refine ok_of_pure hs ?_
            have hx:=rd x
            simp only [lop]
            generalize (rdOf x).get σ.tm=X at hx
            cases X with
            | str b =>
              have:=hx.str_inv
              intro _
              exact ⟨_,by simp [convert,run_underlying h1,run_underlying h2,this],rstr _⟩
            | _=>trivial
          | slice e =>
            simp only []
            split
            · rename_i he
              simp only [Bool.and_eq_true] at he
              exact s2b_ok hs h1 h2 he.1 (rd x)
            · trivial
          | _=>trivial
        | slice e =>
          cases d2 with
          | string =>
            simp only []
            split
            · rename_i he
              exact ok_of_pure hs (b2s_pure hs h1 h2 he (rd x))
            · trivial
          | slice e2 =>
            simp only []
            split
            · rename_i he
              simp only [Bool.and_eq_true,beq_iff_eq] at he
              obtain ⟨he,rfl⟩:=he
              exact msb_ok hs h2 he (rd x)
            · trivial
          | _=>trivial
        | _=>cases d2<;>trivial
  | makeInterface t x =>
    simp only [tr]
    cases ht:P.underlying t with
    | none=>trivial
    | some d =>
      have hq:(∀ ms,d≠.interface ms)→(Instr.makeInterface t (a.eval x)).run P w = .ok (.iface t (a.eval x)) w:=by
        intro hd
        cases d<;>first|exact absurd rfl (hd _)|simp [Instr.makeInterface,run_underlying ht]
      cases d<;>first
        | trivial
        | (intro _;exact ⟨_,w,g,run_val (hq (fun ms h=>by cases h)),hs,.ifc _ _ _ (rd x)⟩)
  | makeFunc fn first cap =>
    cases fn with
    | func f =>
      simp only [tr]
      split
      · rename_i h
        have hf:first = #[]:=by simpa using h
        subst hf
        have em:(#[]:Array Operand).map a.eval = #[]:=by simp
        simp only [execOp,em]
        exact pure_ok hs (caps_rep hs.tm f cap)
      · trivial
    | _=>trivial
  | makeSlice t l c =>
    simp only [tr]
    cases ht:P.underlying t with
    | none=>trivial
    | some d =>
      cases d with
      | slice e =>
        refine orBad_ok fun i hi=>?_
        simp only [Option.bind_eq_bind,Option.bind_eq_some_iff] at hi
        obtain ⟨s',hs',b,hb,z,hz,hi⟩:=hi
        split at hi
        · cases hi
        · rename_i hc
          cases hi
          simp only [Bool.or_eq_true,not_or,bne_iff_ne,ne_eq,Decidable.not_not,beq_iff_eq] at hc
          exact mksl_ok hs ht hs' hc.2 hb hz hc.1 (rd l) (rd c)
      | _=>trivial
  | slice t x lo hi mx =>
    cases mx with
    | some m=>trivial
    | none =>
      simp only [tr]
      cases ht:P.underlying t with
      | none=>trivial
      | some d =>
        cases d with
        | string=>exact ok_of_pure hs (slS_pure hs ht (rd x))
        | slice e =>
          refine orBad_ok fun i hi=>?_
          simp only [Option.bind_eq_bind,Option.bind_eq_some_iff] at hi
          obtain ⟨n,hn,hi⟩:=hi
          split at hi
          · cases hi
          · rename_i h0;cases hi
            exact ok_of_pure hs (slV_pure hs ht hn h0 (rd x))
        | array m e =>
          refine orBad_ok fun i hi=>?_
          simp only [Option.bind_eq_bind,Option.bind_eq_some_iff] at hi
          obtain ⟨n,hn,hi⟩:=hi
          split at hi
          · cases hi
          · rename_i h0;cases hi
            exact ok_of_pure hs (slA_pure hs ht hn (rd x))
        | _=>trivial
  | fieldAddr t x f =>
    simp only [tr]
    cases ht:P.underlying t with
    | none=>trivial
    | some d =>
      cases d with
      | struct fs =>
        refine orBad_ok fun i hi=>?_
        simp only [Option.bind_eq_bind,Option.bind_eq_some_iff] at hi
        obtain ⟨fd,hfd,n,hn,hi⟩:=hi
        split at hi
        · cases hi
        · rename_i h0;cases hi
          exact ok_of_pure hs (fad_pure ht hfd hn h0 (rd x))
      | _=>trivial
  | field t x f =>
    simp only [tr]
    cases ht:P.underlying t with
    | none=>trivial
    | some d =>
      cases d with
      | struct fs =>
        refine orBad_ok fun i hi=>?_
        simp only [Option.bind_eq_bind,Option.bind_eq_some_iff] at hi
        obtain ⟨fd,hfd,n,hn,agg,hagg,hi⟩:=hi
        cases hi
        exact ok_of_pure hs (fld_pure ht hfd hn hagg (rd x))
      | _=>trivial
  | indexAddr t x i =>
    simp only [tr]
    cases ht:P.underlying t with
    | none=>trivial
    | some d =>
      cases d with
      | array m e =>
        refine orBad_ok fun j hj=>?_
        simp only [Option.map_eq_some_iff] at hj
        obtain ⟨n,hn,rfl⟩:=hj
        exact ok_of_pure hs (iaA_pure ht hn (rd x) (rd i))
      | slice e =>
        refine orBad_ok fun j hj=>?_
        simp only [Option.map_eq_some_iff] at hj
        obtain ⟨n,hn,rfl⟩:=hj
        exact ok_of_pure hs (iaS_pure ht hn (rd x) (rd i))
      | _=>trivial
  | index t x i =>
    simp only [tr]
    cases ht:P.underlying t with
    | none=>trivial
    | some d =>
      cases d with
      | string=>exact ok_of_pure hs (ixS_pure ht (rd x) (rd i))
      | array m e =>
        refine orBad_ok fun j hj=>?_
        simp only [Option.bind_eq_bind,Option.bind_eq_some_iff] at hj
        obtain ⟨n,hn,agg,hagg,hj⟩:=hj
        cases hj
        exact ok_of_pure hs (ixA_pure ht hn hagg (rd x) (rd i))
      | _=>trivial
  | typeAssert x xt t ok =>
    cases ok with
    | false=>trivial
    | true =>
      simp only [tr]
      cases ht:P.underlying t with
      | none=>trivial
      | some d =>
        have key:(∀ ms,d≠.interface ms)→LRes.ok P E g σ a w s (execOp a.eval ⟨dst,.typeAssert x xt t true,ty,pos,after,guard⟩) (lop (orBad ((zeroT P t).map fun z=>.tas t z (rdOf x))) σ.tm σ.H):=by
          intro hd
          refine orBad_ok fun i hi=>?_
          simp only [Option.map_eq_some_iff] at hi
          obtain ⟨z,hz,rfl⟩:=hi
          exact ok_of_pure hs (tas_pure ht hd hz (rd x))
        cases d<;>first|trivial|exact key (fun ms h=>by cases h)
  | extract x i=>exact ok_of_pure hs (ext_pure (rd x))
  | makeMap t r =>
    cases r with
    | none=>exact mkmap_ok hs
    | some r=>trivial
  | lookup t x i ok =>
    simp only [tr]
    cases ht:P.underlying t with
    | none=>trivial
    | some d =>
      cases d with
      | map k e =>
        refine orBad_ok fun j hj=>?_
        simp only [Option.bind_eq_bind,Option.bind_eq_some_iff] at hj
        obtain ⟨kt,hkt,z,hz,hj⟩:=hj
        cases hj
        exact ok_of_pure hs (mlk_pure hs ht hkt hz (rd x) (rd i))
      | _=>trivial
  | mapUpdate t x i v =>
    simp only [tr]
    cases ht:P.underlying t with
    | none=>trivial
    | some d =>
      cases d with
      | map k e =>
        refine orBad_ok fun j hj=>?_
        simp only [Option.map_eq_some_iff] at hj
        obtain ⟨kt,hkt,rfl⟩:=hj
        exact mset_ok hs ht hkt (rd x) (rd i) (rd v)
      | _=>trivial
  | insert t x i v =>
    simp only [tr]
    cases ht:P.underlying t with
    | none=>trivial
    | some d =>
      cases d with
      | map k e =>
        refine orBad_ok fun j hj=>?_
        simp only [Option.map_eq_some_iff] at hj
        obtain ⟨kt,hkt,rfl⟩:=hj
        exact mset_ok hs ht hkt (rd x) (rd i) (rd v)
      | _=>trivial
  | call c=>exact call_ok hs c ty
  | range t x=>simp only [tr];split<;>trivial
  | next x b=>cases b<;>trivial
  | entry x=>trivial
  | _=>trivial
end
end Go.Lg

namespace Go.Lg
open Go Go.RowKit
def PRet (P:Program) (f:FuncId) (args:List V) (r:V):Prop :=
  entersOk P f=true∧∀ (imm:Nat→Prop) (w:World) (vs:Array Value),Imm0 P imm w→vs.size=args.length →
    (∀ (j:Nat) (u:Value) (c:V),vs[j]? = some u→args[j]? = some c→RepI imm w u c) →
    Calls P f vs w fun e w'=>∃ v imm',e = .returned v∧RepI imm' w' v r∧BelowD w.heap.size w w'∧(∀ b,imm b→imm' b)∧(∀ b,imm' b→imm b∨(w.heap.size≤b∧b<w'.heap.size))
def St.put (σ:St) (d:Option Nat) (v:V):St:=⟨dput σ.tm d v,σ.H,σ.cnt⟩
def PRetF (P:Program) (f:FuncId) (args:List V) (r:V):Prop :=
  entersOk P f=true∧∀ (imm:Nat→Prop) (w:World) (vs:Array Value),Imm0 P imm w→vs.size=args.length →
    (∀ (j:Nat) (u:Value) (c:V),vs[j]? = some u→args[j]? = some c→RepI imm w u c) →
    Calls P f vs w fun e w'=>∃ v imm',e = .returned v∧RepI imm' w' v r∧BelowD w.heap.size w w'∧(∀ b,imm' b→w.heap.size≤b∧b<w'.heap.size)
def resOk (P:Program) (f:FuncId) (args sargs:List V) (r:V):Prop:=(args=sargs∨flat 4 r=true)∨PRetF P f sargs r
def callV (P:Program) (f:FuncId) (args sargs:List V) (d:Option Nat) (K:St→Prop) (σ:St):Prop :=
  ∃ r,PRet P f sargs r∧resOk P f args sargs r∧K (σ.put d r)
def vres (P:Program) (σ:St) (s:Nat) (d:Option Nat) (K:St→Prop):LRes→Prop
  | .A pre v=>pre∧K (σ.put d v)
  | .C pre o mk=>pre∧K (St.put ⟨σ.tm,hupd σ.H (s,σ.cnt s) o,cupd σ.cnt s⟩ d (mk (s,σ.cnt s)))
  | .D pre v H'=>pre∧K (St.put ⟨σ.tm,H',σ.cnt⟩ d v)
  | .call pre f args sargs=>pre∧callV P f args sargs d K σ
  | .bad=>False
structure LOp where
  dst:Option Nat
  op:IOp
  guard:Option (Nat × Bool)
def gd (tm:Nat→V):Option (Nat × Bool)→Option Bool
  | none=>some true
  | some (t,want)=>match tm t with
    | .bool b=>some (b == want)
    | .tup []=>some false
    | _=>none
def vstep (P:Program) (s:Nat) (o:LOp) (K:St→Prop) (σ:St):Prop :=
  match gd σ.tm o.guard with
  | some true=>vres P σ s o.dst K (lop o.op σ.tm σ.H)
  | some false=>K (σ.put o.dst (.tup []))
  | none=>False
def isE0 (P:Program) (ops:Array Oper):Rd→Bool
  | .con .e0=>true
  | .tmp t=>ops.toList.any fun o=>(match o.dst with|some d=>decide (d=t)|none=>false) && (o.guard.isNone && match tr P o with | .bsl 0 _ _=>true|_=>false)
  | _=>false
def toB (ops:Array Oper):Option Nat→Bool
  | none=>false
  | some d=>ops.toList.any fun o=>match o.op with
    | .convert s t (.tmp x)=>decide (s=t) && decide (x=d)
    | _=>false
def trE (P:Program) (ops:Array Oper) (o:Oper):IOp:=match tr P o with
  | .app e b x y=>if isE0 P ops x then .appE e b x y else .app e b x y
  | .bsl n zs ps=>if toB ops o.dst then .bslo n zs ps else .bsl n zs ps
  | i=>i
def litR (op:IOp) (tm:Nat→V):LRes:=match op with
  | .bsl n zs ps=>if n=0 then .bad else .C (partsOk tm zs.length ps) (.row 0 (zs.length / n) (fillL tm zs ps)) fun k=>.msl k 0 0 n
  | _=>.bad
theorem lop_trE (P:Program) (ops:Array Oper) (o:Oper) (tm:Nat→V) (H:Heap):lop (trE P ops o) tm H=lop (tr P o) tm H∨lop (trE P ops o) tm H = .bad∨lop (trE P ops o) tm H=litR (tr P o) tm:=by
  unfold trE
  cases tr P o with
  | app e b x y =>
    simp only []
    split
    · simp only [lop,lappE]
      generalize x.get tm=X
      cases X with
      | e0=>exact .inl rfl
      | _=>exact .inr (.inl rfl)
    · exact .inl rfl
  | bsl n zs ps =>
    simp only []
    split
    · exact .inr (.inr rfl)
    · exact .inl rfl
  | _=>exact .inl rfl
def trO (P:Program) (ops:Array Oper) (o:Oper):LOp :=
  { dst:=o.dst,op:=trE P ops o,guard:=match o.guard with|none=>none|some (j,want)=>some (((ops[j]?).bind (·.dst)).getD 0,want) }
section
variable {P:Program} {g:Gh} {w w':World} {E:Env} [EOk P E] {σ:St} {a:Act}
theorem snap_fix:∀ (d:Nat) {v:Value} {x:V} {H:Heap},Rep g w v x→snap H d x=x→RepI g.imm w v x:=by
  intro d
  induction d with
  | zero =>
    intro v x H h e
    simp only [snap] at e
    subst e
    exact .junk _
  | succ d ih =>
    intro v x H h e
    have mapfix:∀ (cs:List V),cs.map (snap H d)=cs→∀ (j:Nat) (c:V),cs[j]? = some c→snap H d c=c:=by
      intro cs hc j c hj
      have:=congrArg (fun l=>l[j]?) hc
      simp only [List.getElem?_map,hj,Option.map_some,Option.some.injEq] at this
      exact this
    cases h with
    | imm _ _ h=>exact h
    | agg vs cs hs hr =>
      simp only [snap,V.agg.injEq] at e
      exact .agg vs cs hs fun j v c hv hc=>ih (hr j v c hv hc) (mapfix cs e j c hc)
    | tup vs cs hs hr =>
      simp only [snap,V.tup.injEq] at e
      exact .tup vs cs hs fun j v c hv hc=>ih (hr j v c hv hc) (mapfix cs e j c hc)
    | fn f vs cs hs hr =>
      simp only [snap,V.fn.injEq,true_and] at e
      exact .fn f vs cs hs fun j v c hv hc=>ih (hr j v c hv hc) (mapfix cs e j c hc)
    | ifc t v x hr =>
      simp only [snap,V.ifc.injEq,true_and] at e
      exact .ifc t v x (ih hr e)
    | mm key b cap hb =>
      simp only [snap] at e
      split at e<;>cases e
    | mp key gen off b cap hb =>
      simp only [snap] at e
      split at e
      · split at e<;>cases e
      · cases e
    | msl key gen off n c A blk cap h1 h2 h3 h4 h5 =>
      simp only [snap] at e
      split at e
      · split at e<;>cases e
      · cases e
    | msv key gen off n esz c A b cap h1 h2 h3 =>
      simp only [snap] at e
      split at e
      · split at e<;>cases e
      · cases e
    | qsl key gen esz q n c A blk cap h1 h2 h3 h4 h5 =>
      simp only [snap] at e
      split at e
      · split at e
        · split at e<;>cases e
        · cases e
      · cases e
def allImm (g:Gh) (H:Heap) (b:Nat):Prop:=g.imm b∨∃ key o,H key=some o∧blkOf g key o=some b
theorem allImm_lt (hs:SimG E g σ a w):∀ b,allImm g σ.H b→b<w.heap.size:=by
  rintro b (h|⟨key,o,hk,hb⟩)
  · exact hs.immlt b h
  · exact ((hs.obj key o hk).blk hb).1
theorem snap_rep (hs:SimG E g σ a w):∀ (d:Nat) {v:Value} {x:V},Rep g w v x→RepI (allImm g σ.H) w v (snap σ.H d x):=by
  intro d
  induction d with
  | zero=>intro v x h;exact .junk _
  | succ d ih =>
    intro v x h
    have up:∀ {v x},RepI g.imm w v x→RepI (allImm g σ.H) w v x:=fun h=>h.mono (fun _ h=>.inl h) (fun _ _=>rfl)
    have maps:∀ (cs:List V) (j:Nat) (c:V),(cs.map (snap σ.H d))[j]? = some c→∃ c0,cs[j]? = some c0∧snap σ.H d c0=c:=by
      intro cs j c hc
      simpa only [List.getElem?_map,Option.map_eq_some_iff] using hc
    have main:∀ {v:Value} (key:Key) (gen off n:Nat),Rep g w v (.msl key gen off n)→RepI (allImm g σ.H) w v (snap σ.H (d+1) (.msl key gen off n)):=by
      intro v key gen off n h
      obtain ⟨c,A,blk,cap,rfl,q1,q2,q3,q4,q5⟩:=h.msl_inv
      simp only [snap]
      cases hk:σ.H key with
      | none=>exact .junk _
      | some o =>
        cases o with
        | map es=>exact .junk _
        | it _=>exact .junk _
        | row g' esz cs =>
          simp only []
          split
          · rename_i hc
            obtain ⟨rfl,hle⟩:=hc
            obtain ⟨blk',cap',r1,r2,r3⟩:=hs.obj key _ hk
            rw [q1] at r1;cases r1
            have hlen:(((cs.drop off).take (n*esz)).map (snap σ.H d)).length=n*esz:=by simp;omega
            cases blk with
            | none =>
              have hc0:=q5 rfl
              have hn:n=0:=by omega
              subst hn
              have:((cs.drop off).take (0*esz)).map (snap σ.H d)=[]:=by simp
              rw [this];exact .sl0 _ _
            | some b =>
              obtain ⟨p1,p2,p3,us,T,fz,t1,t2,t3,t4,t5⟩:=r3
              by_cases hc0:c=0
              · have hn:n=0:=by omega
                subst hn
                have:((cs.drop off).take (0*esz)).map (snap σ.H d)=[]:=by simp
                rw [this];exact .sl0 _ _
              · rw [q4 b rfl (by omega)]
                refine .sl b off n c us T fz _ (.inr ⟨key,_,hk,by simp [blkOf,q1]⟩) t1 (by omega) q3 fun j u x hu hx=>?_
                obtain ⟨x0,hx0,rfl⟩:=maps _ j x hx
                rw [List.getElem?_take] at hx0
                split at hx0
                · rw [List.getElem?_drop] at hx0
                  exact ih (t5 _ u x0 hu hx0)
                · cases hx0
          · exact .junk _
    cases x with
    | msv key gen off n esz' =>
      obtain ⟨c,A,b,cap,rfl,q1,q3,q4⟩:=h.msv_inv
      simp only [snap]
      cases hk:σ.H key with
      | none=>exact .junk _
      | some o =>
        cases o with
        | map es=>exact .junk _
        | it _=>exact .junk _
        | row g' esz cs =>
          simp only []
          split
          · rename_i hc
            obtain ⟨rfl,hle⟩:=hc
            obtain ⟨blk',cap',r1,r2,r3⟩:=hs.obj key _ hk
            rw [q1] at r1;cases r1
            obtain ⟨p1,p2,p3,us,T,fz,t1,t2,t3,t4,t5⟩:=r3
            have hlen:(((cs.drop off).take (n*esz')).map (snap σ.H d)).length=n*esz':=by simp;omega
            by_cases hc0:n=0
            · subst hc0
              have:((cs.drop off).take (0*esz')).map (snap σ.H d)=[]:=by simp
              rw [this];exact .sl0 _ _
            · rw [q4 (by omega)]
              refine .sl b off n c us T fz _ (.inr ⟨key,_,hk,by simp [blkOf,q1]⟩) t1 (by omega) q3 fun j u x hu hx=>?_
              obtain ⟨x0,hx0,rfl⟩:=maps _ j x hx
              rw [List.getElem?_take] at hx0
              split at hx0
              · rw [List.getElem?_drop] at hx0
                exact ih (t5 _ u x0 hu hx0)
              · cases hx0
          · exact .junk _
    | msl key gen off n=>exact main key gen off n h
    | qsl key gen e q n =>
      rw [snap_qsl]
      split
      · rename_i h0;exact main _ _ _ _ (h.qsl_msl h0)
      · exact .junk _
    | mp key gen off =>
      obtain ⟨b,cap,hb,rfl⟩:=h.mp_inv
      simp only [snap]
      cases hk:σ.H key with
      | none=>exact .junk _
      | some o =>
        cases o with
        | map es=>exact .junk _
        | it _=>exact .junk _
        | row g' esz cs =>
          simp only []
          split
          · rename_i e;subst e
            obtain ⟨blk',cap',r1,r2,r3⟩:=hs.obj key _ hk
            rw [hb] at r1;cases r1
            obtain ⟨p1,p2,p3,us,T,fz,t1,t2,t3,t4,t5⟩:=r3
            have:=RepI.ip (imm:=allImm g σ.H) (w:=w) b 0 off us T fz (cs.map (snap σ.H d)) (.inr ⟨key,_,hk,by simp [blkOf,hb]⟩) t1 (by simp;omega) (fun j u x hu hx=>by
              obtain ⟨x0,hx0,rfl⟩:=maps _ j x hx
              exact ih (t5 j u x0 (by simpa using hu) hx0))
            simpa using this
          · exact .junk _
    | agg cs =>
      obtain ⟨vs,rfl,hl,hr⟩:=h.agg_inv
      exact .agg vs _ (by simpa using hl) fun j v c hv hc=>by
        obtain ⟨c0,h0,rfl⟩:=maps _ j c hc
        exact ih (hr j v c0 hv h0)
    | tup cs =>
      obtain ⟨vs,rfl,hl,hr⟩:=h.tup_inv
      exact .tup vs _ (by simpa using hl) fun j v c hv hc=>by
        obtain ⟨c0,h0,rfl⟩:=maps _ j c hc
        exact ih (hr j v c0 hv h0)
    | fn f cs =>
      obtain ⟨vs,rfl,hl,hr⟩:=h.fn_inv
      exact .fn f vs _ (by simpa using hl) fun j v c hv hc=>by
        obtain ⟨c0,h0,rfl⟩:=maps _ j c hc
        exact ih (hr j v c0 hv h0)
    | ifc t x =>
      obtain ⟨u,rfl,hu⟩:=h.ifc_inv
      exact .ifc t u _ (ih hu)
    | mm key =>
      obtain ⟨b,cap,hb,rfl⟩:=h.mm_inv
      simp only [snap]
      cases hk:σ.H key with
      | none=>exact .junk _
      | some o =>
        cases o with
        | row=>exact .junk _
        | it=>exact .junk _
        | map es =>
          obtain ⟨b',r1,r2,p1,p2,p3,ents,clock,m1,m2,m3,m4⟩:=hs.obj key _ hk
          rw [hb] at r1;cases r1
          refine .im b clock ents _ (.inr ⟨key,_,hk,by simp [blkOf,hb]⟩) m1 (by simp [m2]) (fun j e p he hp=>?_) (fun j e p he hp=>?_) m4
          · simp only [List.getElem?_map,Option.map_eq_some_iff] at hp
            obtain ⟨p0,hp0,rfl⟩:=hp
            exact ih (m3 j e p0 he hp0).1
          · simp only [List.getElem?_map,Option.map_eq_some_iff] at hp
            obtain ⟨p0,hp0,rfl⟩:=hp
            exact ih (m3 j e p0 he hp0).2
    | _=>cases h with|imm _ _ h=>exact up h
theorem flat_rep:∀ (d:Nat) {imm imm':Nat→Prop} {w w':World} {v:Value} {x:V},RepI imm w v x→flat d x=true→RepI imm' w' v x:=by
  intro d
  induction d with
  | zero =>
    intro imm imm' w w' v x h hf
    cases h<;>first|(cases hf;done)|constructor
  | succ d ih =>
    intro imm imm' w w' v x h hf
    cases h with
    | agg vs cs hs hr=>exact .agg vs cs hs fun j v c hv hc=>ih (hr j v c hv hc) (List.all_eq_true.1 hf _ (List.mem_of_getElem? hc))
    | tup vs cs hs hr=>exact .tup vs cs hs fun j v c hv hc=>ih (hr j v c hv hc) (List.all_eq_true.1 hf _ (List.mem_of_getElem? hc))
    | fn f vs cs hs hr=>exact .fn f vs cs hs fun j v c hv hc=>ih (hr j v c hv hc) (List.all_eq_true.1 hf _ (List.mem_of_getElem? hc))
    | ifc t v x hr=>exact .ifc t v x (ih hr hf)
    | sl0=>cases hf
    | sl=>cases hf
    | ip=>cases hf
    | im=>cases hf
    | _=>constructor
def ownI (g:Gh) (H:Heap) (b:Nat):Prop:=∃ key o,H key=some o∧blkOf g key o=some b
theorem frs_rep (hs:SimG E g σ a w):∀ (d:Nat) {v:Value} {x:V},Rep g w v x→frs σ.H d x=true→RepI (ownI g σ.H) w v (snap σ.H d x):=by
  intro d
  induction d with
  | zero=>intro v x h _;exact .junk _
  | succ d ih =>
    intro v x h hf
    have maps:∀ (cs:List V) (j:Nat) (c:V),(cs.map (snap σ.H d))[j]? = some c→∃ c0,cs[j]? = some c0∧snap σ.H d c0=c:=by
      intro cs j c hc
      simpa only [List.getElem?_map,Option.map_eq_some_iff] using hc
    cases x with
    | msl key gen off n =>
      obtain ⟨c,A,blk,cap,rfl,q1,q2,q3,q4,q5⟩:=h.msl_inv
      simp only [snap,frs] at hf ⊢
      cases hk:σ.H key with
      | none=>simp [hk] at hf
      | some o =>
        cases o with
        | map es=>simp [hk] at hf
        | it _=>simp [hk] at hf
        | row g' esz cs =>
          simp only [hk,Bool.and_eq_true,beq_iff_eq,decide_eq_true_eq] at hf
          obtain ⟨⟨rfl,hle⟩,hf⟩:=hf
          simp only []
          simp only [hle,and_self,if_true]
          obtain ⟨blk',cap',r1,r2,r3⟩:=hs.obj key _ hk
          rw [q1] at r1;cases r1
          have hlen:(((cs.drop off).take (n*esz)).map (snap σ.H d)).length=n*esz:=by simp;omega
          cases blk with
          | none =>
            have hc0:=q5 rfl
            have hn:n=0:=by omega
            subst hn
            have:((cs.drop off).take (0*esz)).map (snap σ.H d)=[]:=by simp
            rw [this];exact .sl0 _ _
          | some b =>
            obtain ⟨p1,p2,p3,us,T,fz,t1,t2,t3,t4,t5⟩:=r3
            by_cases hc0:c=0
            · have hn:n=0:=by omega
              subst hn
              have:((cs.drop off).take (0*esz)).map (snap σ.H d)=[]:=by simp
              rw [this];exact .sl0 _ _
            · rw [q4 b rfl (by omega)]
              refine .sl b off n c us T fz _ ⟨key,_,hk,by simp [blkOf,q1]⟩ t1 (by omega) q3 fun j u x hu hx=>?_
              obtain ⟨x0,hx0,rfl⟩:=maps _ j x hx
              rw [List.getElem?_take] at hx0
              split at hx0
              · rw [List.getElem?_drop] at hx0
                exact ih (t5 _ u x0 hu hx0) (List.all_eq_true.1 hf _ (List.mem_of_getElem? hx0))
              · cases hx0
    | mp key gen off =>
      obtain ⟨b,cap,hb,rfl⟩:=h.mp_inv
      simp only [snap,frs] at hf ⊢
      cases hk:σ.H key with
      | none=>simp [hk] at hf
      | some o =>
        cases o with
        | map es=>simp [hk] at hf
        | it _=>simp [hk] at hf
        | row g' esz cs =>
          simp only [hk,Bool.and_eq_true,beq_iff_eq] at hf
          obtain ⟨rfl,hf⟩:=hf
          simp only [if_true]
          obtain ⟨blk',cap',r1,r2,r3⟩:=hs.obj key _ hk
          rw [hb] at r1;cases r1
          obtain ⟨p1,p2,p3,us,T,fz,t1,t2,t3,t4,t5⟩:=r3
          have:=RepI.ip (imm:=ownI g σ.H) (w:=w) b 0 off us T fz (cs.map (snap σ.H d)) ⟨key,_,hk,by simp [blkOf,hb]⟩ t1 (by simp;omega) (fun j u x hu hx=>by
            obtain ⟨x0,hx0,rfl⟩:=maps _ j x hx
            exact ih (t5 j u x0 (by simpa using hu) hx0) (List.all_eq_true.1 hf _ (List.mem_of_getElem? hx0)))
          simpa using this
    | agg cs =>
      obtain ⟨vs,rfl,hl,hr⟩:=h.agg_inv
      exact .agg vs _ (by simpa using hl) fun j v c hv hc=>by
        obtain ⟨c0,h0,rfl⟩:=maps _ j c hc
        exact ih (hr j v c0 hv h0) (List.all_eq_true.1 hf _ (List.mem_of_getElem? h0))
    | tup cs =>
      obtain ⟨vs,rfl,hl,hr⟩:=h.tup_inv
      exact .tup vs _ (by simpa using hl) fun j v c hv hc=>by
        obtain ⟨c0,h0,rfl⟩:=maps _ j c hc
        exact ih (hr j v c0 hv h0) (List.all_eq_true.1 hf _ (List.mem_of_getElem? h0))
    | ifc t x =>
      obtain ⟨u,rfl,hu⟩:=h.ifc_inv
      exact .ifc t u _ (ih hu hf)
    | sl=>cases hf
    | msv=>cases hf
    | qsl=>cases hf
    | ip=>cases hf
    | fn=>cases hf
    | mm=>cases hf
    | im=>cases hf
    | _=>cases h with|imm _ _ h=>exact flat_rep 1 h rfl
theorem SimG.put (hs:SimG E g σ a w) {d:Option Nat} (hd:∀ t,d=some t→t<E.N) {u:Value} {v:V} (h:Rep g w u v):SimG E g (σ.put d v) (a.put d u) w:=by
  cases d with
  | none=>exact hs
  | some d =>
    have hlt:=hd d rfl
    refine ⟨hs.below,hs.sizeB,by simpa [Act.put] using hs.size,hs.defers,fun t=>?_,hs.immlt,hs.imm0,hs.immB,hs.obj,hs.apart,hs.fresh,hs.ref0⟩
    have hN:=hs.size.2
    simp only [Act.put,St.put,dput,tupd]
    by_cases e:t=d
    · subst e
      have:t<a.tmps.size:=by rw [hs.size.1];exact hlt
      rw [slotV_lo (by omega)]
      simp [this,h]
    · rw [if_neg e]
      have:=hs.tm t
      by_cases hb:t<HB
      · rw [slotV_lo hb] at this ⊢
        simpa [Array.getElem?_setIfInBounds_ne (Ne.symm e)] using this
      · unfold slotV at this ⊢
        rw [if_neg hb] at this ⊢
        exact this
theorem step_wp (hs:SimG E g σ a w) (o:Oper) (s:Nat) (hd:∀ t,o.dst=some t→t<E.N) {K:St→Prop} {next:Act→World→Prop} {Q:Exit→Act→World→Prop}
    (h:vres P σ s o.dst K (lop (tr P o) σ.tm σ.H)) (hn:∀ σ' a' w',K σ'→Sim E σ' a' w'→next a' w'):o.wp P a w next Q:=by
  have hok:=step_sound (P:=P) hs o s
  unfold Oper.wp
  generalize lop (tr P o) σ.tm σ.H=r at h hok
  cases r with
  | A pre v =>
    obtain ⟨u,w',g',hr,hs',hrep⟩:=hok h.1
    rw [hr]
    exact hn _ _ _ h.2 ⟨g',hs'.put hd hrep⟩
  | C pre ob mk =>
    obtain ⟨u,w',g',hr,hs',hrep⟩:=hok h.1
    rw [hr]
    exact hn _ _ _ h.2 ⟨g',hs'.put hd hrep⟩
  | D pre v H' =>
    obtain ⟨n,w',g',hr,hv,hs'⟩:=hok h.1
    rw [hr]
    rcases hv with ⟨rfl,rfl⟩|⟨u,rfl,hu⟩
    · exact hn _ _ _ h.2 ⟨g',hs'.put hd (.junk _ _ undef)⟩
    · exact hn _ _ _ h.2 ⟨g',hs'.put hd hu⟩
  | call pre f args sargs =>
    obtain ⟨hpre,r,⟨hen,hcall⟩,hfl,hk⟩:=h
    obtain ⟨vs,hr,hl,hrep,hsa,hso⟩:=hok hen
    rw [hr]
    simp only [Oper.upon]
    rcases hfl with (hfl|hfl)|hfl
    · have hfix:∀ (j:Nat) (c:V),args[j]? = some c→snap σ.H 8 c=c:=by
        intro j c hj
        have:=congrArg (fun l=>l[j]?) (hfl.trans hsa)
        simp only [List.getElem?_map,hj,Option.map_some,Option.some.injEq] at this
        exact this.symm
      refine (hcall g.imm w vs ⟨hs.immlt,EOk.gok hs⟩ (by rw [hl,hfl]) (fun j u c hu hc=>snap_fix 8 (hrep j u c hu (by rw [hfl];exact hc)) (hfix j c (by rw [hfl];exact hc)))).mono ?_
      rintro e w' ⟨v,imm',rfl,hv,hb,h1,h2⟩
      exact hn _ _ _ hk ⟨⟨imm',g.ref⟩,(hs.grow hb h1 h2).put hd (.imm _ _ hv)⟩
    · refine (hcall (allImm g σ.H) w vs ⟨allImm_lt hs,EOk.gok hs⟩ (by rw [hl,hsa];simp) (fun j u c hu hc=>?_)).mono ?_
      · rw [hsa,List.getElem?_map,Option.map_eq_some_iff] at hc
        obtain ⟨c0,h0,rfl⟩:=hc
        exact snap_rep hs 8 (hrep j u c0 hu h0)
      · rintro e w' ⟨v,imm',rfl,hv,hb,h1,h2⟩
        exact hn _ _ _ hk ⟨g,(hs.grow_same hb).put hd (.imm _ _ (flat_rep 4 hv hfl))⟩
    · refine (hfl.2 (allImm g σ.H) w vs ⟨allImm_lt hs,EOk.gok hs⟩ (by rw [hl,hsa];simp) (fun j u c hu hc=>?_)).mono ?_
      · rw [hsa,List.getElem?_map,Option.map_eq_some_iff] at hc
        obtain ⟨c0,h0,rfl⟩:=hc
        exact snap_rep hs 8 (hrep j u c0 hu h0)
      · rintro e w' ⟨v,imm',rfl,hv,hb,h1⟩
        exact hn _ _ _ hk ⟨⟨fun b=>g.imm b∨imm' b,g.ref⟩,(hs.grow hb (fun b h=>.inl h) (fun b h=>h.imp id (h1 b))).put hd (.imm _ _ (hv.mono (fun b h=>.inr h) (fun _ _=>rfl)))⟩
  | bad=>exact h.elim
end
end Go.Lg

namespace Go.Lg
open Go Go.RowKit
def OwnBlk (w w':World) (imm':Nat→Prop) (esz c:Nat) (cs:List V):Option Nat→Prop
  | none=>cs=[]∧c=0
  | some b=>w.heap.size≤b∧b<w'.heap.size∧¬ imm' b∧∃ (us:Array Value) (T:TypeId) (fz:Nat × Nat),w'.heap[b]? = some (.cells us T fz)∧NoFz us.size fz ∧
      cs.length≤us.size∧c*esz≤us.size∧∀ (j:Nat) (u:Value) (x:V),us[j]? = some u→cs[j]? = some x→RepI imm' w' u x
def PRetM (P:Program) (f:FuncId) (args:List V) (esz n:Nat) (cs:List V):Prop :=
  entersOk P f=true∧cs.length=n*esz∧∀ (imm:Nat→Prop) (w:World) (vs:Array Value),Imm0 P imm w→vs.size=args.length →
    (∀ (j:Nat) (u:Value) (c:V),vs[j]? = some u→args[j]? = some c→RepI imm w u c) →
    Calls P f vs w fun e w'=>∃ A c blk imm',e = .returned (.slice A n c)∧BelowD w.heap.size w w'∧(∀ b,imm b→imm' b)∧(∀ b,imm' b→imm b∨(w.heap.size≤b∧b<w'.heap.size))∧n≤c ∧
      (∀ b,blk=some b→0<c→A=some ⟨b,0,none⟩) ∧
      OwnBlk w w' imm' esz c cs blk
section
variable {P:Program} {g:Gh} {w w':World} {E:Env} [EOk P E] {σ:St} {a:Act}
theorem SimG.newObj2 (hs:SimG E g σ a w) (s:Nat) {esz cap:Nat} {cs:List V} {blk:Option Nat}
    (hnew:match blk with
      | none=>cs=[]∧cap=0
      | some b=>E.B≤b∧b<w.heap.size∧¬ g.imm b∧(∀ k o,σ.H k=some o→blkOf g k o≠some b)∧BlkOk g w esz cap cs b) :
    SimG E (g.set (s,σ.cnt s) 0 (blk,cap)) ⟨σ.tm,hupd σ.H (s,σ.cnt s) (.row 0 esz cs),cupd σ.cnt s⟩ a w:=by
  have hfr:=(hs.fresh s (σ.cnt s) (Nat.le_refl _)).2
  have href:∀ k n r,g.ref k n=some r→(g.set (s,σ.cnt s) 0 (blk,cap)).ref k n=some r:=by
    intro k n r h
    rw [Gh.set_ne]
    · exact h
    · rintro ⟨rfl,rfl⟩;rw [hfr] at h;cases h
  have hrep:∀ v x,Rep g w v x→Rep (g.set (s,σ.cnt s) 0 (blk,cap)) w v x:=fun v x h=>h.mono (fun _ h=>h) (fun b hm=>rfl) href
  refine hs.newAny s (.refl _ _ _) (fun _ _=>rfl) ⟨blk,cap,Gh.set_same _ _ _ _,fun m hm=>?_,?_⟩ (fun b hbk k o hk=>?_)
  · rw [Gh.set_ne]
    · exact hfr m
    · rintro ⟨_,rfl⟩;omega
  · cases blk with
    | none=>exact hnew
    | some b=>exact ⟨.inl hnew.1,hnew.2.1,hnew.2.2.1,BlkOk.mono hnew.2.2.2.2 rfl hrep⟩
  · simp only [blkOf,Gh.set_same,Option.bind_some] at hbk
    subst hbk
    exact hnew.2.2.2.1 k o hk
theorem obj_lt (hs:SimG E g σ a w) {k:Key} {o:LObj} {b:Nat} (hk:σ.H k=some o) (hb:blkOf g k o=some b):b<w.heap.size:=by
  exact ((hs.obj k o hk).blk hb).1
def ownV (P:Program) (s:Nat) (f:FuncId) (args sargs:List V) (d:Option Nat) (K:St→Prop) (σ:St):Prop :=
  ∃ esz n cs,PRetM P f sargs esz n cs∧(args=sargs∨cs.all (flat 4)=true) ∧
    K (St.put ⟨σ.tm,hupd σ.H (s,σ.cnt s) (.row 0 esz cs),cupd σ.cnt s⟩ d (.msl (s,σ.cnt s) 0 0 n))
theorem step_own (hs:SimG E g σ a w) (o:Oper) (s:Nat) (hd:∀ t,o.dst=some t→t<E.N) {K:St→Prop} {next:Act→World→Prop} {Q:Exit→Act→World→Prop}
    {pre:Prop} {f:FuncId} {args sargs:List V} (hl:lop (tr P o) σ.tm σ.H = .call pre f args sargs) (hpre:pre) (h:ownV P s f args sargs o.dst K σ)
    (hn:∀ σ' a' w',K σ'→Sim E σ' a' w'→next a' w'):o.wp P a w next Q:=by
  have hok:=step_sound (P:=P) hs o s
  unfold Oper.wp
  rw [hl] at hok
  obtain ⟨esz,n,cs,⟨hen,hcl,hcall⟩,hfl,hk⟩:=h
  obtain ⟨vs,hr,hlen,hrep,hsa,hso⟩:=hok hen
  rw [hr]
  simp only [Oper.upon]
  have fin:∀ (imm':Nat→Prop) (w':World) A c blk,BelowD w.heap.size w w'→(∀ b,g.imm b→imm' b)→(∀ b,imm' b→g.imm b∨(w.heap.size≤b∧b<w'.heap.size))→n≤c →
      (∀ b,blk=some b→0<c→A=some ⟨b,0,none⟩)→OwnBlk w w' imm' esz c cs blk→next (a.put o.dst (.slice A n c)) w':=by
    intro imm' w' A c blk hb h1 h2 hnc hA hblk
    have hs1:=hs.grow hb h1 h2
    have hs2:=hs1.newObj2 s (esz:=esz) (cap:=c) (cs:=cs) (blk:=blk) (by
      cases blk with
      | none=>exact hblk
      | some b =>
        obtain ⟨q1,q2,q3,us,T,fz,q4,q5,q6,q7,q8⟩:=hblk
        refine ⟨Nat.le_trans hs.sizeB q1,q2,q3,fun k o hk hbk=>?_,us,T,fz,q4,q5,q6,q7,fun j u x hu hx=>.imm _ _ (q8 j u x hu hx)⟩
        have:=obj_lt hs hk hbk
        omega)
    refine hn _ _ _ hk ⟨_,hs2.put hd ?_⟩
    exact .msl _ _ _ _ c A blk c (Gh.set_same _ _ _ _) (fun _=>rfl) hnc hA (fun e=>by subst e;exact hblk.2)
  rcases hfl with hfl|hfl
  · have hfix:∀ (j:Nat) (c:V),args[j]? = some c→snap σ.H 8 c=c:=by
      intro j c hj
      have:=congrArg (fun l=>l[j]?) (hfl.trans hsa)
      simp only [List.getElem?_map,hj,Option.map_some,Option.some.injEq] at this
      exact this.symm
    refine (hcall g.imm w vs ⟨hs.immlt,EOk.gok hs⟩ (by rw [hlen,hfl]) (fun j u c hu hc=>snap_fix 8 (hrep j u c hu (by rw [hfl];exact hc)) (hfix j c (by rw [hfl];exact hc)))).mono ?_
    rintro e w' ⟨A,c,blk,imm',rfl,hb,h1,h2,hnc,hA,hblk⟩
    exact fin imm' w' A c blk hb h1 h2 hnc hA hblk
  · refine (hcall (allImm g σ.H) w vs ⟨allImm_lt hs,EOk.gok hs⟩ (by rw [hlen,hsa];simp) (fun j u c hu hc=>?_)).mono ?_
    · rw [hsa,List.getElem?_map,Option.map_eq_some_iff] at hc
      obtain ⟨c0,h0,rfl⟩:=hc
      exact snap_rep hs 8 (hrep j u c0 hu h0)
    · rintro e w' ⟨A,c,blk,imm',rfl,hb,h1,h2,hnc,hA,hblk⟩
      refine fin g.imm w' A c blk hb (fun _ h=>h) (fun _ h=>.inl h) hnc hA ?_
      cases blk with
      | none=>exact hblk
      | some b =>
        obtain ⟨q1,q2,q3,us,T,fz,q4,q5,q6,q7,q8⟩:=hblk
        refine ⟨q1,q2,fun hm=>?_,us,T,fz,q4,q5,q6,q7,fun j u x hu hx=>flat_rep 4 (q8 j u x hu hx) (List.all_eq_true.1 hfl x (List.mem_of_getElem? hx))⟩
        have:=hs.immlt b hm;omega
def BlkI (imm:Nat→Prop) (w:World) (esz c:Nat) (cs:List V) (b:Nat):Prop :=
  ∃ (us:Array Value) (T:TypeId) (fz:Nat × Nat),w.heap[b]? = some (.cells us T fz)∧NoFz us.size fz ∧
    cs.length≤us.size∧c*esz≤us.size∧∀ (j:Nat) (u:Value) (x:V),us[j]? = some u→cs[j]? = some x→RepI imm w u x
def PMut (P:Program) (f:FuncId) (ext:List V) (esz n:Nat) (cs:List V) (ret:Option Nat) (cs':List V):Prop :=
  entersOk P f=true∧∀ (imm:Nat→Prop) (w:World) (vs:Array Value) (A:Option Addr) (c:Nat) (blk:Option Nat),Imm0 P imm w→vs.size=ext.length →
    (∀ (j:Nat) (u:Value) (x:V),vs[j]? = some u→ext[j]? = some x→RepI imm w u x)→n≤c→(∀ b,blk=some b→0<c→A=some ⟨b,0,none⟩) →
    (match blk with
      | none=>cs=[]∧c=0
      | some b=>¬ imm b∧b<w.heap.size∧BlkI imm w esz c cs b)→(∀ p∈glOf P,blk≠some p.1) →
    Calls P f (#[.slice A n c]++vs) w fun e w'=>∃ v,e = .returned v∧(∀ m,ret=some m→m≤n∧v = .slice A m c)∧BelowF w.heap.size (fun b=>blk=some b) w w' ∧
      (match blk with
        | none=>cs' = []
        | some b=>BlkI imm w' esz c cs' b)
def rmut (key:Key) (g:Nat):Option Nat→V
  | some m=>.msl key g 0 m
  | none=>.junk
def mutV (P:Program) (f:FuncId) (args:List V) (d:Option Nat) (K:St→Prop) (σ:St):Prop :=
  ∃ key g n ext esz cs ret cs',args = .msl key g 0 n::ext∧σ.H key=some (.row g esz cs)∧cs.map (snap σ.H 8)=cs∧ext.map (snap σ.H 8)=ext∧PMut P f ext esz n cs ret cs' ∧
    K (St.put ⟨σ.tm,hupd σ.H key (.row g esz cs'),σ.cnt⟩ d (rmut key g ret))
theorem step_mut (hs:SimG E g σ a w) (o:Oper) (s:Nat) (hd:∀ t,o.dst=some t→t<E.N) {K:St→Prop} {next:Act→World→Prop} {Q:Exit→Act→World→Prop}
    {pre:Prop} {f:FuncId} {args sargs:List V} (hl:lop (tr P o) σ.tm σ.H = .call pre f args sargs) (hpre:pre) (h:mutV P f args o.dst K σ)
    (hn:∀ σ' a' w',K σ'→Sim E σ' a' w'→next a' w'):o.wp P a w next Q:=by
  have hok:=step_sound (P:=P) hs o s
  unfold Oper.wp
  rw [hl] at hok
  obtain ⟨key,gen,n,ext,esz,cs,ret,cs',rfl,hk,hfc,hfe,⟨hen,hcall⟩,hK⟩:=h
  obtain ⟨vs,hr,hlen,hrep,hsa,hso⟩:=hok hen
  rw [hr]
  simp only [Oper.upon]
  have fix:∀ (l:List V),l.map (snap σ.H 8)=l→∀ (j:Nat) (c:V),l[j]? = some c→snap σ.H 8 c=c:=by
    intro l hl j c hj
    have:=congrArg (fun l=>l[j]?) hl
    simp only [List.getElem?_map,hj,Option.map_some,Option.some.injEq] at this
    exact this
  simp only [List.length_cons] at hlen
  have h0:vs[0]? = some vs[0]:=Array.getElem?_eq_getElem (by omega)
  have hr0:=hrep 0 _ _ h0 rfl
  obtain ⟨c,A,blk,cap,hv0,q1,q2,q3,q4,q5⟩:=hr0.msl_inv
  obtain rfl:=q2 rfl
  obtain ⟨blk',cap',r1,r2,r3⟩:=hs.obj key _ hk
  rw [q1] at r1;cases r1
  have hvs:vs = #[.slice A n c]++vs.extract 1 vs.size:=by
    apply Array.ext_getElem?
    intro j
    rw [Array.getElem?_append]
    cases j with
    | zero=>simp only [List.size_toArray,List.length_singleton];rw [if_pos (by omega),h0,hv0];rfl
    | succ j =>
      simp only [List.size_toArray,List.length_singleton]
      rw [if_neg (by omega),Array.getElem?_extract]
      split
      · rw [Nat.add_sub_cancel,Nat.add_comm]
      · rw [Array.getElem?_eq_none (by omega)]
  rw [hvs]
  refine (hcall g.imm w _ A c blk ⟨hs.immlt,EOk.gok hs⟩ (by simp;omega) (fun j u x hu hx=>?_) q3 q4 ?_ ?_).mono ?_
  · have hu':vs[j+1]? = some u:=by
      rw [Array.getElem?_extract] at hu
      split at hu
      · rw [Nat.add_comm];exact hu
      · cases hu
    exact snap_fix 8 (hrep (j+1) u x hu' (by simpa using hx)) (fix ext hfe j x hx)
  · cases blk with
    | none=>exact r3
    | some b =>
      obtain ⟨p1,p2,p3,us,T,fz,t1,t2,t3,t4,t5⟩:=r3
      exact ⟨p3,p2,us,T,fz,t1,t2,t3,t4,fun j u x hu hx=>snap_fix 8 (t5 j u x hu hx) (fix cs hfc j x hx)⟩
  · intro p hp e
    obtain ⟨h1,h2,_⟩:=(inferInstance:EOk P E).ok p hp
    subst e
    rcases r3.1 with h|h
    · omega
    · exact h2 h.2
  · rintro e w' ⟨v,rfl,hv,hb,hblk⟩
    have hown:∀ k,k<E.B→¬ E.F k→blk≠some k:=by
      rintro k h1 h2 rfl
      rcases r3.1 with h|h
      · omega
      · exact h2 h.2
    have hbe:BelowF E.B E.F w w':=⟨hb.os,hb.tape,hb.output,hb.size,fun k h1 h2=>hb.block k (Nat.lt_of_lt_of_le h1 hs.sizeB) (hown k h1 h2),hb.drawn⟩
    have hbk:blkOf g key (.row gen esz cs)=blk:=by simp [blkOf,q1]
    have hs2:=hs.setObj hk (gen':=gen) (esz':=esz) (cap':=c) (cs':=cs') (blk':=blk) (Nat.le_refl _) (fun _=>q1) hbe
      (fun k h1 h2=>hb.block k h1 (by rw [hbk] at h2;exact h2)) (by
        cases blk with
        | none=>exact ⟨hblk,r3.2⟩
        | some b =>
          obtain ⟨us,T,fz,t1,t2,t3,t4,t5⟩:=hblk
          refine ⟨.inl hbk,Nat.lt_of_lt_of_le r3.2.1 hb.size,us,T,fz,t1,t2,t3,t4,fun j u x hu hx=>.imm _ _ (t5 j u x hu hx)⟩)
    refine hn _ _ _ hK ⟨_,hs2.put hd ?_⟩
    cases ret with
    | none=>exact .junk _ _ _
    | some m =>
      obtain ⟨h1,rfl⟩:=hv m rfl
      exact .msl _ _ _ _ c A blk c (Gh.set_same _ _ _ _) (fun _=>rfl) (by omega) q4 q5
def PSt (P:Program) (f:FuncId) (args:List V) (σ:St) (R:V→St→Prop):Prop :=
  entersOk P f=true∧∀ (E:Env),EOk P E→∀ (g:Gh) (a:Act) (w:World) (vs:Array Value),SimG E g σ a w→vs.size=args.length →
    (∀ (j:Nat) (u:Value) (c:V),vs[j]? = some u→args[j]? = some c→Rep g w u c) →
    Calls P f vs w fun e w'=>∃ u v σ' g',e = .returned u∧SimG E g' σ' a w'∧Rep g' w' u v∧R v σ'
def instV (P:Program) (f:FuncId) (args:List V) (d:Option Nat) (K:St→Prop) (σ:St):Prop :=
  ∃ R,PSt P f args σ R∧∀ v σ',R v σ'→K (σ'.put d v)
theorem step_inst (hs:SimG E g σ a w) (o:Oper) (s:Nat) (hd:∀ t,o.dst=some t→t<E.N) {K:St→Prop} {next:Act→World→Prop} {Q:Exit→Act→World→Prop}
    {pre:Prop} {f:FuncId} {args sargs:List V} (hl:lop (tr P o) σ.tm σ.H = .call pre f args sargs) (h:instV P f args o.dst K σ)
    (hn:∀ σ' a' w',K σ'→Sim E σ' a' w'→next a' w'):o.wp P a w next Q:=by
  have hok:=step_sound (P:=P) hs o s
  unfold Oper.wp
  rw [hl] at hok
  obtain ⟨R,⟨hen,hcall⟩,hK⟩:=h
  obtain ⟨vs,hr,hlen,hrep,hsa,hso⟩:=hok hen
  rw [hr]
  simp only [Oper.upon]
  refine (hcall E inferInstance g a w vs hs hlen hrep).mono ?_
  rintro e w' ⟨u,v,σ',g',rfl,hs',hrep',hR⟩
  exact hn _ _ _ (hK v σ' hR) ⟨g',hs'.put hd hrep'⟩
end
section
variable {P:Program} {g:Gh} {w w':World} {E:Env} {σ:St} {a:Act}
theorem fillL_length {tm:Nat→V}:∀ (ps:List (Nat × Nat × Rd)) (cs:List V) (n:Nat),cs.length=n→partsOk tm n ps→(fillL tm cs ps).length=n
  | [],_,_,h,_=>h
  | (off,s,x)::r,cs,n,h,hp=>by
    obtain ⟨⟨_,h2,h3⟩,hp⟩:=hp
    exact fillL_length r _ n (by rw [setCells_length (by omega)];exact h) hp
theorem bslo_ok (hs:SimG E g σ a w) {site:Nat} {t e:TypeId} {n s:Nat} {z:V} {parts:Array (Nat × Operand)} (ht:P.underlying t=some (.slice e)) (hsz:szT P e=some s) (hs0:s≠0) (hz:zeroT P e=some z) (hzl:z.cells.length=s)
    (hn:¬ n*s > 2 ^ 24) (h0:n≠0) :
    LRes.ok P E g σ a w site (do pure (.value (← Instr.buildSlice t n (parts.map fun (i,x)=>(i,a.eval x)))))
      (.C (partsOk σ.tm ((List.replicate n z.cells).flatten).length (parts.toList.map fun (i,x)=>(i*s,s,rdOf x))) (.row 0 s (fillL σ.tm ((List.replicate n z.cells).flatten) (parts.toList.map fun (i,x)=>(i*s,s,rdOf x)))) fun k=>.msl k 0 0 n):=by
  obtain ⟨zv,hzv,rfl⟩:=zeroT_run (w:=w) hz
  have htl:(parts.map fun (i,x)=>(i,a.eval x)).toList=parts.toList.map fun (i,x)=>(i,a.eval x):=by simp
  obtain ⟨q1,q2,q3⟩:=zeros_rep (g:=g) (w:=w) (n:=n) hzl hs0 rfl (m:=n) (Nat.le_refl _)
  obtain ⟨m1,m2⟩:=trParts_map (s:=s) parts _ rfl
  have run:∀ us',Instr.fill (fun i=>some (i*s,s)) ((Array.range (n*s)).map (fun i=>zv.cells[i % zv.cells.size]!)) (parts.toList.map fun (i,x)=>(i,a.eval x))=some us'→n≠0 →
      (Instr.buildSlice t n (parts.map fun (i,x)=>(i,a.eval x))).run P w = .ok (.slice (some ⟨w.heap.size,0,none⟩) n n) (w.alloc (.cells us' e)):=by
    intro us' hf hn0
    have hne:¬ (n*s=0):=by
      intro h
      rcases Nat.mul_eq_zero.1 h with h|h
      · exact hn0 h
      · exact hs0 h
    have hn':¬ (16777216<n*s):=by omega
    simp only [Instr.buildSlice]
    simp [run_underlying ht,szT_run hsz,hn',hne,hn0,hs0,hzv,htl,hf,newRow]
  intro hok
  obtain ⟨us',f1,f2,f3⟩:=fill_ok (g:=g) (w:=w) (place:=fun i=>some (i*s,s)) hs.tm parts.toList _ _ _ m1 m2 (by rw [q1,q2]) q3 hok
  have hl:=(zeros_rep (g:=g) (w:=w) (n:=n) hzl hs0 rfl (m:=n) (Nat.le_refl _))
  refine ⟨_,_,_,run_val (run us' f1 h0),newRow_obj hs site (cap:=n) e (Nat.le_of_eq f2.symm) ?_ f3,?_⟩
  · rw [f2,fillL_length _ _ _ rfl hok,q2];exact Nat.le_refl _
  · exact .msl _ _ _ _ n (some ⟨w.heap.size,0,none⟩) (some w.heap.size) n (Gh.set_same _ _ _ _) (fun _=>rfl) (Nat.le_refl _) (fun b e _=>by cases e;rfl) (fun e=>by cases e)
theorem litR_trE (P:Program) (ops:Array Oper) (o:Oper) (tm:Nat→V):litR (trE P ops o) tm=litR (tr P o) tm∨litR (trE P ops o) tm = .bad:=by
  unfold trE
  cases tr P o with
  | app e b x y =>
    simp only []
    split<;>exact .inl rfl
  | bsl n zs ps =>
    simp only []
    split
    · exact .inr rfl
    · exact .inl rfl
  | _=>exact .inl rfl
def isBsl:IOp→Bool
  | .bsl ..=>true
  | _=>false
theorem isBsl_orBad {x:Option IOp} (h:isBsl (orBad x)=true):∃ i,x=some i∧isBsl i=true:=by
  cases x with
  | none=>cases h
  | some i=>exact ⟨i,rfl,h⟩
theorem tr_bsl {o:Oper} (h:isBsl (tr P o)=true):∃ t m parts,o.op = .buildSlice t m parts:=by
  obtain ⟨dst,op,ty,pos,after,guard⟩:=o
  cases op with
  | buildSlice t m parts=>exact ⟨t,m,parts,rfl⟩
  | _ =>
    exfalso
    simp only [tr,trCall] at h
    repeat' split at h
    all_goals first
      | (cases h;done)
      | contradiction
      | (obtain ⟨i,h1,h2⟩:=isBsl_orBad h
         simp only [Option.bind_eq_bind,Option.bind_eq_some_iff,Option.map_eq_some_iff] at h1
         (repeat' (first|(obtain ⟨_,_,h1⟩:=h1)|(split at h1)))
         all_goals first|(cases h2;done)|(cases h1;cases h2;done)|(subst h1;cases h2;done)|(cases h1;done)|(simp_all [isBsl];done))
      | (simp_all [isBsl];done)
theorem step_lit (hs:SimG E g σ a w) (o:Oper) (s:Nat):LRes.ok P E g σ a w s (execOp a.eval o) (litR (tr P o) σ.tm):=by
  by_cases hb:isBsl (tr P o)=true
  · obtain ⟨t,n,parts,he⟩:=tr_bsl hb
    obtain ⟨dst,op,ty,pos,after,guard⟩:=o
    simp only [] at he
    subst he
    simp only [tr] at hb ⊢
    cases ht:P.underlying t with
    | none=>trivial
    | some d =>
      cases d with
      | slice e =>
        simp only [ht] at hb ⊢
        obtain ⟨i,h1,h2⟩:=isBsl_orBad hb
        rw [h1]
        simp only [Option.bind_eq_bind,Option.bind_eq_some_iff] at h1
        obtain ⟨s',hs',z,hz,h1⟩:=h1
        split at h1
        · cases h1
        · rename_i hc
          cases h1
          simp only [Bool.or_eq_true,not_or,decide_eq_true_eq,bne_iff_ne,ne_eq,Decidable.not_not,beq_iff_eq,Bool.and_eq_true,not_and] at hc
          obtain ⟨⟨⟨c1,c2⟩,c3⟩,c4⟩:=hc
          show LRes.ok P E g σ a w s _ (litR (.bsl _ _ _) σ.tm)
          simp only [litR]
          split
          · trivial
          · rename_i h0
            have hl:(List.replicate n z.cells).flatten.length / n=s':=by
              rw [List.length_flatten]
              simp only [List.map_replicate,List.sum_replicate_nat,c2]
              exact Nat.mul_div_cancel_left _ (by omega)
            rw [hl]
            exact bslo_ok hs ht hs' c3 hz c2 c1 h0
      | _=>simp only [ht] at hb;cases hb
  · cases hR:tr P o with
    | bsl=>rw [hR] at hb;exact absurd rfl hb
    | _=>trivial
theorem step_wplit (hs:SimG E g σ a w) (o:Oper) (s:Nat) (hd:∀ t,o.dst=some t→t<E.N) {K:St→Prop} {next:Act→World→Prop} {Q:Exit→Act→World→Prop}
    (h:vres P σ s o.dst K (litR (tr P o) σ.tm)) (hn:∀ σ' a' w',K σ'→Sim E σ' a' w'→next a' w'):o.wp P a w next Q:=by
  have hok:=step_lit (P:=P) hs o s
  unfold Oper.wp
  generalize hR:litR (tr P o) σ.tm=r at h hok
  cases r with
  | C pre ob mk =>
    obtain ⟨u,w',g',hr,hs',hrep⟩:=hok h.1
    rw [hr]
    exact hn _ _ _ h.2 ⟨g',hs'.put hd hrep⟩
  | bad=>exact h.elim
  | _ =>
    exfalso
    unfold litR at hR
    repeat' split at hR
    all_goals cases hR
def isApp:IOp→Bool
  | .app ..=>true
  | _=>false
theorem isApp_orBad {x:Option IOp} (h:isApp (orBad x)=true):∃ i,x=some i∧isApp i=true:=by
  cases x with
  | none=>cases h
  | some i=>exact ⟨i,rfl,h⟩
theorem tr_app {o:Oper} (h:isApp (tr P o)=true):∃ c,o.op = .call c∧c.callee = .builtin .append:=by
  obtain ⟨dst,op,ty,pos,after,guard⟩:=o
  cases op with
  | call c =>
    refine ⟨c,rfl,?_⟩
    simp only [tr,trCall] at h
    split at h
    case h_4 hc=>exact hc
    all_goals
      exfalso
      repeat' split at h
      all_goals first|(cases h;done)|contradiction
  | _ =>
    exfalso
    simp only [tr,trCall] at h
    repeat' split at h
    all_goals first
      | (cases h;done)
      | contradiction
      | (obtain ⟨i,h1,h2⟩:=isApp_orBad h
         simp only [Option.bind_eq_bind,Option.bind_eq_some_iff,Option.map_eq_some_iff] at h1
         (repeat' (first|(obtain ⟨_,_,h1⟩:=h1)|(split at h1)))
         all_goals first|(cases h2;done)|(cases h1;cases h2;done)|(subst h1;cases h2;done)|(cases h1;done)|(simp_all [isApp];done))
      | (simp_all [isApp];done)
def appK (o:LOp) (K:St→Prop) (σ:St):Prop :=
  ∃ (esz by_:Nat) (x y:Rd) (key:Key) (gen q n m:Nat) (cs ys:List V),o.op = .app esz by_ x y∧x.get σ.tm = .qsl key gen esz q n∧σ.H key=some (.row gen esz cs)∧cs.length=q*esz+n*esz∧srcOf σ.H esz (y.get σ.tm)=some (m,ys) ∧
    (n+m)*by_≤140737488355328∧n+m≤4611686018427387904∧ys.all V.one=true ∧
    K (St.put ⟨σ.tm,hupd σ.H key (.row (gen+1) esz (cs++ys)),σ.cnt⟩ o.dst (.qsl key (gen+1) esz q (n+m))) ∧
    K (St.put ⟨σ.tm,hupd σ.H key (.row (gen+1) esz (cs.drop (q*esz)++ys)),σ.cnt⟩ o.dst (.qsl key (gen+1) esz 0 (n+m)))
theorem step_app (hs:SimG E g σ a w) (o:Oper) (hd:∀ t,o.dst=some t→t<E.N) {K:St→Prop} {next:Act→World→Prop} {Q:Exit→Act→World→Prop}
    (h:appK ⟨o.dst,tr P o,none⟩ K σ) (hn:∀ σ' a' w',K σ'→Sim E σ' a' w'→next a' w'):o.wp P a w next Q:=by
  obtain ⟨esz,by_,x,y,key,gen,q,n,m,cs,ys,htr,hx,hk,hcl,hsrc,h1,h2,h3,k1,k2⟩:=h
  simp only at htr
  obtain ⟨c,hop,hcal⟩:=tr_app (P:=P) (o:=o) (by rw [htr];rfl)
  obtain ⟨dst,op,ty,pos,after,guard⟩:=o
  simp only at hop
  subst hop
  obtain ⟨callee,args,argTypes⟩:=c
  simp only at hcal
  subst hcal
  have hok:∃ u w',(execOp a.eval ⟨dst,.call ⟨.builtin .append,args,argTypes⟩,ty,pos,after,guard⟩).run P w = .ok (.value u) w' ∧
      ((∃ g',SimG E g' ⟨σ.tm,hupd σ.H key (.row (gen+1) esz (cs++ys)),σ.cnt⟩ a w'∧Rep g' w' u (.qsl key (gen+1) esz q (n+m))) ∨
       (∃ g',SimG E g' ⟨σ.tm,hupd σ.H key (.row (gen+1) esz (cs.drop (q*esz)++ys)),σ.cnt⟩ a w'∧Rep g' w' u (.qsl key (gen+1) esz 0 (n+m)))):=by
    have hq:execOp a.eval ⟨dst,.call ⟨.builtin .append,args,argTypes⟩,ty,pos,after,guard⟩=(do pure (.value (← Builtin.append_ argTypes ty (args.map a.eval)))):=rfl
    rw [hq]
    have main:∀ (x' y':Operand) (e:TypeId) (d2:TypeDesc),args.toList=[x',y']→(argTypes[0]?).bind P.underlying=some (.slice e)→(argTypes[1]?).bind P.underlying=some d2→((∃ e',d2 = .slice e')∨d2 = .string) →
        (orBad do
            let s ← szT P e
            let b ← bytesT P e
            let z ← zeroT P e
            if s=0 || z.cells.length != s then none else pure (.app s b (rdOf x') (rdOf y'))) = .app esz by_ x y →
          ∃ u w',(do pure (.value (← Builtin.append_ argTypes ty (args.map a.eval))):Sem Next).run P w = .ok (.value u) w' ∧
      ((∃ g',SimG E g' ⟨σ.tm,hupd σ.H key (.row (gen+1) esz (cs++ys)),σ.cnt⟩ a w'∧Rep g' w' u (.qsl key (gen+1) esz q (n+m))) ∨
       (∃ g',SimG E g' ⟨σ.tm,hupd σ.H key (.row (gen+1) esz (cs.drop (q*esz)++ys)),σ.cnt⟩ a w'∧Rep g' w' u (.qsl key (gen+1) esz 0 (n+m)))):=by
      intro x' y' e d2 ha t1 t2 hd2 hi
      obtain rfl:=args2 ha
      obtain ⟨t1,ht1,hu1⟩:=types1 t1
      obtain ⟨t2,ht2,hu2⟩:=types2 t2
      obtain ⟨i,hi2,hi3⟩:=isApp_orBad (x:=do
            let s ← szT P e
            let b ← bytesT P e
            let z ← zeroT P e
            if s=0 || z.cells.length != s then none else pure (.app s b (rdOf x') (rdOf y'))) (by rw [hi];rfl)
      rw [hi2] at hi
      have hi:i = .app esz by_ x y:=hi
      subst hi
      simp only [Option.bind_eq_bind,Option.bind_eq_some_iff] at hi2
      obtain ⟨s',hs',b,hb,z,hz,hi2⟩:=hi2
      split at hi2
      · cases hi2
      · rename_i hc
        cases hi2
        simp only [Bool.or_eq_true,not_or,bne_iff_ne,ne_eq,Decidable.not_not,decide_eq_true_eq] at hc
        have em:#[x',y'].map a.eval = #[a.eval x',a.eval y']:=by simp
        rw [em]
        have rx:=rep_rd hs.tm x'
        rw [hx] at rx
        exact appq_ok hs ht1 ht2 hu1 hu2 hd2 hs' hc.1 hb hz hc.2 rx (rep_rd hs.tm y') hk hcl hsrc h1 h2 h3
    simp only [tr,trCall] at htr
    split at htr
    · rename_i ha t1 t2;exact main _ _ _ _ ha t1 t2 (.inl ⟨_,rfl⟩) htr
    · rename_i ha t1 t2;exact main _ _ _ _ ha t1 t2 (.inr rfl) htr
    · cases htr
  obtain ⟨u,w',hr,hd'⟩:=hok
  unfold Oper.wp
  rw [hr]
  rcases hd' with ⟨g',hs',hrep⟩|⟨g',hs',hrep⟩
  · exact hn _ _ _ k1 ⟨g',hs'.put hd hrep⟩
  · exact hn _ _ _ k2 ⟨g',hs'.put hd hrep⟩
def itK (s:Nat) (o:LOp) (K:St→Prop) (σ:St):Prop :=
  (∃ (x:Rd) (es:List (V × V)),o.op = .rng x∧x.get σ.tm = .im es∧K (St.put ⟨σ.tm,hupd σ.H (s,σ.cnt s) (.it es none),cupd σ.cnt s⟩ o.dst (.mp (s,σ.cnt s) 0 0))) ∨
  (∃ (x:Rd) (key:Key) (left:List (V × V)) (last:Option (V × V)),o.op = .nxt x∧x.get σ.tm = .mp key 0 0∧σ.H key=some (.it left last)∧(left=[]→K (St.put σ o.dst (.tup [.bool false]))) ∧
    ∀ (j:Nat) (h:j<left.length),K (St.put ⟨σ.tm,hupd σ.H key (.it (left.eraseIdx j) (some left[j])),σ.cnt⟩ o.dst (.tup [.bool true,left[j].1,left[j].2]))) ∨
  (∃ (x:Rd) (key:Key) (left:List (V × V)) (p:V × V),o.op = .ent x∧x.get σ.tm = .mp key 0 0∧σ.H key=some (.it left (some p))∧K (St.put σ o.dst (.tup [p.1,p.2])))
theorem leftOf_nil (ents:Array MapEntry):leftOf ents #[]=ents:=by
  unfold leftOf
  rw [Array.filter_eq_self]
  intro x _;simp
theorem filter_erase {l:List MapEntry} (hn:(l.map (·.born)).Nodup):∀ {j:Nat} (h:j<l.length),l.filter (fun e=>!decide (e.born=l[j].born))=l.eraseIdx j:=by
  induction l with
  | nil=>intro j h;cases h
  | cons x l ih =>
    intro j h
    rw [List.map_cons,List.nodup_cons] at hn
    cases j with
    | zero =>
      rw [List.getElem_cons_zero,List.eraseIdx_zero,List.tail_cons,List.filter_cons_of_neg (by simp)]
      rw [List.filter_eq_self]
      intro y hy
      simp only [Bool.not_eq_true',decide_eq_false_iff_not]
      intro e
      exact hn.1 (e▸List.mem_map_of_mem hy)
    | succ j =>
      have hj:j<l.length:=by simpa using h
      rw [List.getElem_cons_succ,List.eraseIdx_cons_succ,List.filter_cons_of_pos,ih hn.2 hj]
      simp only [Bool.not_eq_true',decide_eq_false_iff_not]
      intro e
      exact hn.1 (e▸List.mem_map_of_mem (List.getElem_mem hj))
theorem leftOf_sub {ents:Array MapEntry} {seen:Array Nat} (hn:(ents.toList.map (·.born)).Nodup):((leftOf ents seen).toList.map (·.born)).Nodup:=by
  unfold leftOf
  rw [Array.toList_filter]
  exact (List.Sublist.map _ List.filter_sublist).nodup hn
theorem leftOf_push {ents:Array MapEntry} {seen:Array Nat} (hn:(ents.toList.map (·.born)).Nodup) {j:Nat} (h:j<(leftOf ents seen).size):(leftOf ents (seen.push (leftOf ents seen)[j].born)).toList=(leftOf ents seen).toList.eraseIdx j:=by
  have hl:j<(leftOf ents seen).toList.length:=by simpa using h
  rw [← filter_erase (leftOf_sub hn) hl]
  generalize hb:(leftOf ents seen)[j].born=bj
  have hb2:(leftOf ents seen).toList[j].born=bj:=by rw [← hb];simp
  rw [hb2]
  unfold leftOf
  rw [Array.toList_filter,Array.toList_filter,List.filter_filter]
  congr 1
  funext e
  simp only [Array.contains_push,Bool.not_or]
  by_cases h1:e.born=bj
  · simp [h1]
  · simp [h1]
def isIt:IOp→Bool
  | .rng .. | .nxt .. | .ent ..=>true
  | _=>false
theorem isIt_orBad {x:Option IOp} (h:isIt (orBad x)=true):∃ i,x=some i∧isIt i=true:=by
  cases x with
  | none=>cases h
  | some i=>exact ⟨i,rfl,h⟩
theorem tr_it {o:Oper} (h:isIt (tr P o)=true):(∃ t x,o.op = .range t x)∨(∃ x,o.op = .next x false)∨∃ x,o.op = .entry x:=by
  obtain ⟨dst,op,ty,pos,after,guard⟩:=o
  cases op with
  | range t x=>exact .inl ⟨t,x,rfl⟩
  | next x b =>
    cases b with
    | false=>exact .inr (.inl ⟨x,rfl⟩)
    | true=>cases h
  | entry x=>exact .inr (.inr ⟨x,rfl⟩)
  | _ =>
    exfalso
    simp only [tr,trCall] at h
    repeat' split at h
    all_goals first
      | (cases h;done)
      | contradiction
      | (obtain ⟨i,h1,h2⟩:=isIt_orBad h
         simp only [Option.bind_eq_bind,Option.bind_eq_some_iff,Option.map_eq_some_iff] at h1
         (repeat' (first|(obtain ⟨_,_,h1⟩:=h1)|(split at h1)))
         all_goals first|(cases h2;done)|(cases h1;cases h2;done)|(subst h1;cases h2;done)|(cases h1;done)|(simp_all [isIt];done))
      | (simp_all [isIt];done)
theorem im_block {v:Value} {es:List (V × V)} (h:Rep g w v (.im es)):∃ b ents clock,v = .map (some b)∧g.imm b∧w.heap[b]? = some (.map ents clock)∧ents.size=es.length∧StOk ents clock ∧
    ∀ (j:Nat) (e:MapEntry) (p:V × V),ents[j]? = some e→es[j]? = some p→Rep g w e.key p.1∧Rep g w e.val p.2:=by
  cases h with
  | imm _ _ h =>
    cases h with
    | im b clock ents _ h1 h2 h3 h4 h5 h6=>exact ⟨b,ents,clock,rfl,h1,h2,h3,h6,fun j e p he hp=>⟨.imm _ _ (h4 j e p he hp),.imm _ _ (h5 j e p he hp)⟩⟩
theorem step_it (hs:SimG E g σ a w) (o:Oper) (s:Nat) (hd:∀ t,o.dst=some t→t<E.N) {K:St→Prop} {next:Act→World→Prop} {Q:Exit→Act→World→Prop}
    (h:itK s ⟨o.dst,tr P o,none⟩ K σ) (hn:∀ σ' a' w',K σ'→Sim E σ' a' w'→next a' w'):o.wp P a w next Q:=by
  have hit:isIt (tr P o)=true:=by
    rcases h with ⟨x,es,htr,_⟩|⟨x,key,left,last,htr,_⟩|⟨x,key,left,p,htr,_⟩
    · simp only at htr;rw [htr];rfl
    · simp only at htr;rw [htr];rfl
    · simp only at htr;rw [htr];rfl
  have hop:=tr_it hit
  obtain ⟨dst,op,ty,pos,after,guard⟩:=o
  simp only at hop
  rcases hop with ⟨t,y,rfl⟩|⟨y,rfl⟩|⟨y,rfl⟩
  · -- made
    rcases h with ⟨x,es,htr,hx,k1⟩|⟨x,key,left,last,htr,_⟩|⟨x,key,left,p,htr,_⟩
    case inr.inl=>simp only [tr] at htr;split at htr<;>cases htr
    case inr.inr=>simp only [tr] at htr;split at htr<;>cases htr
    simp only [tr] at htr
    split at htr
    case h_2=>cases htr
    rename_i kt et hu
    cases htr
    have hr:=rep_rd hs.tm y
    rw [hx] at hr
    obtain ⟨b,ents,clock,hv,hb,hh,hsz,hst,hent⟩:=im_block hr
    have hrun:(execOp a.eval ⟨dst,.range t y,ty,pos,after,guard⟩).run P w = .ok (.value (.pointer (some ⟨w.heap.size,0,none⟩))) (w.alloc (.mapIter (some b) clock #[] clock)):=by
      have hq:execOp a.eval ⟨dst,.range t y,ty,pos,after,guard⟩=(do pure (.value (← Instr.range t (a.eval y)))):=rfl
      rw [hq,hv]
      simp only [Sem.run_bind,run_range_map w t kt et b ents clock hu hh,Result.andThen_ok,Sem.run_pure]
    have hbw:BelowD w.heap.size w (w.alloc (.mapIter (some b) clock #[] clock)):=(BelowD.refl _ _).alloc (Nat.le_refl _) _
    have hfr:=(hs.fresh s (σ.cnt s) (Nat.le_refl _)).2
    have hlt:=hs.immlt b hb
    have hrep:∀ v x,Rep g w v x→Rep (g.set (s,σ.cnt s) 0 (some w.heap.size,0)) (w.alloc (.mapIter (some b) clock #[] clock)) v x:=fun v x h=>h.mono (fun _ h=>h) (fun b hm=>hbw.block b (hs.immlt b hm)) (fun k n r h=>by
      rw [Gh.set_ne]
      · exact h
      · rintro ⟨rfl,rfl⟩;rw [hfr] at h;cases h)
    have hs':=hs.newAny s (r0:=(some w.heap.size,0)) (o0:=.it es none) (.of (hbw.mono hs.sizeB)) (fun b h=>hbw.block b h)
      ⟨w.heap.size,Gh.set_same _ _ _ _,fun m hm=>by
        rw [Gh.set_ne]
        · exact hfr m
        · rintro ⟨_,rfl⟩;omega,.inl hs.sizeB,by simp,fun hm=>by have:=hs.immlt _ hm;omega,b,ents,clock,clock,#[],hb,(hbw.block b hlt).trans hh,hst,Nat.le_refl _,heap_alloc_new _ _,by rw [leftOf_nil];exact hsz,fun j e p he hp=>by
          rw [leftOf_nil] at he
          exact ⟨hrep _ _ (hent j e p he hp).1,hrep _ _ (hent j e p he hp).2⟩,fun p hp=>(by cases hp)⟩ (fun b' hbk k o hk hb'=>by
        have:=((hs.obj k o hk).blk hb').1
        simp only [blkOf,Gh.set_same,Option.bind_some] at hbk
        cases hbk
        omega)
    unfold Oper.wp
    rw [hrun]
    exact hn _ _ _ k1 ⟨_,hs'.put hd (.mp _ 0 0 _ 0 (Gh.set_same _ _ _ _))⟩
  · -- a step
    rcases h with ⟨x,es,htr,_⟩|⟨x,key,left,last,htr,hx,hk,k1,k2⟩|⟨x,key,left,p,htr,_⟩
    · simp only [tr] at htr;cases htr
    case inr.inr=>simp only [tr] at htr;cases htr
    simp only [tr] at htr
    cases htr
    have hr:=rep_rd hs.tm y
    rw [hx] at hr
    obtain ⟨r,cap,href0,hv⟩:=hr.mp_inv
    obtain ⟨r',h1,h2,q1,q2,q3,b,ents,clock,c0,seen,hb,hh,hst,hsc,hit0,hsz,hent,hlast⟩:=hs.obj key _ hk
    rw [href0] at h1;cases h1
    have hq:execOp a.eval ⟨dst,.next y false,ty,pos,after,guard⟩=(do pure (.value (← Instr.next (a.eval y) false ty))):=rfl
    unfold Oper.wp
    rw [hq,hv]
    rcases run_next_at (P:=P) w ty r b clock c0 seen ents clock hit0 hh (fun x hx=>hst.1 _ (List.mem_map_of_mem hx)) hsc with ⟨h0,hrun⟩|⟨e,he,w1,hw1,hrun⟩
    · simp only [Sem.run_bind,hrun,Result.andThen_ok,Sem.run_pure]
      refine hn _ _ _ (k1 (List.eq_nil_of_length_eq_zero (by omega))) ⟨g,hs.put hd (.tup _ _ rfl fun j u c hu hc=>?_)⟩
      match j with
      | 0=>simp at hu hc;subst hu hc;exact rbool _
      | j+1=>simp at hu
    · simp only [Sem.run_bind,hrun,Result.andThen_ok,Sem.run_pure]
      obtain ⟨j,hj,rfl⟩:=List.getElem_of_mem he
      have hjs:j<(leftOf ents seen).size:=by simpa using hj
      have hjl:j<left.length:=by omega
      have hje:=Array.getElem?_eq_getElem hjs
      have hgj:(leftOf ents seen).toList[j]=(leftOf ents seen)[j]:=by simp
      rw [hgj]
      have hp:=hent j _ _ hje (List.getElem?_eq_getElem hjl)
      have hh1:∀ k:Nat,w1.heap[k]? = w.heap[k]?:=by rcases hw1 with rfl|rfl<;>intro k<;>rfl
      have hsz1:w1.heap.size=w.heap.size:=by rcases hw1 with rfl|rfl<;>rfl
      generalize hnew:Go.Obj.mapIter (some b) clock (seen.push (leftOf ents seen)[j].born) clock=newo
      have hne:∀ k:Nat,k≠r→(ChangeMaps.setBlock w1 r newo).heap[k]? = w.heap[k]?:=fun k hkr=>by
        show (w1.heap.setIfInBounds r _)[k]? = _
        rw [Array.getElem?_setIfInBounds_ne (Ne.symm hkr),hh1]
      have hat:(ChangeMaps.setBlock w1 r newo).heap[r]? = some newo:=by
        show (w1.heap.setIfInBounds r _)[r]? = _
        simp [hsz1,q2]
      have hsz2:(ChangeMaps.setBlock w1 r newo).heap.size=w.heap.size:=by
        show (w1.heap.setIfInBounds r _).size=_
        simp [hsz1]
      have href:∀ k n r1,g.ref k n=some r1→(g.set key 0 (some r,0)).ref k n=some r1:=by
        intro k n r1 hh
        by_cases e:k=key∧n=0
        · obtain ⟨rfl,rfl⟩:=e;rw [Gh.set_same,← href0];exact hh
        · rw [Gh.set_ne _ _ e];exact hh
      have hbw:BelowF E.B E.F w (ChangeMaps.setBlock w1 r newo):=by
        have hos:w1.os=w.os∧w1.tape=w.tape∧w1.output=w.output∧w.drawn≤w1.drawn:=by
          rcases hw1 with rfl|rfl
          · exact ⟨rfl,rfl,rfl,Nat.le_refl _⟩
          · exact ⟨rfl,rfl,rfl,Nat.le_succ _⟩
        refine ⟨hos.1,hos.2.1,hos.2.2.1,Nat.le_of_eq hsz2.symm,fun k hk hf=>hne k ?_,hos.2.2.2⟩
        rintro rfl
        rcases q1 with h|h
        · omega
        · exact hf h.2
      have hbr:b≠r:=fun e=>q3 (e▸hb)
      have hs':=hs.setAny hk (gen':=0) (r':=(some r,0)) (o1:=.it (left.eraseIdx j) (some left[j])) href hbw (fun k _ hkr=>hne k fun e=>hkr (by simp [blkOf,href0,e])) (fun hmono=>by
        refine ⟨r,Gh.set_same _ _ _ _,fun m hm=>?_,q1,by rw [hsz2];exact q2,q3,b,ents,clock,clock,seen.push (leftOf ents seen)[j].born,hb,(hne b hbr).trans hh,hst,Nat.le_refl _,by rw [hat,← hnew],?_,?_,fun p' hp'=>?_⟩
        · rw [Gh.set_ne]
          · exact h2 m hm
          · rintro ⟨_,rfl⟩;omega
        · have:=congrArg List.length (leftOf_push hst.2 hjs)
          rw [Array.length_toList,List.length_eraseIdx,Array.length_toList,if_pos hjs] at this
          rw [this,List.length_eraseIdx,if_pos hjl,hsz]
        · intro i e p he hp
          rw [← Array.getElem?_toList,leftOf_push hst.2 hjs] at he
          rw [List.getElem?_eraseIdx] at he hp
          split at he
          · rename_i hij;rw [if_pos hij] at hp
            rw [Array.getElem?_toList] at he
            exact ⟨hmono _ _ (hent _ _ _ he hp).1,hmono _ _ (hent _ _ _ he hp).2⟩
          · rename_i hij;rw [if_neg hij] at hp
            rw [Array.getElem?_toList] at he
            exact ⟨hmono _ _ (hent _ _ _ he hp).1,hmono _ _ (hent _ _ _ he hp).2⟩
        · cases hp'
          refine ⟨seen,(leftOf ents seen)[j],rfl,rfl,?_,hmono _ _ hp.1,hmono _ _ hp.2⟩
          have hm:(leftOf ents seen)[j]∈(leftOf ents seen).toList:=by rw [← hgj];exact List.getElem_mem _
          unfold leftOf at hm
          rw [Array.toList_filter] at hm
          exact (List.mem_filter.1 hm).1) (fun b' hb'=>by
        left
        simp only [blkOf,Gh.set_same,Option.bind_some] at hb'
        simp [blkOf,href0,← hb'])
      refine hn _ _ _ (k2 j hjl) ⟨_,hs'.put hd (.tup _ _ rfl fun i u c hu hc=>?_)⟩
      have hmono:∀ v x,Rep g w v x→Rep (g.set key 0 (some r,0)) (ChangeMaps.setBlock w1 r newo) v x:=fun v x h=>h.mono (fun _ h=>h) (fun b hm=>hne b fun e=>q3 (e▸hm)) href
      match i with
      | 0=>simp at hu hc;subst hu hc;exact rbool _
      | 1=>simp at hu hc;subst hu hc;exact hmono _ _ hp.1
      | 2=>simp at hu hc;subst hu hc;exact hmono _ _ hp.2
      | i+3=>simp at hu
  · -- what it handed out
    rcases h with ⟨x,es,htr,_⟩|⟨x,key,left,last,htr,_⟩|⟨x,key,left,p,htr,hx,hk,k1⟩
    · simp only [tr] at htr;cases htr
    · simp only [tr] at htr;cases htr
    simp only [tr] at htr
    cases htr
    have hr:=rep_rd hs.tm y
    rw [hx] at hr
    obtain ⟨r,cap,href0,hv⟩:=hr.mp_inv
    obtain ⟨r',h1,h2,q1,q2,q3,b,ents,clock,c0,seen,hb,hh,hst,hsc,hit0,hsz,hent,hlast⟩:=hs.obj key _ hk
    rw [href0] at h1;cases h1
    obtain ⟨seen0,e,rfl,rfl,he,hp1,hp2⟩:=hlast p rfl
    have hq:execOp a.eval ⟨dst,.entry y,ty,pos,after,guard⟩=(do pure (.value (← Instr.entry (a.eval y)))):=rfl
    unfold Oper.wp
    rw [hq,hv]
    simp only [Sem.run_bind,run_entry_at w r b c0 seen0 ents c0 e hit0 hh he hst.2,Result.andThen_ok,Sem.run_pure]
    refine hn _ _ _ k1 ⟨g,hs.put hd (.tup _ _ rfl fun j u c hu hc=>?_)⟩
    match j with
    | 0=>simp at hu hc;subst hu hc;exact hp1
    | 1=>simp at hu hc;subst hu hc;exact hp2
    | j+2=>simp at hu
theorem PRetM.ret {f:FuncId} {args:List V} {esz n:Nat} {cs:List V} (h:PRetM P f args esz n cs):PRet P f args (.sl n cs):=by
  obtain ⟨hen,hcl,hcall⟩:=h
  refine ⟨hen,fun imm w vs h1 h2 h3=>(hcall imm w vs h1 h2 h3).mono ?_⟩
  rintro e w' ⟨A,c,blk,imm',rfl,hb,i1,i2,hnc,hA,hblk⟩
  cases blk with
  | none =>
    obtain ⟨rfl,rfl⟩:=hblk
    obtain rfl:n=0:=by omega
    exact ⟨_,imm',rfl,.sl0 _ _,hb,i1,i2⟩
  | some b =>
    obtain ⟨q1,q2,q3,us,T,fz,q4,q5,q6,q7,q8⟩:=hblk
    by_cases hn:n=0
    · subst hn
      have:cs=[]:=List.eq_nil_of_length_eq_zero (by omega)
      subst this
      exact ⟨_,imm',rfl,.sl0 _ _,hb,i1,i2⟩
    · rw [hA b rfl (by omega)]
      refine ⟨_,fun x=>imm' x∨x=b,rfl,.sl b 0 n c us T fz cs (.inr rfl) q4 (by omega) hnc (fun j u x hu hx=>(q8 j u x (by simpa using hu) hx).mono (fun _ h=>.inl h) (fun _ _=>rfl)),hb,fun x h=>.inl (i1 x h),?_⟩
      rintro x (h|rfl)
      · exact i2 x h
      · exact .inr ⟨q1,q2⟩
end
end Go.Lg

namespace Go.Lg
open Go Go.RowKit
inductive Cls where
  | A|B|L|C|E|D
  deriving DecidableEq
def IOp.cls:IOp→Cls
  | .load .. | .mlk .. | .mlen .. | .b2s .. | .msb ..=>.L
  | .call .. | .callv ..=>.B
  | .new .. | .box .. | .mksl .. | .mkmap | .s2b .. | .bslo ..=>.C
  | .appE ..=>.E
  | .store .. | .app .. | .cpy .. | .mset .. | .bad=>.D
  | _=>.A
def Rd.slots:Rd→List Nat
  | .tmp t=>[t]
  | .con _=>[]
def oslots:Option Rd→List Nat
  | none=>[]
  | some x=>x.slots
def pslots:List (Nat × Nat × Rd)→List Nat
  | []=>[]
  | (_,_,x)::r=>x.slots++pslots r
def lslots:List Rd→List Nat
  | []=>[]
  | x::r=>x.slots++lslots r
def IOp.slots:IOp→List Nat
  | .mov x | .mvs x | .box x | .load _ _ x | .nilchk x | .un _ x | .convI _ x | .mkifc _ x | .fad _ x | .fld _ _ _ x | .tas _ _ x | .ext x _ | .len _ x | .mlen x | .s2b x | .b2s x | .msb x | .rng x | .nxt x | .ent x=>x.slots
  | .pick c a b | .mset _ c a b | .mx3 c a b=>c.slots++(a.slots++b.slots)
  | .new _ | .mkmap | .bad=>[]
  | .build _ ps | .bsl _ _ ps | .bslo _ _ ps=>pslots ps
  | .store _ a x | .bin _ a x | .eqb _ a x | .eqp _ a x | .eqf _ a x | .eqi _ _ a x | .iaA _ _ a x | .iaS _ a x | .ixS a x | .ixA _ _ _ a x | .app _ _ a x | .appE _ _ a x | .cpy _ a x | .mn _ a x | .mksl _ _ _ a x | .mlk _ _ _ a x | .eqa _ _ _ a x=>a.slots++x.slots
  | .mkfn _ xs | .call _ xs=>lslots xs
  | .callv f xs=>f.slots++lslots xs
  | .slS x lo hi | .slV _ x lo hi | .slA _ _ x lo hi=>x.slots++(oslots lo++oslots hi)
def LOp.slots (o:LOp):List Nat:=(match o.guard with|none=>[]|some (t,_)=>[t])++o.op.slots
section
variable {tm tm':Nat→V}
theorem Rd.get_congr {x:Rd} (h:∀ t∈x.slots,tm' t=tm t):x.get tm' = x.get tm:=by
  cases x with
  | tmp t=>exact h t (by simp [Rd.slots])
  | con v=>rfl
theorem lo_congr {x:Option Rd} (h:∀ t∈oslots x,tm' t=tm t):loOf tm' x=loOf tm x:=by
  cases x with
  | none=>rfl
  | some x=>simp only [loOf];rw [Rd.get_congr h]
theorem hi_congr {x:Option Rd} {n:Nat} (h:∀ t∈oslots x,tm' t=tm t):hiOf tm' n x=hiOf tm n x:=by
  cases x with
  | none=>rfl
  | some x=>simp only [hiOf];rw [Rd.get_congr h]
theorem list_congr:∀ {xs:List Rd},(∀ t∈lslots xs,tm' t=tm t)→xs.map (Rd.get tm')=xs.map (Rd.get tm)
  | [],_=>rfl
  | x::r,h=>by
    simp only [List.map_cons]
    rw [Rd.get_congr fun t ht=>h t (by simp [lslots,ht]),list_congr fun t ht=>h t (by simp [lslots,ht])]
theorem parts_congr:∀ {ps:List (Nat × Nat × Rd)} {cs:List V} {n:Nat},(∀ t∈pslots ps,tm' t=tm t)→fillL tm' cs ps=fillL tm cs ps∧partsOk tm' n ps=partsOk tm n ps
  | [],_,_,_=>⟨rfl,rfl⟩
  | (o,s,x)::r,cs,n,h=>by
    have hx:=Rd.get_congr (tm:=tm) (tm':=tm') (x:=x) fun t ht=>h t (by simp [pslots,ht])
    have ih:=fun cs=>parts_congr (ps:=r) (cs:=cs) (n:=n) fun t ht=>h t (by simp [pslots,ht])
    constructor
    · simp only [fillL,hx];exact (ih _).1
    · simp only [partsOk,hx,(ih cs).2]
theorem lop_congr {op:IOp} {H:Heap} (h:∀ t∈op.slots,tm' t=tm t):lop op tm' H=lop op tm H:=by
  cases op<;>simp only [IOp.slots,List.mem_append] at h<;>simp only [lop]
  case pick c a b=>rw [Rd.get_congr fun t ht=>h t (.inl ht),Rd.get_congr fun t ht=>h t (.inr (.inl ht)),Rd.get_congr fun t ht=>h t (.inr (.inr ht))]
  case mset kt x i v=>rw [Rd.get_congr fun t ht=>h t (.inl ht),Rd.get_congr fun t ht=>h t (.inr (.inl ht)),Rd.get_congr fun t ht=>h t (.inr (.inr ht))]
  case mx3 x y z=>rw [Rd.get_congr fun t ht=>h t (.inl ht),Rd.get_congr fun t ht=>h t (.inr (.inl ht)),Rd.get_congr fun t ht=>h t (.inr (.inr ht))]
  case build zs ps=>rw [(parts_congr (cs:=zs) (n:=0) h).1,(parts_congr (cs:=zs) (n:=zs.length) h).2]
  case bsl n zs ps=>rw [(parts_congr (cs:=zs) (n:=0) h).1,(parts_congr (cs:=zs) (n:=zs.length) h).2]
  case bslo n zs ps=>rw [(parts_congr (cs:=zs) (n:=0) h).1,(parts_congr (cs:=zs) (n:=zs.length) h).2]
  case mkfn f xs=>rw [list_congr h]
  case call f xs=>rw [list_congr h]
  case callv f xs=>rw [Rd.get_congr fun t ht=>h t (.inl ht),list_congr fun t ht=>h t (.inr ht)]
  case slS x lo hi=>rw [Rd.get_congr fun t ht=>h t (.inl ht),lo_congr fun t ht=>h t (.inr (.inl ht))];congr 1;funext n;exact hi_congr fun t ht=>h t (.inr (.inr ht))
  case slV s x lo hi=>rw [Rd.get_congr fun t ht=>h t (.inl ht),lo_congr fun t ht=>h t (.inr (.inl ht))];congr 1;funext n;exact hi_congr fun t ht=>h t (.inr (.inr ht))
  case slA n s x lo hi=>rw [Rd.get_congr fun t ht=>h t (.inl ht),lo_congr fun t ht=>h t (.inr (.inl ht)),hi_congr fun t ht=>h t (.inr (.inr ht))]
  all_goals first
    | rfl
    | rw [Rd.get_congr h]
    | rw [Rd.get_congr fun t ht=>h t (.inl ht),Rd.get_congr fun t ht=>h t (.inr ht)]
end
def Heap.sub (H H':Heap):Prop:=∀ k o,H k=some o→H' k=some o
theorem sok_mono {H H':Heap} (hs:Heap.sub H H'):∀ (d:Nat) (v:V),sok H d v=true→sok H' d v=true∧snap H' d v=snap H d v:=by
  intro d
  induction d with
  | zero=>intro v h;cases h
  | succ d ih =>
    intro v h
    have all:∀ cs:List V,cs.all (sok H d)=true→cs.all (sok H' d)=true∧cs.map (snap H' d)=cs.map (snap H d):=by
      intro cs hc
      rw [List.all_eq_true] at hc
      exact ⟨List.all_eq_true.2 fun x hx=>(ih x (hc x hx)).1,List.map_congr_left fun x hx=>(ih x (hc x hx)).2⟩
    cases v with
    | msl key g off n =>
      simp only [sok,snap] at h ⊢
      cases hk:H key with
      | none=>simp [hk] at h
      | some o =>
        rw [hs key o hk]
        cases o with
        | map es=>simp [hk] at h
        | it _=>simp [hk] at h
        | row g' esz cs =>
          simp only [hk,Bool.and_eq_true] at h ⊢
          obtain ⟨⟨h1,h2⟩,h3⟩:=h
          obtain ⟨a1,a2⟩:=all _ h3
          exact ⟨⟨⟨h1,h2⟩,a1⟩,by rw [a2]⟩
    | msv key g off n e =>
      simp only [sok,snap] at h ⊢
      cases hk:H key with
      | none=>simp [hk] at h
      | some o =>
        rw [hs key o hk]
        cases o with
        | map es=>simp [hk] at h
        | it _=>simp [hk] at h
        | row g' esz cs =>
          simp only [hk,Bool.and_eq_true] at h ⊢
          obtain ⟨⟨h1,h2⟩,h3⟩:=h
          obtain ⟨a1,a2⟩:=all _ h3
          exact ⟨⟨⟨h1,h2⟩,a1⟩,by rw [a2]⟩
    | qsl key g e q n =>
      simp only [sok,snap] at h ⊢
      by_cases h0:0<e
      case neg=>rw [if_neg h0] at h;cases h
      rw [if_pos h0] at h
      simp only [if_pos h0]
      cases hk:H key with
      | none=>simp [hk] at h
      | some o =>
        rw [hs key o hk]
        cases o with
        | map es=>simp [hk] at h
        | it _=>simp [hk] at h
        | row g' esz cs =>
          simp only [hk,Bool.and_eq_true] at h ⊢
          obtain ⟨⟨h1,h2⟩,h3⟩:=h
          obtain ⟨a1,a2⟩:=all _ h3
          exact ⟨⟨⟨h1,h2⟩,a1⟩,by rw [a2]⟩
    | mp key g off =>
      simp only [sok,snap] at h ⊢
      cases hk:H key with
      | none=>simp [hk] at h
      | some o =>
        rw [hs key o hk]
        cases o with
        | map es=>simp [hk] at h
        | it _=>simp [hk] at h
        | row g' esz cs =>
          simp only [hk,Bool.and_eq_true] at h ⊢
          obtain ⟨h1,h3⟩:=h
          obtain ⟨a1,a2⟩:=all _ h3
          exact ⟨⟨h1,a1⟩,by rw [a2]⟩
    | agg cs=>obtain ⟨a1,a2⟩:=all cs h;exact ⟨a1,by simp only [snap,a2]⟩
    | tup cs=>obtain ⟨a1,a2⟩:=all cs h;exact ⟨a1,by simp only [snap,a2]⟩
    | fn f cs=>obtain ⟨a1,a2⟩:=all cs h;exact ⟨a1,by simp only [snap,a2]⟩
    | ifc t x=>obtain ⟨a1,a2⟩:=ih x h;exact ⟨a1,by simp only [snap,a2]⟩
    | mm key =>
      simp only [sok,snap] at h ⊢
      cases hk:H key with
      | none=>simp [hk] at h
      | some o =>
        rw [hs key o hk]
        cases o with
        | row=>simp [hk] at h
        | it=>simp [hk] at h
        | map es =>
          simp only [hk,List.all_eq_true,Bool.and_eq_true] at h ⊢
          refine ⟨fun e he=>⟨(ih _ (h e he).1).1,(ih _ (h e he).2).1⟩,?_⟩
          congr 1
          exact List.map_congr_left fun e he=>by rw [(ih _ (h e he).1).2,(ih _ (h e he).2).2]
    | _=>exact ⟨h,rfl⟩
theorem soks_mono {H H':Heap} (hs:Heap.sub H H') {xs:List V} {d:Nat} (h:xs.all (sok H d)=true):xs.all (sok H' d)=true∧xs.map (snap H' d)=xs.map (snap H d):=by
  rw [List.all_eq_true] at h
  exact ⟨List.all_eq_true.2 fun x hx=>(sok_mono hs d x (h x hx)).1,List.map_congr_left fun x hx=>(sok_mono hs d x (h x hx)).2⟩
def LRes.heap (σ:St) (s:Nat):LRes→Heap
  | .C _ o _=>hupd σ.H (s,σ.cnt s) o
  | .D _ _ H'=>H'
  | _=>σ.H
def RStep (P:Program) (σ:St) (s:Nat) (r:LRes) (v:V) (σ':St):Prop :=
  match r with
  | .A pre u=>pre∧v=u∧σ' = σ
  | .C pre o mk=>pre∧v=mk (s,σ.cnt s)∧σ' = ⟨σ.tm,hupd σ.H (s,σ.cnt s) o,cupd σ.cnt s⟩
  | .D pre u H'=>pre∧v=u∧σ' = ⟨σ.tm,H',σ.cnt⟩
  | .call pre f args sargs=>pre∧PRet P f sargs v∧resOk P f args sargs v∧σ' = σ
  | .bad=>False
theorem vres_iff {P:Program} {σ:St} {s:Nat} {d:Option Nat} {K:St→Prop} {r:LRes}:vres P σ s d K r↔∃ v σ',RStep P σ s r v σ'∧K (σ'.put d v):=by
  cases r with
  | A pre u=>exact ⟨fun ⟨h,k⟩=>⟨u,σ,⟨h,rfl,rfl⟩,k⟩,fun ⟨v,σ',⟨h,e1,e2⟩,k⟩=>⟨h,by rw [e1,e2] at k;exact k⟩⟩
  | C pre o mk=>exact ⟨fun ⟨h,k⟩=>⟨_,_,⟨h,rfl,rfl⟩,k⟩,fun ⟨v,σ',⟨h,e1,e2⟩,k⟩=>⟨h,by rw [e1,e2] at k;exact k⟩⟩
  | D pre u H'=>exact ⟨fun ⟨h,k⟩=>⟨_,_,⟨h,rfl,rfl⟩,k⟩,fun ⟨v,σ',⟨h,e1,e2⟩,k⟩=>⟨h,by rw [e1,e2] at k;exact k⟩⟩
  | call pre f args sargs=>exact ⟨fun ⟨h,r,h1,h2,k⟩=>⟨r,σ,⟨h,h1,h2,rfl⟩,k⟩,fun ⟨v,σ',⟨h,h1,h2,e⟩,k⟩=>⟨h,v,h1,h2,by rw [e] at k;exact k⟩⟩
  | bad=>exact ⟨fun h=>h.elim,fun ⟨_,_,h,_⟩=>h.elim⟩
def LStep (P:Program) (s:Nat) (o:LOp) (σ σ':St):Prop :=
  (gd σ.tm o.guard=some true∧∃ v σ1,RStep P σ s (lop o.op σ.tm σ.H) v σ1∧σ' = σ1.put o.dst v)∨(gd σ.tm o.guard=some false∧σ' = σ.put o.dst (.tup []))
theorem vstep_iff {P:Program} {s:Nat} {o:LOp} {K:St→Prop} {σ:St}:vstep P s o K σ↔∃ σ',LStep P s o σ σ'∧K σ':=by
  unfold vstep LStep
  cases hg:gd σ.tm o.guard with
  | none=>exact ⟨fun h=>h.elim,fun ⟨_,h,_⟩=>by rcases h with ⟨h,_⟩|⟨h,_⟩<;>cases h⟩
  | some b =>
    cases b with
    | true =>
      simp only [vres_iff]
      constructor
      · rintro ⟨v,σ1,h,k⟩;exact ⟨_,.inl ⟨trivial,v,σ1,h,rfl⟩,k⟩
      · rintro ⟨σ',⟨_,v,σ1,h,e⟩|⟨h,_⟩,k⟩
        · exact ⟨v,σ1,h,by rw [e] at k;exact k⟩
        · cases h
    | false =>
      constructor
      · intro k;exact ⟨_,.inr ⟨rfl,rfl⟩,k⟩
      · rintro ⟨σ',⟨h,_⟩|⟨_,e⟩,k⟩
        · cases h
        · rw [e] at k;exact k
def WF (σ:St):Prop:=∀ s n,σ.cnt s≤n→σ.H (s,n)=none
section
variable {P:Program} {σ σ1 σ2:St}
theorem WF.put (h:WF σ) {d v}:WF (σ.put d v):=h
def isA:LRes→Bool | .A .. | .bad=>true|_=>false
def isC:LRes→Bool | .C .. | .bad=>true|_=>false
def isB:LRes→Bool | .A .. | .call .. | .bad=>true|_=>false
theorem isA_lbin (op:BinOp) (x y:V):isA (lbin op x y)=true:=by
  cases x<;>cases y<;>(try rfl)<;>cases op<;>simp only [lbin]<;>(try split)<;>rfl
theorem isA_leqp (n:Bool) (x y:V):isA (leqp n x y)=true:=by cases x<;>cases y<;>rfl
theorem isA_leqi (n l:Bool) (x y:V):isA (leqi n l x y)=true:=by cases x<;>cases y<;>rfl
theorem isA_leqb (n:Bool) (x y:V):isA (leqb n x y)=true:=by cases x<;>cases y<;>rfl
theorem isA_leqf (n:Bool) (x y:V):isA (leqf n x y)=true:=by cases x<;>cases y<;>rfl
theorem isA_leqa (m:Nat) (q:IntKind) (n:Bool) (x y:V):isA (leqa m q n x y)=true:=by cases x<;>cases y<;>rfl
theorem isA_lun (op:UnOp) (x:V):isA (lun op x)=true:=by
  cases op<;>cases x<;>simp only [lun]<;>(try split)<;>rfl
theorem isA_ofOpt (x:Option V):isA (.ofOpt x)=true:=by cases x<;>rfl
theorem isA_lsl {f:Int→Int→LRes} (h:∀ l r,isA (f l r)=true) (x y:Option Int):isA (lsl f x y)=true:=by
  cases x<;>cases y<;>first|rfl|exact h _ _
theorem isA_lslV (s:Nat) (x:V) (l r:Int):isA (lslV s x l r)=true:=by cases x<;>rfl
theorem isA_lslA (n s:Nat) (x:V) (l r:Int):isA (lslA n s x l r)=true:=by cases x<;>rfl
theorem cls_A {op:IOp} (h:op.cls = .A) (tm:Nat→V) (H H':Heap):lop op tm H' = lop op tm H∧isA (lop op tm H)=true:=by
  cases op<;>first|(cases h;done)|skip
  all_goals first
    | exact ⟨rfl,rfl⟩
    | exact ⟨rfl,isA_lbin _ _ _⟩
    | exact ⟨rfl,isA_leqp _ _ _⟩
    | exact ⟨rfl,isA_leqi _ _ _ _⟩
    | exact ⟨rfl,isA_leqb _ _ _⟩
    | exact ⟨rfl,isA_leqf _ _ _⟩
    | exact ⟨rfl,isA_leqa _ _ _ _ _⟩
    | exact ⟨rfl,isA_lun _ _⟩
    | skip
  case mvs x=>refine ⟨rfl,?_⟩;simp only [lop,lmvs];split<;>rfl
  case pick c x y=>refine ⟨rfl,?_⟩;simp only [lop,lpick];split<;>rfl
  case bsl n zs ps=>refine ⟨rfl,?_⟩;simp only [lop];split<;>rfl
  case nilchk x=>refine ⟨rfl,?_⟩;simp only [lop,lnil];split<;>rfl
  case convI k x=>refine ⟨rfl,?_⟩;simp only [lop,lconvI];split<;>rfl
  case slS x lo hi =>
    refine ⟨rfl,?_⟩
    simp only [lop,lslSx]
    split
    · exact isA_lsl (fun _ _=>rfl) _ _
    · rfl
  case slV s x lo hi =>
    refine ⟨rfl,?_⟩
    simp only [lop,lslVx]
    split
    · exact isA_lsl (isA_lslV _ _) _ _
    · rfl
  case slA n s x lo hi=>exact ⟨rfl,isA_lsl (isA_lslA _ _ _) _ _⟩
  case fad o x=>refine ⟨rfl,?_⟩;simp only [lop,lfad];split<;>rfl
  case fld b n o x =>
    refine ⟨rfl,?_⟩;simp only [lop,lfld]
    split
    · exact isA_ofOpt _
    · rfl
  case iaA n s x i =>
    refine ⟨rfl,?_⟩
    simp only [lop,liaA]
    repeat' split
    all_goals rfl
  case iaS s x i =>
    refine ⟨rfl,?_⟩
    simp only [lop,liaS]
    repeat' split
    all_goals rfl
  case ixS x i =>
    refine ⟨rfl,?_⟩
    simp only [lop,lixS]
    repeat' split
    all_goals rfl
  case ixA b n s x i =>
    refine ⟨rfl,?_⟩
    simp only [lop,lixA]
    repeat' split
    all_goals rfl
  case tas t z x=>refine ⟨rfl,?_⟩;simp only [lop,ltas];split<;>rfl
  case ext x i =>
    refine ⟨rfl,?_⟩;simp only [lop,lext]
    split
    · exact isA_ofOpt _
    · rfl
  case len b x=>refine ⟨rfl,?_⟩;simp only [lop,llen];split<;>(try split)<;>rfl
  case mn b x y=>refine ⟨rfl,?_⟩;simp only [lop,lmn];split<;>rfl
  case mx3 x y z=>refine ⟨rfl,?_⟩;simp only [lop,lmx3];split<;>rfl
theorem cls_C {op:IOp} (h:op.cls = .C) (tm:Nat→V) (H H':Heap):lop op tm H' = lop op tm H∧isC (lop op tm H)=true:=by
  cases op<;>first|(cases h;done)|skip
  case new zs=>exact ⟨rfl,rfl⟩
  case box x=>exact ⟨rfl,rfl⟩
  case mksl e b zs l c=>refine ⟨rfl,?_⟩;simp only [lop,lmksl];split<;>rfl
  case mkmap=>exact ⟨rfl,rfl⟩
  case s2b x=>refine ⟨rfl,?_⟩;simp only [lop,ls2b];split<;>rfl
  case bslo n zs ps=>refine ⟨rfl,?_⟩;simp only [lop];split<;>rfl
theorem src_sub {H H':Heap} (hs:Heap.sub H H') {esz:Nat} {Y:V} {src:Nat × List V} (h:srcOf H esz Y=some src):srcOf H' esz Y=some src:=by
  cases Y with
  | msl key g off n =>
    simp only [srcOf] at h ⊢
    cases hkey:H key with
    | none=>simp [hkey] at h
    | some ob=>rw [hs key ob hkey];rw [hkey] at h;exact h
  | _=>exact h
theorem cls_B {op:IOp} (h:op.cls = .B∨op.cls = .L) (tm:Nat→V) {H H':Heap} (hs:Heap.sub H H') :
    (∃ pre v,lop op tm H = .A pre v∧lop op tm H' = .A pre v)∨(∃ pre pre' f args sargs,lop op tm H = .call pre f args sargs∧(pre→pre'∧lop op tm H' = .call pre' f args sargs))∨lop op tm H = .bad:=by
  cases op<;>first|(rcases h with h|h<;>cases h;done)|skip
  case load agg n x =>
    simp only [lop]
    generalize x.get tm=X
    cases X with
    | ip cs off =>
      simp only [lload,LRes.ofOpt]
      cases ldV agg n cs off with
      | none=>exact .inr (.inr (by trivial))
      | some v=>exact .inl ⟨_,_,rfl,rfl⟩
    | mp key g off =>
      simp only [lload]
      cases hk:H key with
      | none=>exact .inr (.inr (by trivial))
      | some o =>
        rw [hs key o hk]
        cases o with
        | map es=>exact .inr (.inr (by trivial))
        | it _=>exact .inr (.inr (by trivial))
        | row g' esz cs =>
          simp only []
          by_cases e:g' = g
          · simp only [if_pos e,LRes.ofOpt]
            cases ldV agg n cs off with
            | none=>exact .inr (.inr (by trivial))
            | some v=>exact .inl ⟨_,_,rfl,rfl⟩
          · simp only [if_neg e];exact .inr (.inr (by trivial))
    | _=>exact .inr (.inr (by trivial))
  case mlk kt ok z x i =>
    simp only [lop]
    generalize x.get tm=X
    cases X with
    | mm key =>
      simp only [lmlk]
      cases hk:H key with
      | none=>exact .inr (.inr (by trivial))
      | some o =>
        rw [hs key o hk]
        cases o with
        | map es=>exact .inl ⟨_,_,rfl,rfl⟩
        | it=>exact .inr (.inr (by trivial))
        | row=>exact .inr (.inr (by trivial))
    | im es=>exact .inl ⟨_,_,rfl,rfl⟩
    | _=>exact .inr (.inr (by trivial))
  case mlen x =>
    simp only [lop]
    generalize x.get tm=X
    cases X with
    | mm key =>
      simp only [lmlen]
      cases hk:H key with
      | none=>exact .inr (.inr (by trivial))
      | some o =>
        rw [hs key o hk]
        cases o with
        | map es=>exact .inl ⟨_,_,rfl,rfl⟩
        | it=>exact .inr (.inr (by trivial))
        | row=>exact .inr (.inr (by trivial))
    | nilm=>exact .inl ⟨_,_,rfl,rfl⟩
    | im es=>exact .inl ⟨_,_,rfl,rfl⟩
    | _=>exact .inr (.inr (by trivial))
  case msb x =>
    simp only [lop]
    generalize x.get tm=X
    cases X with
    | msl key g off n =>
      simp only [lmsb]
      cases hk:H key with
      | none=>exact .inr (.inr (by trivial))
      | some o =>
        rw [hs key o hk]
        cases o with
        | row=>exact .inl ⟨_,_,rfl,rfl⟩
        | map es=>exact .inr (.inr (by trivial))
        | it _=>exact .inr (.inr (by trivial))
    | _=>exact .inr (.inr (by trivial))
  case b2s x =>
    simp only [lop,lb2s]
    cases hsrc:srcOf H 1 (x.get tm) with
    | none=>exact .inr (.inr (by trivial))
    | some src =>
      rw [src_sub hs hsrc]
      exact .inl ⟨_,_,rfl,rfl⟩
  case call f xs =>
    refine .inr (.inl ⟨_,(xs.map (Rd.get tm)).all (sok H' 8)=true,f,_,_,rfl,fun hp=>?_⟩)
    obtain ⟨h1,h2⟩:=soks_mono hs hp
    exact ⟨h1,by simp only [lop,h2]⟩
  case callv f xs =>
    simp only [lop,lcallv]
    generalize f.get tm=F
    cases F with
    | fn f cap =>
      refine .inr (.inl ⟨_,(xs.map (Rd.get tm)++cap).all (sok H' 8)=true,f,_,_,rfl,fun hp=>?_⟩)
      obtain ⟨h1,h2⟩:=soks_mono hs hp
      exact ⟨h1,by simp only [h2]⟩
    | _=>exact .inr (.inr (by trivial))
theorem hupd_comm {H:Heap} {k k':Key} {o o':LObj} (h:k≠k'):hupd (hupd H k o) k' o' = hupd (hupd H k' o') k o:=by
  funext x
  simp only [hupd]
  split<;>split<;>simp_all
theorem cupd_comm {c:Nat→Nat} {s s':Nat} (h:s≠s'):cupd (cupd c s) s' = cupd (cupd c s') s:=by
  funext x
  simp only [cupd]
  split<;>split<;>simp_all
theorem cupd_ne {c:Nat→Nat} {s s':Nat} (h:s'≠s):cupd c s s' = c s':=by simp [cupd,h]
theorem hupd_sub {H:Heap} {k:Key} {o:LObj} (hk:H k=none):Heap.sub H (hupd H k o):=by
  intro x y hx
  simp only [hupd]
  rw [if_neg]
  · exact hx
  · rintro rfl;rw [hk] at hx;cases hx
def okm (cnt:Nat→Nat):V→Prop
  | .mp k _ _=>k.2<cnt k.1
  | .msl k _ _ _=>k.2<cnt k.1
  | .mm k=>k.2<cnt k.1
  | _=>True
def mdOp (op:IOp) (tm:Nat→V) (cnt:Nat→Nat):Prop:=match op with
  | .load _ _ x=>okm cnt (x.get tm)
  | .mlk _ _ _ x _=>okm cnt (x.get tm)
  | .mlen x=>okm cnt (x.get tm)
  | .b2s x=>okm cnt (x.get tm)
  | .msb x=>okm cnt (x.get tm)
  | .appE _ _ _ y=>okm cnt (y.get tm)
  | _=>True
theorem cls_L_made {op:IOp} (h:op.cls = .L) (tm:Nat→V) {cnt:Nat→Nat} {H:Heap} (hm:mdOp op tm cnt) (s:Nat) (o:LObj):lop op tm (hupd H (s,cnt s) o)=lop op tm H:=by
  cases op<;>first|(cases h;done)|skip
  case load agg n x =>
    simp only [mdOp] at hm
    simp only [lop]
    generalize x.get tm=X at hm
    cases X with
    | mp k g off =>
      have hne:¬ k=(s,cnt s):=by rintro rfl;simp only [okm] at hm;omega
      simp only [lload,hupd,if_neg hne]
    | _=>rfl
  case mlk kt ok z x i =>
    simp only [mdOp] at hm
    simp only [lop]
    generalize x.get tm=X at hm
    cases X with
    | mm k =>
      have hne:¬ k=(s,cnt s):=by rintro rfl;simp only [okm] at hm;omega
      simp only [lmlk,hupd,if_neg hne]
    | _=>rfl
  case mlen x =>
    simp only [mdOp] at hm
    simp only [lop]
    generalize x.get tm=X at hm
    cases X with
    | mm k =>
      have hne:¬ k=(s,cnt s):=by rintro rfl;simp only [okm] at hm;omega
      simp only [lmlen,hupd,if_neg hne]
    | _=>rfl
  case b2s x =>
    simp only [mdOp] at hm
    simp only [lop,lb2s]
    generalize x.get tm=X at hm
    have:srcOf (hupd H (s,cnt s) o) 1 X=srcOf H 1 X:=by
      cases X with
      | msl k g off n =>
        have hne:¬ k=(s,cnt s):=by rintro rfl;simp only [okm] at hm;omega
        simp only [srcOf,hupd,if_neg hne]
      | _=>rfl
    rw [this]
  case msb x =>
    simp only [mdOp] at hm
    simp only [lop]
    generalize x.get tm=X at hm
    cases X with
    | msl k g off n =>
      have hne:¬ k=(s,cnt s):=by rintro rfl;simp only [okm] at hm;omega
      simp only [lmsb,hupd,if_neg hne]
    | _=>rfl
theorem cls_E {op:IOp} (h:op.cls = .E) (tm:Nat→V) {H H':Heap} (hs:Heap.sub H H') :
    (∃ pre ob mk,lop op tm H = .C pre ob mk∧lop op tm H' = .C pre ob mk)∨lop op tm H = .bad:=by
  cases op<;>first|(cases h;done)|skip
  case appE esz by_ x y =>
    simp only [lop,lappE]
    generalize x.get tm=X
    generalize y.get tm=Y
    cases X with
    | e0 =>
      simp only [lappx]
      cases hsrc:srcOf H esz Y with
      | none=>exact .inr rfl
      | some src =>
        rw [src_sub hs hsrc]
        exact .inl ⟨_,_,_,rfl,rfl⟩
    | _=>exact .inr rfl
theorem cls_E_made {op:IOp} (h:op.cls = .E) (tm:Nat→V) {cnt:Nat→Nat} {H:Heap} (hm:mdOp op tm cnt) (s:Nat) (o:LObj):lop op tm (hupd H (s,cnt s) o)=lop op tm H:=by
  cases op<;>first|(cases h;done)|skip
  case appE esz by_ x y =>
    simp only [mdOp] at hm
    simp only [lop,lappE]
    generalize x.get tm=X
    generalize y.get tm=Y at hm
    cases X with
    | e0 =>
      have:srcOf (hupd H (s,cnt s) o) esz Y=srcOf H esz Y:=by
        cases Y with
        | msl k g off n =>
          have hne:¬ k=(s,cnt s):=by rintro rfl;simp only [okm] at hm;omega
          simp only [srcOf,hupd,if_neg hne]
        | _=>rfl
      simp only [lappx,this,lapp]
    | _=>rfl
theorem cls_mk {op:IOp} (h:op.cls = .C∨op.cls = .E) (tm:Nat→V) {H H':Heap} (hs:Heap.sub H H') :
    (∃ pre ob mk,lop op tm H = .C pre ob mk∧lop op tm H' = .C pre ob mk)∨lop op tm H = .bad:=by
  rcases h with h|h
  · obtain ⟨e1,e2⟩:=cls_C h tm H H'
    rw [e1]
    cases hr:lop op tm H with
    | C pre ob mk=>exact .inl ⟨_,_,_,rfl,rfl⟩
    | bad=>exact .inr rfl
    | _=>rw [hr] at e2;cases e2
  · exact cls_E h tm hs
theorem cls_D {op:IOp} (h:op.cls = .D) (tm:Nat→V) {H:Heap} {k:Key} {o:LObj} (hk:H k=none) :
    (∃ pre v H',lop op tm H = .D pre v H'∧lop op tm (hupd H k o) = .D pre v (hupd H' k o)∧(∀ x,H' x=none↔H x=none))∨(∃ pre ob mk,lop op tm H = .C pre ob mk∧lop op tm (hupd H k o) = .C pre ob mk)∨lop op tm H = .bad:=by
  have sub:Heap.sub H (hupd H k o):=by
    intro x y hx
    simp only [hupd]
    rw [if_neg]
    · exact hx
    · rintro rfl;rw [hk] at hx;cases hx
  have dom:∀ key (ob ob':LObj),H key=some ob→∀ x,hupd H key ob' x=none↔H x=none:=by
    intro key ob ob' hkey x
    simp only [hupd]
    split
    · rename_i e;subst e;rw [hkey];simp
    · rfl
  cases op<;>first|(cases h;done)|skip
  case store n x y =>
    simp only [lop]
    generalize x.get tm=X
    generalize y.get tm=Y
    cases X with
    | mp key g off =>
      simp only [lstore]
      cases hkey:H key with
      | none=>exact .inr (.inr (by trivial))
      | some ob =>
        rw [sub key ob hkey]
        cases ob with
        | map es=>exact .inr (.inr (by trivial))
        | it _=>exact .inr (.inr (by trivial))
        | row g' esz cs =>
          simp only []
          by_cases e:g' = g
          · simp only [if_pos e]
            have hne:key≠k:=by rintro rfl;rw [hk] at hkey;cases hkey
            exact .inl ⟨_,_,_,rfl,by rw [hupd_comm (Ne.symm hne)],dom _ _ _ hkey⟩
          · simp only [if_neg e];exact .inr (.inr (by trivial))
    | _=>exact .inr (.inr (by trivial))
  case app esz by_ x y =>
    simp only [lop,lappx]
    generalize x.get tm=X
    generalize y.get tm=Y
    have hsrc:∀ src,srcOf H esz Y=some src→srcOf (hupd H k o) esz Y=some src:=by
      intro src hs
      cases Y with
      | msl key g off n =>
        simp only [srcOf] at hs ⊢
        cases hkey:H key with
        | none=>simp [hkey] at hs
        | some ob=>rw [sub key ob hkey];rw [hkey] at hs;exact hs
      | _=>exact hs
    cases hs:srcOf H esz Y with
    | none=>exact .inr (.inr (by trivial))
    | some src =>
      rw [hsrc src hs]
      simp only []
      cases X with
      | e0=>exact .inr (.inl ⟨_,_,_,rfl,rfl⟩)
      | msl key g off n =>
        simp only [lapp]
        cases hkey:H key with
        | none=>exact .inr (.inr (by trivial))
        | some ob =>
          rw [sub key ob hkey]
          cases ob with
          | map es=>exact .inr (.inr (by trivial))
          | it _=>exact .inr (.inr (by trivial))
          | row g' esz' cs =>
            have hne:key≠k:=by rintro rfl;rw [hk] at hkey;cases hkey
            exact .inl ⟨_,_,_,rfl,by simp only [];rw [hupd_comm (Ne.symm hne)],dom _ _ _ hkey⟩
      | _=>exact .inr (.inr (by trivial))
  case cpy=>exact .inr (.inr (by trivial))
  case mset kt x i v =>
    simp only [lop]
    generalize x.get tm=X
    cases X with
    | mm key =>
      simp only [lmset]
      cases hkey:H key with
      | none=>exact .inr (.inr (by trivial))
      | some ob =>
        rw [sub key ob hkey]
        cases ob with
        | row=>exact .inr (.inr (by trivial))
        | it=>exact .inr (.inr (by trivial))
        | map es =>
          have hne:key≠k:=by rintro rfl;rw [hk] at hkey;cases hkey
          exact .inl ⟨_,_,_,rfl,by simp only [];rw [hupd_comm (Ne.symm hne)],dom _ _ _ hkey⟩
    | _=>exact .inr (.inr (by trivial))
  case bad=>exact .inr (.inr (by trivial))
end
end Go.Lg

namespace Go.Lg
open Go Go.RowKit
def compat:Cls→Cls→Bool
  | .A,_|_,.A=>true
  | .B,.B | .B,.L | .L,.B | .L,.L=>true
  | .B,.C | .L,.C | .C,.C | .D,.C | .E,.C=>true
  | .B,.E | .L,.E | .C,.E | .E,.E=>true
  | .C,.L | .E,.L=>true
  | _,_=>false
section
variable {P:Program} {σ σ1 σ2:St} {tm:Nat→V}
theorem RStep.put {s:Nat} {r:LRes} {v:V} {σ':St} {d:Option Nat} {u:V} (h:RStep P (σ.put d u) s r v σ'):∃ σ0,RStep P σ s r v σ0∧σ' = σ0.put d u:=by
  cases r with
  | A pre x=>obtain ⟨h1,h2,h3⟩:=h;exact ⟨σ,⟨h1,h2,rfl⟩,h3⟩
  | C pre o mk=>obtain ⟨h1,h2,h3⟩:=h;exact ⟨_,⟨h1,h2,rfl⟩,h3⟩
  | D pre x H'=>obtain ⟨h1,h2,h3⟩:=h;exact ⟨_,⟨h1,h2,rfl⟩,h3⟩
  | call pre f a b=>obtain ⟨h1,h2,h3,h4⟩:=h;exact ⟨σ,⟨h1,h2,h3,rfl⟩,h4⟩
  | bad=>exact h.elim
theorem RStep.put' {s:Nat} {r:LRes} {v:V} {σ0:St} {d:Option Nat} {u:V} (h:RStep P σ s r v σ0):RStep P (σ.put d u) s r v (σ0.put d u):=by
  cases r with
  | A pre x=>obtain ⟨h1,h2,h3⟩:=h;exact ⟨h1,h2,by rw [h3]⟩
  | C pre o mk=>obtain ⟨h1,h2,h3⟩:=h;exact ⟨h1,h2,by rw [h3];rfl⟩
  | D pre x H'=>obtain ⟨h1,h2,h3⟩:=h;exact ⟨h1,h2,by rw [h3];rfl⟩
  | call pre f a b=>obtain ⟨h1,h2,h3,h4⟩:=h;exact ⟨h1,h2,h3,by rw [h4]⟩
  | bad=>exact h.elim
theorem RStep.tm_eq {s:Nat} {r:LRes} {v:V} {σ':St} (h:RStep P σ s r v σ'):σ'.tm=σ.tm:=by
  cases r with
  | A pre x=>obtain ⟨h1,h2,h3⟩:=h;rw [h3]
  | C pre o mk=>obtain ⟨h1,h2,h3⟩:=h;rw [h3]
  | D pre x H'=>obtain ⟨h1,h2,h3⟩:=h;rw [h3]
  | call pre f a b=>obtain ⟨h1,h2,h3,h4⟩:=h;rw [h4]
  | bad=>exact h.elim
theorem RStep.same {s:Nat} {r:LRes} {v:V} {σ':St} (hr:isB r=true) (h:RStep P σ s r v σ'):σ' = σ∧∀ σ0 s0,RStep P σ0 s0 r v σ0:=by
  cases r with
  | A pre x=>obtain ⟨h1,h2,h3⟩:=h;exact ⟨h3,fun σ0 s0=>⟨h1,h2,rfl⟩⟩
  | C=>cases hr
  | D=>cases hr
  | call pre f a b=>obtain ⟨h1,h2,h3,h4⟩:=h;exact ⟨h4,fun σ0 s0=>⟨h1,h2,h3,rfl⟩⟩
  | bad=>exact h.elim
theorem isA_isB {r:LRes} (h:isA r=true):isB r=true:=by cases r<;>first|rfl|cases h
theorem cls_B' {op:IOp} (h:op.cls = .B∨op.cls = .L) {H H':Heap} (hs:Heap.sub H H'):isB (lop op tm H)=true∧∀ {s v σ'},RStep P σ s (lop op tm H) v σ'→∀ σ0 s0,RStep P σ0 s0 (lop op tm H') v σ0:=by
  rcases cls_B h tm hs with ⟨pre,x,e1,e2⟩|⟨pre,pre',f,a,b,e1,e2⟩|e
  · rw [e1,e2]
    refine ⟨rfl,?_⟩
    rintro s v σ' ⟨h1,h2,h3⟩ σ0 s0
    exact ⟨h1,h2,rfl⟩
  · rw [e1]
    refine ⟨rfl,?_⟩
    rintro s v σ' ⟨h1,h2,h3,h4⟩ σ0 s0
    obtain ⟨h5,h6⟩:=e2 h1
    rw [h6]
    exact ⟨h5,h2,h3,rfl⟩
  · rw [e]
    exact ⟨rfl,fun h=>h.elim⟩
theorem swap0 {si sj:Nat} {oi oj:IOp} {v u:V} (hne:si≠sj) (hc:compat oi.cls oj.cls=true) (hwf:WF σ) (hmd:mdOp oj tm σ.cnt) (hi:RStep P σ si (lop oi tm σ.H) v σ1) (hj:RStep P σ1 sj (lop oj tm σ1.H) u σ2) :
    ∃ σ1',RStep P σ sj (lop oj tm σ.H) u σ1'∧RStep P σ1' si (lop oi tm σ1'.H) v σ2:=by
  have fresh:∀ s,σ.H (s,σ.cnt s)=none:=fun s=>hwf s _ (Nat.le_refl _)
  -- the second one is of class A
  by_cases cj:oj.cls = .A
  · obtain ⟨e1,e2⟩:=cls_A cj tm σ.H σ1.H
    rw [e1] at hj
    obtain ⟨e3,e4⟩:=RStep.same (isA_isB e2) hj
    subst e3
    exact ⟨σ,e4 _ _,hi⟩
  by_cases ci:oi.cls = .A
  · obtain ⟨_,e2⟩:=cls_A ci tm σ.H σ.H
    obtain ⟨e3,e4⟩:=RStep.same (isA_isB e2) hi
    subst e3
    refine ⟨σ2,hj,?_⟩
    rw [(cls_A ci tm σ1.H σ2.H).1]
    exact e4 _ _
  have hoi:(oi.cls = .B∨oi.cls = .L)∨(oi.cls = .C∨oi.cls = .E)∨oi.cls = .D:=by
    cases h:oi.cls<;>simp_all
  -- the first one makes an object
  have mk1:oi.cls = .C∨oi.cls = .E→∃ pre2 ob2 mk2,lop oi tm σ.H = .C pre2 ob2 mk2∧pre2∧v=mk2 (si,σ.cnt si)∧σ1=⟨σ.tm,hupd σ.H (si,σ.cnt si) ob2,cupd σ.cnt si⟩∧∀ H',Heap.sub σ.H H'→lop oi tm H' = .C pre2 ob2 mk2:=by
    intro h
    rcases cls_mk h tm (fun _ _ h=>h:Heap.sub σ.H σ.H) with ⟨pre2,ob2,mk2,e1,_⟩|e1
    · rw [e1] at hi
      obtain ⟨i1,i2,i3⟩:=hi
      refine ⟨pre2,ob2,mk2,e1,i1,i2,i3,fun H' hs=>?_⟩
      rcases cls_mk h tm hs with ⟨p3,o3,m3,f1,f2⟩|f1
      · rw [e1] at f1;cases f1;exact f2
      · rw [e1] at f1;cases f1
    · rw [e1] at hi;exact hi.elim
  -- the second one makes an object
  by_cases cmk:oj.cls = .C∨oj.cls = .E
  · have e1:lop oj tm σ1.H=lop oj tm σ.H:=by
      rcases cmk with cC|cE
      · exact (cls_C cC tm σ.H σ1.H).1
      · rcases hoi with h|h|h
        · obtain ⟨b1,b2⟩:=cls_B' (P:=P) (σ:=σ) (tm:=tm) h (fun _ _ h=>h:Heap.sub σ.H σ.H)
          rw [(RStep.same b1 hi).1]
        · obtain ⟨p2,o2,m2,_,_,_,e,_⟩:=mk1 h
          rw [e]
          exact cls_E_made cE tm hmd si o2
        · rw [h,cE] at hc;cases hc
    rw [e1] at hj
    rcases cls_mk cmk tm (fun _ _ h=>h:Heap.sub σ.H σ.H) with ⟨pre,ob,mk,hr,_⟩|hr
    case inr=>rw [hr] at hj;exact hj.elim
    rw [hr] at hj
    obtain ⟨j1,j2,j3⟩:=hj
    have sub:Heap.sub σ.H (hupd σ.H (sj,σ.cnt sj) ob):=hupd_sub (fresh sj)
    rcases hoi with h|h|hcl
    · obtain ⟨b1,b2⟩:=cls_B' (P:=P) (σ:=σ) (tm:=tm) h sub
      obtain ⟨e3,e4⟩:=RStep.same b1 hi
      subst e3
      exact ⟨_,by rw [hr];exact ⟨j1,j2,rfl⟩,by rw [j3];exact b2 hi _ _⟩
    · obtain ⟨pre2,ob2,mk2,_,i1,i2,i3,i4⟩:=mk1 h
      subst i3
      refine ⟨_,by rw [hr];exact ⟨j1,by rw [j2];simp only [cupd_ne (Ne.symm hne)],rfl⟩,?_⟩
      simp only []
      rw [i4 _ sub]
      refine ⟨i1,by rw [i2];simp only [cupd_ne hne],?_⟩
      rw [j3]
      simp only [cupd_ne hne,cupd_ne (Ne.symm hne)]
      rw [hupd_comm (by intro h;exact hne (Prod.mk.inj h).1),cupd_comm hne]
    · rcases cls_D hcl tm (o:=ob) (fresh sj) with ⟨pre2,x2,H2,d1,d2,d3⟩|⟨pre2,ob2,mk2,d1,d2⟩|d
      · rw [d1] at hi
        obtain ⟨i1,i2,i3⟩:=hi
        subst i3
        exact ⟨_,by rw [hr];exact ⟨j1,j2,rfl⟩,by simp only [];rw [d2];exact ⟨i1,i2,j3⟩⟩
      · rw [d1] at hi
        obtain ⟨i1,i2,i3⟩:=hi
        subst i3
        refine ⟨_,by rw [hr];exact ⟨j1,by rw [j2];simp only [cupd_ne (Ne.symm hne)],rfl⟩,?_⟩
        simp only []
        rw [d2]
        refine ⟨i1,by rw [i2];simp only [cupd_ne hne],?_⟩
        rw [j3]
        simp only [cupd_ne hne,cupd_ne (Ne.symm hne)]
        rw [hupd_comm (by intro h;exact hne (Prod.mk.inj h).1),cupd_comm hne]
      · rw [d] at hi;exact hi.elim
  -- the second one reads
  have hoj:oj.cls = .B∨oj.cls = .L∨oj.cls = .D:=by
    cases h:oj.cls<;>simp_all
  rcases hoi with h|h|h
  · have hojr:oj.cls = .B∨oj.cls = .L:=by
      rcases hoj with hj' | hj' | hj'
      · exact .inl hj'
      · exact .inr hj'
      · rcases h with h|h<;>rw [h,hj'] at hc<;>cases hc
    obtain ⟨b1,b2⟩:=cls_B' (P:=P) (σ:=σ) (tm:=tm) h (fun _ _ h=>h:Heap.sub σ.H σ.H)
    obtain ⟨e3,e4⟩:=RStep.same b1 hi
    subst e3
    obtain ⟨b3,b4⟩:=cls_B' (P:=P) (σ:=σ1) (tm:=tm) hojr (fun _ _ h=>h:Heap.sub σ1.H σ1.H)
    obtain ⟨e5,e6⟩:=RStep.same b3 hj
    subst e5
    exact ⟨σ2,hj,hi⟩
  · have hojL:oj.cls = .L:=by
      rcases hoj with hj' | hj' | hj'
      · rcases h with h|h<;>rw [h,hj'] at hc<;>cases hc
      · exact hj'
      · rcases h with h|h<;>rw [h,hj'] at hc<;>cases hc
    obtain ⟨p2,o2,m2,_,_,_,e,_⟩:=mk1 h
    have e1:lop oj tm σ1.H=lop oj tm σ.H:=by rw [e];exact cls_L_made hojL tm hmd si o2
    rw [e1] at hj
    obtain ⟨b3,b4⟩:=cls_B' (P:=P) (σ:=σ) (tm:=tm) (.inr hojL) (fun _ _ h=>h:Heap.sub σ.H σ.H)
    obtain ⟨e5,e6⟩:=RStep.same b3 hj
    subst e5
    exact ⟨σ,e6 _ _,hi⟩
  · rcases hoj with hj' | hj' | hj'<;>rw [h,hj'] at hc<;>cases hc
def apartO (x y:LOp):Bool :=
  (match x.dst with|some d=>!(y.slots.contains d) && y.dst != some d|none=>true) && (match y.dst with|some d=>!(x.slots.contains d)|none=>true)
theorem dput_comm {f:Nat→V} {d e:Option Nat} {v u:V} (h:∀ t,d=some t→e≠some t):dput (dput f d v) e u=dput (dput f e u) d v:=by
  cases d with
  | none=>rfl
  | some d =>
    cases e with
    | none=>rfl
    | some e =>
      have hne:e≠d:=fun he=>h d rfl (by rw [he])
      funext x
      simp only [dput,tupd]
      split<;>split<;>simp_all
theorem gd_congr {tm tm':Nat→V} {o:LOp} (h:∀ t∈o.slots,tm' t=tm t):gd tm' o.guard=gd tm o.guard:=by
  cases hg:o.guard with
  | none=>rfl
  | some x =>
    obtain ⟨t,want⟩:=x
    simp only [gd]
    rw [h t (by simp [LOp.slots,hg])]
theorem op_congr {tm tm':Nat→V} {o:LOp} {H:Heap} (h:∀ t∈o.slots,tm' t=tm t):lop o.op tm' H=lop o.op tm H :=
  lop_congr fun t ht=>h t (by simp only [LOp.slots,List.mem_append];exact .inr ht)
theorem swap {si sj:Nat} {oi oj:LOp} (hne:si≠sj) (hc:compat oi.op.cls oj.op.cls=true) (hap:apartO oi oj=true) (hwf:WF σ) (hmd:mdOp oj.op σ.tm σ.cnt) (hi:LStep P si oi σ σ1) (hj:LStep P sj oj σ1 σ2) :
    ∃ σ1',LStep P sj oj σ σ1'∧LStep P si oi σ1' σ2:=by
  have h1:∀ t,oi.dst=some t→t∉oj.slots:=by
    intro t ht;simp [apartO,ht] at hap;exact hap.1.1
  have h2:∀ t,oi.dst=some t→oj.dst≠some t:=by
    intro t ht;simp [apartO,ht] at hap;exact hap.1.2
  have h3:∀ t,oj.dst=some t→t∉oi.slots:=by
    intro t ht;simp [apartO,ht] at hap;exact hap.2
  have ki:∀ (f:Nat→V) (u:V),∀ t∈oi.slots,dput f oj.dst u t=f t:=by
    intro f u t ht
    cases hd:oj.dst with
    | none=>rfl
    | some d =>
      simp only [dput,tupd]
      rw [if_neg]
      rintro rfl;exact h3 t hd ht
  have kj:∀ (f:Nat→V) (u:V),∀ t∈oj.slots,dput f oi.dst u t=f t:=by
    intro f u t ht
    cases hd:oi.dst with
    | none=>rfl
    | some d =>
      simp only [dput,tupd]
      rw [if_neg]
      rintro rfl;exact h1 t hd ht
  rcases hi with ⟨gi,v,τ,ri,rfl⟩|⟨gi,rfl⟩
  · have htm:τ.tm=σ.tm:=ri.tm_eq
    rcases hj with ⟨gj,u,τ2,rj,rfl⟩|⟨gj,rfl⟩
    · have gj':gd σ.tm oj.guard=some true:=by
        rw [← gj];simp only [St.put];rw [gd_congr (kj τ.tm v),htm]
      have elop:lop oj.op (τ.put oi.dst v).tm (τ.put oi.dst v).H=lop oj.op σ.tm τ.H:=by
        simp only [St.put];rw [op_congr (kj τ.tm v),htm]
      rw [elop] at rj
      obtain ⟨τ3,rk,rfl⟩:=RStep.put rj
      obtain ⟨τ1,r1,r2⟩:=swap0 hne hc hwf hmd ri rk
      refine ⟨τ1.put oj.dst u,.inl ⟨gj',u,τ1,r1,rfl⟩,.inl ⟨?_,v,τ3.put oj.dst u,?_,?_⟩⟩
      · simp only [St.put];rw [gd_congr (ki τ1.tm u),r1.tm_eq];exact gi
      · have e2:lop oi.op (τ1.put oj.dst u).tm (τ1.put oj.dst u).H=lop oi.op σ.tm τ1.H:=by
          simp only [St.put];rw [op_congr (ki τ1.tm u),r1.tm_eq]
        rw [e2]
        exact r2.put'
      · simp only [St.put];rw [dput_comm h2]
    · have gj':gd σ.tm oj.guard=some false:=by
        rw [← gj];simp only [St.put];rw [gd_congr (kj τ.tm v),htm]
      refine ⟨σ.put oj.dst (.tup []),.inr ⟨gj',rfl⟩,.inl ⟨?_,v,τ.put oj.dst (.tup []),?_,?_⟩⟩
      · simp only [St.put];rw [gd_congr (ki σ.tm (.tup []))];exact gi
      · have e2:lop oi.op (σ.put oj.dst (.tup [])).tm (σ.put oj.dst (.tup [])).H=lop oi.op σ.tm σ.H:=by
          simp only [St.put];rw [op_congr (ki σ.tm (.tup []))]
        rw [e2]
        exact ri.put'
      · simp only [St.put];rw [dput_comm h2]
  · rcases hj with ⟨gj,u,τ2,rj,rfl⟩|⟨gj,rfl⟩
    · have gj':gd σ.tm oj.guard=some true:=by
        rw [← gj];simp only [St.put];rw [gd_congr (kj σ.tm (.tup []))]
      have elop:lop oj.op (σ.put oi.dst (.tup [])).tm (σ.put oi.dst (.tup [])).H=lop oj.op σ.tm σ.H:=by
        simp only [St.put];rw [op_congr (kj σ.tm (.tup []))]
      rw [elop] at rj
      obtain ⟨τ3,rk,rfl⟩:=RStep.put rj
      refine ⟨τ3.put oj.dst u,(.inl ⟨gj',u,τ3,rk,rfl⟩),.inr ⟨?_,?_⟩⟩
      · simp only [St.put];rw [gd_congr (ki τ3.tm u),rk.tm_eq];exact gi
      · simp only [St.put];rw [dput_comm h2]
    · have gj':gd σ.tm oj.guard=some false:=by
        rw [← gj];simp only [St.put];rw [gd_congr (kj σ.tm (.tup []))]
      refine ⟨σ.put oj.dst (.tup []),.inr ⟨gj',rfl⟩,.inr ⟨?_,?_⟩⟩
      · simp only [St.put];rw [gd_congr (ki σ.tm (.tup []))];exact gi
      · simp only [St.put];rw [dput_comm h2]
theorem RStep.wf {op:IOp} {s:Nat} {v:V} {σ':St} {tm:Nat→V} (hwf:WF σ) (h:RStep P σ s (lop op tm σ.H) v σ'):WF σ':=by
  have fresh:∀ s,σ.H (s,σ.cnt s)=none:=fun s=>hwf s _ (Nat.le_refl _)
  have newC:∀ (o:LObj),WF ⟨σ.tm,hupd σ.H (s,σ.cnt s) o,cupd σ.cnt s⟩:=by
    intro o s' n hn
    simp only [cupd] at hn
    simp only [hupd]
    by_cases he:(s',n)=(s,σ.cnt s)
    · injection he with e1 e2
      subst e1;rw [if_pos rfl] at hn;omega
    · rw [if_neg he]
      refine hwf s' n ?_
      split at hn
      · rename_i e;subst e;omega
      · exact hn
  cases hcl:op.cls with
  | A =>
    obtain ⟨e,_⟩:=RStep.same (isA_isB (cls_A hcl tm σ.H σ.H).2) h
    rw [e];exact hwf
  | B =>
    obtain ⟨e,_⟩:=RStep.same (cls_B' (P:=P) (σ:=σ) (.inl hcl) (fun _ _ h=>h:Heap.sub σ.H σ.H)).1 h
    rw [e];exact hwf
  | L =>
    obtain ⟨e,_⟩:=RStep.same (cls_B' (P:=P) (σ:=σ) (.inr hcl) (fun _ _ h=>h:Heap.sub σ.H σ.H)).1 h
    rw [e];exact hwf
  | E =>
    rcases cls_E hcl tm (fun _ _ h=>h:Heap.sub σ.H σ.H) with ⟨pre,ob,mk,e1,_⟩|e1
    · rw [e1] at h;rw [h.2.2];exact newC ob
    · rw [e1] at h;exact h.elim
  | C =>
    have c2:=(cls_C hcl tm σ.H σ.H).2
    cases hr:lop op tm σ.H with
    | A=>rw [hr] at c2;cases c2
    | D=>rw [hr] at c2;cases c2
    | call=>rw [hr] at c2;cases c2
    | bad=>rw [hr] at h;exact h.elim
    | C pre ob mk=>rw [hr] at h;rw [h.2.2];exact newC ob
  | D =>
    rcases cls_D hcl tm (o:=.row 0 0 []) (fresh s) with ⟨pre2,x2,H2,d1,d2,d3⟩|⟨pre2,ob2,mk2,d1,d2⟩|d
    · rw [d1] at h
      rw [h.2.2]
      intro s' n hn
      exact (d3 _).2 (hwf s' n hn)
    · rw [d1] at h;rw [h.2.2];exact newC ob2
    · rw [d] at h;exact h.elim
theorem LStep.wf {s:Nat} {o:LOp} {σ':St} (hwf:WF σ) (h:LStep P s o σ σ'):WF σ':=by
  rcases h with ⟨_,v,τ,r,rfl⟩|⟨_,rfl⟩
  · exact (r.wf hwf).put
  · exact hwf.put
end
end Go.Lg

namespace Go.Lg
open Go Go.RowKit
def siteOf (rid i:Nat):Nat:=rid*4096+i
def Run (P:Program) (rid:Nat) (lo:Nat→LOp):List Nat→St→St→Prop
  | [],σ,σ'=>σ' = σ
  | i::r,σ,σ'=>∃ σ1,LStep P (siteOf rid i) (lo i) σ σ1∧Run P rid lo r σ1 σ'
section
variable {P:Program} {E:Env} {σ σ1 σe:St} {a:Act} {w:World} {rid:Nat} {lo:Nat→LOp} {ops:Array Oper} {Q:Exit→Act→World→Prop}
def indep (x y:LOp):Bool:=compat x.op.cls y.op.cls && apartO x y
theorem okm_mono {c c':Nat→Nat} (h:∀ s,c s≤c' s) {v:V} (hv:okm c v):okm c' v:=by
  cases v with
  | mp k g off=>exact Nat.lt_of_lt_of_le hv (h _)
  | msl k g off n=>exact Nat.lt_of_lt_of_le hv (h _)
  | mm k=>exact Nat.lt_of_lt_of_le hv (h _)
  | _=>trivial
theorem mdOp_mono {op:IOp} {tm tm':Nat→V} {c c':Nat→Nat} (h:∀ s,c s≤c' s) (ht:∀ t∈op.slots,tm' t=tm t) (hm:mdOp op tm c):mdOp op tm' c':=by
  cases op with
  | load agg n x =>
    simp only [mdOp] at hm ⊢
    rw [Rd.get_congr fun t h'=>ht t h']
    exact okm_mono h hm
  | mlk kt ok z x i =>
    simp only [mdOp] at hm ⊢
    rw [Rd.get_congr fun t h'=>ht t (by simp [IOp.slots,h'])]
    exact okm_mono h hm
  | mlen x =>
    simp only [mdOp] at hm ⊢
    rw [Rd.get_congr fun t h'=>ht t h']
    exact okm_mono h hm
  | b2s x =>
    simp only [mdOp] at hm ⊢
    rw [Rd.get_congr fun t h'=>ht t h']
    exact okm_mono h hm
  | msb x =>
    simp only [mdOp] at hm ⊢
    rw [Rd.get_congr fun t h'=>ht t h']
    exact okm_mono h hm
  | appE e b x y =>
    simp only [mdOp] at hm ⊢
    rw [Rd.get_congr fun t h'=>ht t (by simp [IOp.slots,h'])]
    exact okm_mono h hm
  | _=>trivial
theorem RStep.cnt_le {s:Nat} {r:LRes} {v:V} {σ':St} (h:RStep P σ s r v σ'):∀ x,σ.cnt x≤σ'.cnt x:=by
  intro x
  cases r with
  | A pre u=>rw [h.2.2];exact Nat.le_refl _
  | C pre o mk =>
    rw [h.2.2]
    simp only [cupd]
    split
    · rename_i e;subst e;omega
    · exact Nat.le_refl _
  | D pre u H'=>rw [h.2.2];exact Nat.le_refl _
  | call pre f a b=>rw [h.2.2.2];exact Nat.le_refl _
  | bad=>exact h.elim
theorem LStep.md {s:Nat} {o y:LOp} {σ':St} (h:LStep P s o σ σ') (hap:apartO o y=true) (hm:mdOp y.op σ.tm σ.cnt):mdOp y.op σ'.tm σ'.cnt:=by
  have h1:∀ t,o.dst=some t→t∉y.op.slots:=by
    intro t ht;simp [apartO,ht,LOp.slots] at hap;exact hap.1.1.2
  have key:∀ (f:Nat→V) (u:V),∀ t∈y.op.slots,dput f o.dst u t=f t:=by
    intro f u t ht
    cases hd:o.dst with
    | none=>rfl
    | some d =>
      simp only [dput,tupd]
      rw [if_neg]
      rintro rfl;exact h1 t hd ht
  rcases h with ⟨_,v,τ,r,rfl⟩|⟨_,rfl⟩
  · refine mdOp_mono (r.cnt_le) (fun t ht=>?_) hm
    simp only [St.put]
    rw [key τ.tm v t ht,r.tm_eq]
  · refine mdOp_mono (fun _=>Nat.le_refl _) (fun t ht=>?_) hm
    simp only [St.put]
    rw [key σ.tm _ t ht]
theorem bubble {i:Nat} {post:List Nat}:∀ {pre:List Nat} {σ:St},WF σ→mdOp (lo i).op σ.tm σ.cnt→Run P rid lo (pre++i::post) σ σe→(∀ j∈pre,j≠i∧indep (lo j) (lo i)=true) →
    ∃ σ1,LStep P (siteOf rid i) (lo i) σ σ1∧Run P rid lo (pre++post) σ1 σe
  | [],σ,_,_,h,_=>h
  | j::pre,σ,hwf,hmd,h,hp=>by
    obtain ⟨τ,h1,h2⟩:=h
    obtain ⟨hne,hi⟩:=hp j (List.mem_cons_self ..)
    simp only [indep,Bool.and_eq_true] at hi
    obtain ⟨τ1,h3,h4⟩:=bubble (h1.wf hwf) (h1.md hi.2 hmd) h2 fun k hk=>hp k (List.mem_cons_of_mem _ hk)
    obtain ⟨σ1,h5,h6⟩:=swap (by simp only [siteOf];omega) hi.1 hi.2 hwf hmd h1 h3
    exact ⟨σ1,h5,τ1,h6,h4⟩
theorem Sim.wf (h:Sim E σ a w):WF σ:=by
  obtain ⟨g,h⟩:=h
  exact fun s n hn=>(h.fresh s n hn).1
theorem Rep.okm {g:Gh} {v:Value} {x:V} (hs:SimG E g σ a w) (h:Rep g w v x):okm σ.cnt x:=by
  cases x with
  | mp k gen off =>
    obtain ⟨b,cap,hr,_⟩:=h.mp_inv
    rcases Nat.lt_or_ge k.2 (σ.cnt k.1) with hlt|hge
    · exact hlt
    · have:=(hs.fresh k.1 k.2 hge).2 gen
      rw [hr] at this;cases this
  | msl k gen off n =>
    obtain ⟨c,A,blk,cap,_,hr,_⟩:=h.msl_inv
    rcases Nat.lt_or_ge k.2 (σ.cnt k.1) with hlt|hge
    · exact hlt
    · have:=(hs.fresh k.1 k.2 hge).2 gen
      rw [hr] at this;cases this
  | mm k =>
    obtain ⟨b,cap,hr,_⟩:=h.mm_inv
    rcases Nat.lt_or_ge k.2 (σ.cnt k.1) with hlt|hge
    · exact hlt
    · have:=(hs.fresh k.1 k.2 hge).2 0
      rw [hr] at this;cases this
  | _=>trivial
def conR:Rd→Bool
  | .con (.mp ..) | .con (.msl ..) | .con (.mm ..)=>false
  | _=>true
def conOk (op:IOp):Bool:=match op with
  | .load _ _ x | .appE _ _ _ x | .mlk _ _ _ x _ | .mlen x | .b2s x | .msb x=>conR x
  | _=>true
theorem Sim.md {op:IOp} (h:Sim E σ a w) (hc:conOk op=true):mdOp op σ.tm σ.cnt:=by
  obtain ⟨g,hs⟩:=h
  have key:∀ x:Rd,conR x=true→Go.Lg.okm σ.cnt (x.get σ.tm):=by
    intro x hx
    cases x with
    | tmp t=>exact Rep.okm hs (hs.tm t)
    | con v=>cases v<;>first|trivial|cases hx
  cases op with
  | load agg n x=>exact key x hc
  | mlk kt ok z x i=>exact key x hc
  | mlen x=>exact key x hc
  | b2s x=>exact key x hc
  | msb x=>exact key x hc
  | appE e b x y=>exact key y hc
  | _=>trivial
theorem Sim.drew (h:Sim E σ a w):Sim E σ a w.drew:=by
  obtain ⟨g,h⟩:=h
  exact ⟨g,h.grow_same (BelowD.refl _ _).drew⟩
def opOk (N:Nat) (ops:Array Oper) (o:Oper):Bool :=
  (match o.dst with|some d=>decide (d<N)|none=>true) &&
  (match o.guard with|none=>true|some (j,_)=>match (ops[j]?).bind (·.dst) with|some d=>decide (d<N)|none=>false)
theorem opOk_dst {N:Nat} {o:Oper} (h:opOk N ops o=true):∀ t,o.dst=some t→t<N:=by
  intro t ht
  simp [opOk,ht] at h
  exact h.1
theorem rep_undef (g:Gh) (w:World):Rep g w undef (.tup []):=.imm _ _ (.tup #[] [] rfl fun j v c h=>by simp at h)
theorem wanted_gd {o:Oper} (hok:opOk E.N ops o=true) (hs:Sim E σ a w):∀ b,gd σ.tm (trO P ops o).guard=some b→Region.wanted o (yielded ops a.tmps)=b:=by
  intro b hb
  unfold Region.wanted
  cases hg:o.guard with
  | none=>simp [trO,hg,gd] at hb ⊢;exact hb.symm▸rfl
  | some x =>
    obtain ⟨j,want⟩:=x
    simp only [trO,hg] at hb
    simp only [opOk,hg,Bool.and_eq_true] at hok
    have h2:=hok.2
    cases hj:(ops[j]?).bind (·.dst) with
    | none=>simp [hj] at h2
    | some d =>
      simp only [hj,Option.getD_some,gd] at hb h2
      split at hb
      · rename_i b' hb'
        obtain ⟨g,hs⟩:=hs
        have hr:=hs.tm d
        have hdb:d<HB:=Nat.lt_of_lt_of_le (by simpa using h2) hs.size.2
        rw [hb',slotV_lo hdb] at hr
        have hv:=hr.bool_inv
        have hlt:d<a.tmps.size:=by rw [hs.size.1];simpa using h2
        have hv':a.tmps[d]? = some (.bool b'):=by
          rw [Array.getElem?_eq_getElem hlt]
          rw [Array.getD_eq_getD_getElem?,Array.getElem?_eq_getElem hlt] at hv
          simpa using hv
        cases hb
        simp only [yielded,hj,Option.bind_some,hv']
        cases b'<;>cases want<;>rfl
      · rename_i hb'
        obtain ⟨g,hs⟩:=hs
        have hr:=hs.tm d
        have hdb:d<HB:=Nat.lt_of_lt_of_le (by simpa using h2) hs.size.2
        rw [hb',slotV_lo hdb] at hr
        obtain ⟨vs,hv,hsz,_⟩:=hr.tup_inv
        have hlt:d<a.tmps.size:=by rw [hs.size.1];simpa using h2
        have hv':a.tmps[d]? = some (.tuple vs):=by
          rw [Array.getElem?_eq_getElem hlt]
          rw [Array.getD_eq_getD_getElem?,Array.getElem?_eq_getElem hlt] at hv
          simpa using hv
        cases hb
        simp only [yielded,hj,Option.bind_some,hv']
        cases want<;>rfl
      · cases hb
theorem litR_nocall {op:IOp} {tm:Nat→V} {pre:Prop} {f:FuncId} {args sargs:List V}:¬ litR op tm = .call pre f args sargs:=by
  intro h
  unfold litR at h
  repeat' split at h
  all_goals cases h
theorem wpOp_of_step [EOk P E] {i:Nat} {o:Oper} {K:Act→World→Prop} (hi:ops[i]? = some o) (hok:opOk E.N ops o=true) (hs:Sim E σ a w) (h:LStep P (siteOf rid i) (trO P ops o) σ σ1)
    (hK:∀ a' w',Sim E σ1 a' w'→K a' w'):wpOp P ops Q i K a w:=by
  have hd:=opOk_dst hok
  have hw:=wanted_gd (P:=P) hok hs
  unfold wpOp
  simp only [hi]
  rcases h with ⟨hg,v,τ,r,e⟩|⟨hg,e⟩
  · rw [hw _ hg]
    simp only [if_true]
    obtain ⟨g,hs⟩:=hs
    left
    have r':RStep P σ (siteOf rid i) (lop (trE P ops o) σ.tm σ.H) v τ:=r
    rcases lop_trE P ops o σ.tm σ.H with q|q|q
    · rw [q] at r'
      refine step_wp hs o (siteOf rid i) hd (K:=fun σ'=>σ' = σ1) (vres_iff.2 ⟨v,τ,r',e.symm⟩) ?_
      rintro σ' a' w' rfl hs'
      exact hK _ _ hs'
    · rw [q] at r';exact r'.elim
    · rw [q] at r'
      refine step_wplit hs o (siteOf rid i) hd (K:=fun σ'=>σ' = σ1) (vres_iff.2 ⟨v,τ,r',e.symm⟩) ?_
      rintro σ' a' w' rfl hs'
      exact hK _ _ hs'
  · rw [hw _ hg]
    simp only [Bool.false_eq_true,if_false]
    obtain ⟨g,hs⟩:=hs
    subst e
    exact hK _ _ ⟨g,hs.put hd (rep_undef _ _)⟩
def callX (P:Program) (s:Nat) (f:FuncId) (args sargs:List V) (d:Option Nat) (K:St→Prop) (σ:St):Prop :=
  callV P f args sargs d K σ∨ownV P s f args sargs d K σ∨mutV P f args d K σ∨instV P f args d K σ
def vresM (P:Program) (σ:St) (s:Nat) (d:Option Nat) (K:St→Prop):LRes→Prop
  | .A pre v=>vres P σ s d K (.A pre v)
  | .C pre o mk=>vres P σ s d K (.C pre o mk)
  | .D pre v H'=>vres P σ s d K (.D pre v H')
  | .call pre f args sargs=>pre∧callX P s f args sargs d K σ
  | .bad=>False
def vstepM (P:Program) (s:Nat) (o:LOp) (K:St→Prop) (σ:St):Prop :=
  match gd σ.tm o.guard with
  | some true=>vresM P σ s o.dst K (lop o.op σ.tm σ.H)
  | some false=>K (σ.put o.dst (.tup []))
  | none=>False
theorem vresM_cases {s:Nat} {d:Option Nat} {K:St→Prop} {r:LRes} (h:vresM P σ s d K r):vres P σ s d K r∨∃ pre f args sargs,r = .call pre f args sargs∧pre∧(ownV P s f args sargs d K σ∨mutV P f args d K σ∨instV P f args d K σ):=by
  cases r with
  | call pre f args sargs =>
    obtain ⟨hp,h|h⟩:=h
    · exact .inl ⟨hp,h⟩
    · exact .inr ⟨pre,f,args,sargs,rfl,hp,h⟩
  | bad=>exact h.elim
  | _=>exact .inl h
theorem wpOp_of_vstepM [EOk P E] {i:Nat} {o:Oper} {K:Act→World→Prop} {KL:St→Prop} (hi:ops[i]? = some o) (hok:opOk E.N ops o=true) (hs:Sim E σ a w) (h:vstepM P (siteOf rid i) (trO P ops o) KL σ)
    (hK:∀ σ' a' w',KL σ'→Sim E σ' a' w'→K a' w'):wpOp P ops Q i K a w:=by
  have hd:=opOk_dst hok
  have hw:=wanted_gd (P:=P) hok hs
  unfold wpOp
  simp only [hi]
  unfold vstepM at h
  split at h
  · rename_i hg
    rw [hw _ hg]
    simp only [if_true]
    obtain ⟨g,hs⟩:=hs
    left
    have h':vresM P σ (siteOf rid i) o.dst KL (lop (trE P ops o) σ.tm σ.H):=h
    rcases lop_trE P ops o σ.tm σ.H with q|q|q
    · rw [q] at h'
      rcases vresM_cases h' with h|⟨pre,f,args,sargs,hl,hp,h|h|h⟩
      · exact step_wp hs o (siteOf rid i) hd h hK
      · exact step_own hs o (siteOf rid i) hd hl hp h hK
      · exact step_mut hs o (siteOf rid i) hd hl hp h hK
      · exact step_inst hs o (siteOf rid i) hd hl h hK
    · rw [q] at h';exact h'.elim
    · rw [q] at h'
      rcases vresM_cases h' with h|⟨pre,f,args,sargs,hl,hp,h⟩
      · exact step_wplit hs o (siteOf rid i) hd h hK
      · exact absurd hl litR_nocall
  · rename_i hg
    rw [hw _ hg]
    simp only [Bool.false_eq_true,if_false]
    obtain ⟨g,hs⟩:=hs
    exact hK _ _ _ h ⟨g,hs.put hd (rep_undef _ _)⟩
  · exact h.elim
def vstepL (P:Program) (s:Nat) (o:LOp) (K:St→Prop) (σ:St):Prop :=
  match o.guard with
  | none=>vres P σ s o.dst K (litR o.op σ.tm)
  | some _=>False
theorem wpOp_of_vstepL {i:Nat} {o:Oper} {K:Act→World→Prop} {KL:St→Prop} (hi:ops[i]? = some o) (hok:opOk E.N ops o=true) (hs:Sim E σ a w) (h:vstepL P (siteOf rid i) (trO P ops o) KL σ)
    (hK:∀ σ' a' w',KL σ'→Sim E σ' a' w'→K a' w'):wpOp P ops Q i K a w:=by
  have hd:=opOk_dst hok
  have hw:=wanted_gd (P:=P) hok hs
  unfold wpOp
  simp only [hi]
  unfold vstepL at h
  split at h
  · rename_i hg
    rw [hw true (by rw [hg];rfl)]
    simp only [if_true]
    obtain ⟨g,hs⟩:=hs
    left
    have h:vres P σ (siteOf rid i) o.dst KL (litR (tr P o) σ.tm):=by
      have h':vres P σ (siteOf rid i) o.dst KL (litR (trE P ops o) σ.tm):=h
      rcases litR_trE P ops o σ.tm with q|q
      · rw [q] at h';exact h'
      · rw [q] at h';exact h'.elim
    exact step_wplit hs o (siteOf rid i) hd h hK
  · exact h.elim
def inlC (P:Program) (o:LOp) (K:St→Prop) (σ:St):Prop :=
  gd σ.tm o.guard=some true∧∃ pre f args sargs,lop o.op σ.tm σ.H = .call pre f args sargs∧instV P f args o.dst K σ
def appC (s:Nat) (o:LOp) (K:St→Prop) (σ:St):Prop:=o.guard=none∧(appK o K σ∨itK s o K σ)
def vstepC (P:Program) (s:Nat) (o:LOp) (K:St→Prop) (σ:St):Prop :=
  ∃ σ',Ent σ σ'∧(vstepM P s o K σ'∨inlC P o K σ'∨vstepL P s o K σ'∨appC s o K σ')
theorem wpOp_of_vstepC [EOk P E] {i:Nat} {o:Oper} {K:Act→World→Prop} {KL:St→Prop} (hi:ops[i]? = some o) (hok:opOk E.N ops o=true) (hs:Sim E σ a w) (h:vstepC P (siteOf rid i) (trO P ops o) KL σ)
    (hK:∀ σ' a' w',KL σ'→Sim E σ' a' w'→K a' w'):wpOp P ops Q i K a w:=by
  obtain ⟨σ',he,h|⟨hg,pre,f,args,sargs,hl,h⟩|h|h⟩:=h
  · exact wpOp_of_vstepM hi hok (he _ _ _ hs) h hK
  · have hs:=he _ _ _ hs
    have hd:=opOk_dst hok
    have hw:=wanted_gd (P:=P) hok hs
    unfold wpOp
    simp only [hi]
    rw [hw _ hg]
    simp only [if_true]
    obtain ⟨g,hs⟩:=hs
    left
    have hl':lop (trE P ops o) σ'.tm σ'.H = .call pre f args sargs:=hl
    rcases lop_trE P ops o σ'.tm σ'.H with q|q|q
    · rw [q] at hl'
      exact step_inst hs o (siteOf rid i) hd hl' h hK
    · rw [q] at hl';cases hl'
    · rw [q] at hl';exact absurd hl' litR_nocall
  · exact wpOp_of_vstepL hi hok (he _ _ _ hs) h hK
  · have hs:=he _ _ _ hs
    have hd:=opOk_dst hok
    have hw:=wanted_gd (P:=P) hok hs
    obtain ⟨hg,h⟩:=h
    unfold wpOp
    simp only [hi]
    rw [hw true (by rw [hg];rfl)]
    simp only [if_true]
    obtain ⟨g,hs⟩:=hs
    left
    rcases h with h|h
    · refine step_app hs o hd ?_ hK
      obtain ⟨esz,by_,x,y,key,gen,q,n,m,cs,ys,htr,h⟩:=h
      refine ⟨esz,by_,x,y,key,gen,q,n,m,cs,ys,?_,h⟩
      have htr:trE P ops o = .app esz by_ x y:=htr
      show tr P o = .app esz by_ x y
      unfold trE at htr
      cases hq:tr P o with
      | app e b x' y' =>
        rw [hq] at htr
        simp only at htr
        split at htr
        · cases htr
        · exact htr
      | bsl n' zs ps =>
        rw [hq] at htr
        simp only at htr
        split at htr<;>cases htr
      | _=>rw [hq] at htr;exact htr
    · have htr:∀ i,isIt i=true→trE P ops o=i→tr P o=i:=by
        intro i hi htr
        unfold trE at htr
        cases hq:tr P o with
        | app e b x' y' =>
          rw [hq] at htr
          simp only at htr
          split at htr<;>subst htr<;>cases hi
        | bsl n' zs ps =>
          rw [hq] at htr
          simp only at htr
          split at htr<;>subst htr<;>cases hi
        | _=>first|(rw [hq] at htr;exact htr)|(rw [hq] at htr;simp only at htr;repeat' (split at htr);all_goals (subst htr;first|rfl|cases hi))
      refine step_it hs o (siteOf rid i) hd ?_ hK
      rcases h with ⟨x,es,h1,h2⟩|⟨x,key,left,last,h1,h2⟩|⟨x,key,left,p,h1,h2⟩
      · exact .inl ⟨x,es,htr _ rfl h1,h2⟩
      · exact .inr (.inl ⟨x,key,left,last,htr _ rfl h1,h2⟩)
      · exact .inr (.inr ⟨x,key,left,p,htr _ rfl h1,h2⟩)
def depsOf (o:Oper):List Nat:=o.after.toList.filterMap fun e=>if Region.binds .any e then some e.on else none
def befs (ops:List Oper):List Nat :=
  ops.foldl (fun acc o=>acc++[(depsOf o).foldl (fun s k=>s ||| 2 ^ k ||| acc.getD k 0) 0]) []
def drawOk (ops:Array Oper) (los:List LOp) (bs:List Nat):Bool :=
  (List.range ops.size).all fun i=>match ops[i]?,los[i]? with
    | some o,some y =>
      (depsOf o).all (fun k=>decide (k<i)) && conOk y.op &&
      (List.range i).all fun j=>match los[j]? with
        | some x=>if (bs.getD i 0).testBit j then (depsOf o).any (fun k=>k == j || (decide (j<k) && (bs.getD k 0).testBit j)) else indep x y
        | none=>false
    | _,_=>false
structure Inv (ops:Array Oper) (bs:List Nat) (listed:Array Bool) (rem:List Nat):Prop where
  size:listed.size=ops.size
  sorted:rem.Pairwise (· < ·)
  mem:∀ k,k∈rem↔k<ops.size∧listed.getD k true=false
  down:∀ k,k<ops.size→listed.getD k true=true→∀ j,j<k→(bs.getD k 0).testBit j=true→listed.getD j true=true
theorem ready_iff {listed:Array Bool} {i:Nat}:i∈Region.ready .any ops listed↔i<ops.size∧listed.getD i true=false∧∃ o,ops[i]? = some o∧∀ k∈depsOf o,listed.getD k false=true:=by
  unfold Region.ready
  simp only [List.mem_filter,List.mem_range,Bool.and_eq_true,Bool.not_eq_true']
  constructor
  · rintro ⟨h1,h2,h3⟩
    refine ⟨h1,h2,?_⟩
    cases ho:ops[i]? with
    | none=>simp [ho] at h3
    | some o =>
      refine ⟨o,rfl,fun k hk=>?_⟩
      simp only [ho,Option.map_some,Option.getD_some] at h3
      simp only [depsOf,List.mem_filterMap] at hk
      obtain ⟨e,he,hk⟩:=hk
      split at hk
      · rename_i hb
        cases hk
        have:=Array.all_eq_true_iff_forall_mem.1 h3 e (by simpa using he)
        simpa [hb] using this
      · cases hk
  · rintro ⟨h1,h2,o,ho,h3⟩
    refine ⟨h1,h2,?_⟩
    simp only [ho,Option.map_some,Option.getD_some]
    refine Array.all_eq_true_iff_forall_mem.2 fun e he=>?_
    by_cases hb:Region.binds .any e=true
    · have:=h3 e.on (by simp only [depsOf,List.mem_filterMap];exact ⟨e,by simpa using he,by simp [hb]⟩)
      simp [this]
    · simp [hb]
theorem any_sound [EOk P E] {los:List LOp} {bs:List Nat} (hlos:los=ops.toList.map (trO P ops)) (hlo:∀ i x,los[i]? = some x→lo i=x) (hall:ops.toList.all (opOk E.N ops)=true) (hchk:drawOk ops los bs=true) (hQ:∀ a' w',Sim E σe a' w'→Q .normal a' w') :
    ∀ (fuel:Nat) (listed:Array Bool) (rem:List Nat) (σ:St) (a:Act) (w:World),rem.length=fuel→Inv ops bs listed rem→Run P rid lo rem σ σe→Sim E σ a w→wpAny P .any ops Q fuel listed a w:=by
  have los_get:∀ (i:Nat) (o:Oper),ops[i]? = some o→los[i]? = some (trO P ops o):=by
    intro i o ho
    rw [hlos,List.getElem?_map,Array.getElem?_toList,ho];rfl
  have chk:∀ (i:Nat) (o:Oper),ops[i]? = some o→((∀ k∈depsOf o,k<i)∧conOk (trO P ops o).op=true)∧∀ j,j<i→∃ x,los[j]? = some x∧((bs.getD i 0).testBit j=true→∃ k∈depsOf o,k=j∨j<k∧(bs.getD k 0).testBit j=true)∧((bs.getD i 0).testBit j=false→indep x (trO P ops o)=true):=by
    intro i o ho
    have hlt:i<ops.size:=by
      rcases Nat.lt_or_ge i ops.size with h|h
      · exact h
      · rw [Array.getElem?_eq_none h] at ho;cases ho
    have:=List.all_eq_true.1 hchk i (List.mem_range.2 hlt)
    simp only [ho,los_get i o ho,Bool.and_eq_true] at this
    obtain ⟨⟨c1,c0⟩,c2⟩:=this
    refine ⟨⟨fun k hk=>by simpa using List.all_eq_true.1 c1 k hk,c0⟩,fun j hj=>?_⟩
    have c3:=List.all_eq_true.1 c2 j (List.mem_range.2 hj)
    cases hx:los[j]? with
    | none=>simp [hx] at c3
    | some x =>
      simp only [hx] at c3
      refine ⟨x,rfl,fun hb=>?_,fun hb=>?_⟩
      · rw [if_pos hb] at c3
        obtain ⟨k,hk,hk2⟩:=List.any_eq_true.1 c3
        refine ⟨k,hk,?_⟩
        simpa using hk2
      · rw [hb] at c3
        exact c3
  have empty:∀ (listed:Array Bool) (rem:List Nat),Inv ops bs listed rem→Region.ready .any ops listed=[]→rem=[]:=by
    intro listed rem hinv hr
    cases rem with
    | nil=>rfl
    | cons i r =>
      exfalso
      obtain ⟨h1,h2⟩:=(hinv.mem i).1 (List.mem_cons_self ..)
      have hmin:∀ b∈r,i<b:=fun b hb=>List.rel_of_pairwise_cons hinv.sorted hb
      have:i∈Region.ready .any ops listed:=ready_iff.2 ⟨h1,h2,ops[i],Array.getElem?_eq_getElem h1,fun k hk=>by
        have hki:=(chk i _ (Array.getElem?_eq_getElem h1)).1.1 k hk
        have hnm:k∉i::r:=by
          intro hm
          rcases List.mem_cons.1 hm with rfl|hm
          · omega
          · have:=hmin k hm;omega
        have hk':¬ (listed.getD k true=false):=fun h=>hnm ((hinv.mem k).2 ⟨by omega,h⟩)
        have hks:k<listed.size:=by rw [hinv.size];omega
        simp only [Array.getD_eq_getD_getElem?,Array.getElem?_eq_getElem hks,Option.getD_some] at hk' ⊢
        simpa using hk'⟩
      rw [hr] at this;cases this
  intro fuel
  induction fuel with
  | zero =>
    intro listed rem σ a w hlen hinv hrun hs
    have hrem:rem=[]:=List.eq_nil_of_length_eq_zero hlen
    subst hrem
    refine ⟨?_,by cases hrun;exact hQ _ _ hs⟩
    rw [List.eq_nil_iff_forall_not_mem]
    intro i hi
    obtain ⟨h1,h2,_⟩:=ready_iff.1 hi
    have:=(hinv.mem i).2 ⟨h1,h2⟩
    cases this
  | succ fuel ih =>
    intro listed rem σ a w hlen hinv hrun hs
    refine ⟨fun hr=>?_,fun i hi=>?_⟩
    · have:=empty listed rem hinv hr
      subst this
      cases hlen
    · obtain ⟨h1,h2,o,ho,hdeps⟩:=ready_iff.1 hi
      have him:=(hinv.mem i).2 ⟨h1,h2⟩
      obtain ⟨pre,post,rfl⟩:=List.append_of_mem him
      have hsorted:=hinv.sorted
      rw [List.pairwise_append] at hsorted
      obtain ⟨s1,s2,s3⟩:=hsorted
      obtain ⟨s4,s5⟩:=List.pairwise_cons.1 s2
      have hbit:∀ j,j<i→listed.getD j true=false→(bs.getD i 0).testBit j=false:=by
        intro j hj hl
        by_cases hb:(bs.getD i 0).testBit j=true
        · obtain ⟨x,_,hx,_⟩:=(chk i o ho).2 j hj
          obtain ⟨k,hk,hk2⟩:=hx hb
          have hki:=(chk i o ho).1.1 k hk
          have hkl:=hdeps k hk
          have hks:k<listed.size:=by rw [hinv.size];omega
          have hkl':listed.getD k true=true:=by
            simp only [Array.getD_eq_getD_getElem?,Array.getElem?_eq_getElem hks,Option.getD_some] at hkl ⊢
            exact hkl
          rcases hk2 with rfl|hk2
          · rw [hkl'] at hl;cases hl
          · have:=hinv.down k (by omega) hkl' j hk2.1 hk2.2
            rw [this] at hl;cases hl
        · simpa using hb
      obtain ⟨σ1,hst,hrest⟩:=bubble hs.wf (hs.md (by rw [hlo i _ (los_get i o ho)];exact (chk i o ho).1.2)) hrun (fun j hj=>by
        have hji:j<i:=s3 j hj i (List.mem_cons_self ..)
        have hjl:=((hinv.mem j).1 (List.mem_append_left _ hj)).2
        obtain ⟨x,hx,_,hind⟩:=(chk i o ho).2 j hji
        refine ⟨by omega,?_⟩
        rw [hlo j x hx,hlo i _ (los_get i o ho)]
        exact hind (hbit j hji hjl))
      rw [hlo i _ (los_get i o ho)] at hst
      have hok:opOk E.N ops o=true:=List.all_eq_true.1 hall o (by
        rw [List.mem_iff_getElem?]
        exact ⟨i,by rw [Array.getElem?_toList];exact ho⟩)
      refine wpOp_of_step ho hok hs hst fun a' w' hs'=>ih _ (pre++post) σ1 a' w' ?_ ?_ hrest hs'
      · simp at hlen ⊢;omega
      · have hget:∀ k,(listed.setIfInBounds i true).getD k true=if k=i then true else listed.getD k true:=by
          intro k
          simp only [Array.getD_eq_getD_getElem?]
          by_cases e:k=i
          · subst e
            have:k<listed.size:=by rw [hinv.size];exact h1
            simp [this]
          · rw [if_neg e,Array.getElem?_setIfInBounds_ne (Ne.symm e)]
        refine ⟨by simpa using hinv.size,?_,fun k=>?_,fun k hk hl j hj hb=>?_⟩
        · rw [List.pairwise_append]
          exact ⟨s1,s5,fun x hx y hy=>s3 x hx y (List.mem_cons_of_mem _ hy)⟩
        · rw [hget]
          have hm:=hinv.mem k
          simp only [List.mem_append,List.mem_cons] at hm ⊢
          by_cases e:k=i
          · subst e
            rw [if_pos rfl]
            constructor
            · rintro (h|h)
              · have:=s3 k h k (List.mem_cons_self ..);omega
              · have:=s4 k h;omega
            · rintro ⟨_,h⟩;cases h
          · rw [if_neg e,← hm]
            constructor
            · rintro (h|h)
              · exact .inl h
              · exact .inr (.inr h)
            · rintro (h|h|h)
              · exact .inl h
              · exact absurd h e
              · exact .inr h
        · rw [hget] at hl ⊢
          by_cases e:k=i
          · subst e
            split
            · rfl
            · by_cases hjl:listed.getD j true=true
              · exact hjl
              · have:=hbit j hj (by simpa using hjl)
                rw [this] at hb;cases hb
          · rw [if_neg e] at hl
            split
            · rfl
            · exact hinv.down k hk hl j hj hb
end
end Go.Lg
