/-
  LgA LgB LgC LgD LgE LgF LgG LgH LgI: put together.
-/
import Derived.WalkKit
import Derived.Below
import Derived.KernelRfl
import Derived.Maps.RangeRun
import Derived.WalkLawsBesides
import Derived.Laws.AppendOwn
import Derived.Laws.MakeOwn
set_option linter.unusedSimpArgs false
set_option linter.unusedVariables false
namespace Go.Lg
open Go Go.RowKit
abbrev Key:=Nat × Nat
inductive V where
  | int (k:IntKind) (n:Int)
  | bool (b:Bool)
  | str (s:ByteArray)
  | agg (cs:List V)
  | tup (vs:List V)
  | sl (n:Nat) (cs:List V)
  | e0
  | msl (key:Key) (g off n:Nat)
  | msv (key:Key) (g off n esz:Nat)
  | qsl (key:Key) (g esz q n:Nat)
  | nilp
  | ip (cs:List V) (off:Nat)
  | mp (key:Key) (g off:Nat)
  | ifc (t:TypeId) (v:V)
  | nili
  | fn (f:FuncId) (cap:List V)
  | nilf
  | nilm
  | mm (key:Key)
  | im (es:List (V × V))
  | junk
inductive LObj where
  | row (g esz:Nat) (cs:List V)
  | map (es:List (V × V))
  | it (left:List (V × V)) (last:Option (V × V))
def StOk (ents:Array MapEntry) (clock:Nat):Prop:=(∀ n∈ents.toList.map (·.born),n<clock)∧(ents.toList.map (·.born)).Nodup
theorem StOk.nil (clock:Nat):StOk #[] clock:=⟨fun n h=>(by cases h),List.nodup_nil⟩
theorem StOk.push {ents:Array MapEntry} {clock:Nat} (h:StOk ents clock) (k v:Value):StOk (ents.push ⟨k,v,clock⟩) (clock+1):=by
  have e:(ents.push ⟨k,v,clock⟩).toList.map (·.born)=ents.toList.map (·.born)++[clock]:=by simp
  refine ⟨?_,?_⟩
  · rw [e];intro n hn
    rcases List.mem_append.1 hn with hn|hn
    · exact Nat.lt_succ_of_lt (h.1 n hn)
    · rw [List.mem_singleton.1 hn];exact Nat.lt_succ_self _
  · rw [e,List.nodup_append]
    refine ⟨h.2,by simp,fun a ha b hb=>?_⟩
    rw [List.mem_singleton.1 hb]
    exact Nat.ne_of_lt (h.1 a ha)
theorem StOk.modify {ents:Array MapEntry} {clock:Nat} (h:StOk ents clock) (j:Nat) (k v:Value):StOk (ents.modify j fun e=>{ e with key:=k,val:=v }) clock:=by
  have e:(ents.modify j fun e=>{ e with key:=k,val:=v }).toList.map (·.born)=ents.toList.map (·.born):=by
    apply List.ext_getElem?
    intro i
    rw [List.getElem?_map,List.getElem?_map,Array.getElem?_toList,Array.getElem?_toList,Array.getElem?_modify]
    split
    · cases ents[i]?<;>rfl
    · rfl
  unfold StOk
  rw [e];exact h
abbrev Heap:=Key→Option LObj
def V.one:V→Bool
  | .agg _ | .tup _ | .junk=>false
  | _=>true
def V.cells:V→List V
  | .agg cs=>cs
  | v=>[v]
inductive RepI (imm:Nat→Prop) (w:World):Value→V→Prop
  | int (k n):RepI imm w (.int k n) (.int k n)
  | bool (b):RepI imm w (.bool b) (.bool b)
  | str (s):RepI imm w (.string s) (.str s)
  | agg (vs:Array Value) (cs:List V):vs.size=cs.length→(∀ (j:Nat) (v:Value) (c:V),vs[j]? = some v→cs[j]? = some c→RepI imm w v c)→RepI imm w (.agg vs) (.agg cs)
  | tup (vs:Array Value) (cs:List V):vs.size=cs.length→(∀ (j:Nat) (v:Value) (c:V),vs[j]? = some v→cs[j]? = some c→RepI imm w v c)→RepI imm w (.tuple vs) (.tup cs)
  | sl0 (A c):RepI imm w (.slice A 0 c) (.sl 0 [])
  | sl (b off n c:Nat) (us:Array Value) (T fz) (cs:List V):imm b→w.heap[b]? = some (.cells us T fz)→off+cs.length≤us.size→n≤c →
      (∀ (j:Nat) (v:Value) (x:V),us[off+j]? = some v→cs[j]? = some x→RepI imm w v x)→RepI imm w (.slice (some ⟨b,off,none⟩) n c) (.sl n cs)
  | e0 (A):RepI imm w (.slice A 0 0) .e0
  | nilp:RepI imm w (.pointer none) .nilp
  | ip (b o off:Nat) (us:Array Value) (T fz) (cs:List V):imm b→w.heap[b]? = some (.cells us T fz)→o+cs.length≤us.size →
      (∀ (j:Nat) (v:Value) (x:V),us[o+j]? = some v→cs[j]? = some x→RepI imm w v x)→RepI imm w (.pointer (some ⟨b,o+off,none⟩)) (.ip cs off)
  | ifc (t v x):RepI imm w v x→RepI imm w (.iface t v) (.ifc t x)
  | nili:RepI imm w .nilIface .nili
  | fn (f) (vs:Array Value) (cs:List V):vs.size=cs.length→(∀ (j:Nat) (v:Value) (c:V),vs[j]? = some v→cs[j]? = some c→RepI imm w v c)→RepI imm w (.func (.func f) #[] vs) (.fn f cs)
  | nilf:RepI imm w .nilFunc .nilf
  | nilm:RepI imm w (.map none) .nilm
  | im (b clock:Nat) (ents:Array MapEntry) (es:List (V × V)):imm b→w.heap[b]? = some (.map ents clock)→ents.size=es.length →
      (∀ (j:Nat) (e:MapEntry) (p:V × V),ents[j]? = some e→es[j]? = some p→RepI imm w e.key p.1) →
      (∀ (j:Nat) (e:MapEntry) (p:V × V),ents[j]? = some e→es[j]? = some p→RepI imm w e.val p.2)→StOk ents clock→RepI imm w (.map (some b)) (.im es)
  | junk (v):RepI imm w v .junk
theorem RepI.mono {imm imm':Nat→Prop} {w w':World} {v:Value} {x:V} (h:RepI imm w v x)
    (hi:∀ b,imm b→imm' b) (hb:∀ b,imm b→w'.heap[b]? = w.heap[b]?):RepI imm' w' v x:=by
  induction h with
  | int=>exact .int _ _
  | bool=>exact .bool _
  | str=>exact .str _
  | agg vs cs hs _ ih=>exact .agg vs cs hs ih
  | tup vs cs hs _ ih=>exact .tup vs cs hs ih
  | sl0=>exact .sl0 _ _
  | sl b off n c us T fz cs hm hw hl hc _ ih=>exact .sl b off n c us T fz cs (hi b hm) ((hb b hm).trans hw) hl hc ih
  | e0=>exact .e0 _
  | nilp=>exact .nilp
  | ip b o off us T fz cs hm hw hl _ ih=>exact .ip b o off us T fz cs (hi b hm) ((hb b hm).trans hw) hl ih
  | ifc t v x _ ih=>exact .ifc t v x ih
  | nili=>exact .nili
  | fn f vs cs hs _ ih=>exact .fn f vs cs hs ih
  | nilf=>exact .nilf
  | nilm=>exact .nilm
  | im b clock ents es hm hw hl _ _ hst ih1 ih2=>exact .im b clock ents es (hi b hm) ((hb b hm).trans hw) hl ih1 ih2 hst
  | junk=>exact .junk _
structure Gh where
  imm:Nat→Prop
  ref:Key→Nat→Option (Option Nat × Nat)
inductive Rep (g:Gh) (w:World):Value→V→Prop
  | imm (v x):RepI g.imm w v x→Rep g w v x
  | agg (vs:Array Value) (cs:List V):vs.size=cs.length→(∀ (j:Nat) (v:Value) (c:V),vs[j]? = some v→cs[j]? = some c→Rep g w v c)→Rep g w (.agg vs) (.agg cs)
  | tup (vs:Array Value) (cs:List V):vs.size=cs.length→(∀ (j:Nat) (v:Value) (c:V),vs[j]? = some v→cs[j]? = some c→Rep g w v c)→Rep g w (.tuple vs) (.tup cs)
  | ifc (t v x):Rep g w v x→Rep g w (.iface t v) (.ifc t x)
  | fn (f) (vs:Array Value) (cs:List V):vs.size=cs.length→(∀ (j:Nat) (v:Value) (c:V),vs[j]? = some v→cs[j]? = some c→Rep g w v c)→Rep g w (.func (.func f) #[] vs) (.fn f cs)
  | mp (key gen off b cap):g.ref key gen=some (some b,cap)→Rep g w (.pointer (some ⟨b,off,none⟩)) (.mp key gen off)
  | msl (key gen off n c A blk cap):g.ref key gen=some (blk,cap)→(off=0→c=cap)→n≤c→(∀ b,blk=some b→0<c→A=some ⟨b,off,none⟩)→(blk=none→c=0) →
      Rep g w (.slice A n c) (.msl key gen off n)
  | mm (key b cap):g.ref key 0=some (some b,cap)→Rep g w (.map (some b)) (.mm key)
  | msv (key gen off n esz c A b cap):g.ref key gen=some (some b,cap)→n≤c→(0<n→A=some ⟨b,off,none⟩)→Rep g w (.slice A n c) (.msv key gen off n esz)
  | qsl (key gen esz q n c A blk cap):g.ref key gen=some (blk,cap)→c+q=cap→n≤c→(∀ b,blk=some b→0<c→A=some ⟨b,q*esz,none⟩)→(blk=none→c=0) →
      Rep g w (.slice A n c) (.qsl key gen esz q n)
theorem Rep.mono {g g':Gh} {w w':World} {v:Value} {x:V} (h:Rep g w v x)
    (hi:∀ b,g.imm b→g'.imm b) (hb:∀ b,g.imm b→w'.heap[b]? = w.heap[b]?) (hr:∀ k n r,g.ref k n=some r→g'.ref k n=some r):Rep g' w' v x:=by
  induction h with
  | imm v x h=>exact .imm _ _ (h.mono hi hb)
  | agg vs cs hs _ ih=>exact .agg vs cs hs ih
  | tup vs cs hs _ ih=>exact .tup vs cs hs ih
  | ifc t v x _ ih=>exact .ifc t v x ih
  | fn f vs cs hs _ ih=>exact .fn f vs cs hs ih
  | mp key gen off b cap h=>exact .mp key gen off b cap (hr _ _ _ h)
  | msl key gen off n c A blk cap h h1 h2 h3 h4=>exact .msl key gen off n c A blk cap (hr _ _ _ h) h1 h2 h3 h4
  | msv key gen off n esz c A b cap h h1 h2=>exact .msv key gen off n esz c A b cap (hr _ _ _ h) h1 h2
  | qsl key gen esz q n c A blk cap h h1 h2 h3 h4=>exact .qsl key gen esz q n c A blk cap (hr _ _ _ h) h1 h2 h3 h4
  | mm key b cap h=>exact .mm key b cap (hr _ _ _ h)
theorem Rep.junk (g:Gh) (w:World) (v:Value):Rep g w v .junk:=.imm _ _ (.junk v)
section inversions
variable {g:Gh} {w:World} {v:Value}
theorem Rep.int_inv {k n} (h:Rep g w v (.int k n)):v = .int k n:=by
  cases h with|imm _ _ h=>cases h;rfl
theorem Rep.bool_inv {b} (h:Rep g w v (.bool b)):v = .bool b:=by
  cases h with|imm _ _ h=>cases h;rfl
theorem Rep.str_inv {b} (h:Rep g w v (.str b)):v = .string b:=by
  cases h with|imm _ _ h=>cases h;rfl
theorem Rep.nilp_inv (h:Rep g w v .nilp):v = .pointer none:=by
  cases h with|imm _ _ h=>cases h;rfl
theorem Rep.nili_inv (h:Rep g w v .nili):v = .nilIface:=by
  cases h with|imm _ _ h=>cases h;rfl
theorem Rep.agg_inv {cs} (h:Rep g w v (.agg cs)):∃ vs:Array Value,v = .agg vs∧vs.size=cs.length∧∀ (j:Nat) (v:Value) (c:V),vs[j]? = some v→cs[j]? = some c→Rep g w v c:=by
  cases h with
  | imm _ _ h=>cases h with|agg vs _ hs hj=>exact ⟨vs,rfl,hs,fun j v c h1 h2=>.imm _ _ (hj j v c h1 h2)⟩
  | agg vs _ hs hj=>exact ⟨vs,rfl,hs,hj⟩
theorem Rep.tup_inv {cs} (h:Rep g w v (.tup cs)):∃ vs:Array Value,v = .tuple vs∧vs.size=cs.length∧∀ (j:Nat) (v:Value) (c:V),vs[j]? = some v→cs[j]? = some c→Rep g w v c:=by
  cases h with
  | imm _ _ h=>cases h with|tup vs _ hs hj=>exact ⟨vs,rfl,hs,fun j v c h1 h2=>.imm _ _ (hj j v c h1 h2)⟩
  | tup vs _ hs hj=>exact ⟨vs,rfl,hs,hj⟩
theorem Rep.fn_inv {f cs} (h:Rep g w v (.fn f cs)):∃ vs:Array Value,v = .func (.func f) #[] vs∧vs.size=cs.length∧∀ (j:Nat) (v:Value) (c:V),vs[j]? = some v→cs[j]? = some c→Rep g w v c:=by
  cases h with
  | imm _ _ h=>cases h with|fn _ vs _ hs hj=>exact ⟨vs,rfl,hs,fun j v c h1 h2=>.imm _ _ (hj j v c h1 h2)⟩
  | fn _ vs _ hs hj=>exact ⟨vs,rfl,hs,hj⟩
theorem Rep.ifc_inv {t x} (h:Rep g w v (.ifc t x)):∃ u,v = .iface t u∧Rep g w u x:=by
  cases h with
  | imm _ _ h=>cases h with|ifc _ u _ h=>exact ⟨u,rfl,.imm _ _ h⟩
  | ifc _ u _ h=>exact ⟨u,rfl,h⟩
theorem Rep.sl_inv {n cs} (h:Rep g w v (.sl n cs)):∃ A c,v = .slice A n c∧RepI g.imm w (.slice A n c) (.sl n cs)∧n≤c:=by
  cases h with
  | imm _ _ h =>
    cases h with
    | sl0 A c=>exact ⟨A,c,rfl,.sl0 A c,Nat.zero_le _⟩
    | sl b off _ c us T fz _ h1 h2 h3 h4 h5=>exact ⟨_,c,rfl,.sl b off n c us T fz cs h1 h2 h3 h4 h5,h4⟩
theorem Rep.e0_inv (h:Rep g w v .e0):∃ A,v = .slice A 0 0:=by
  cases h with|imm _ _ h=>cases h with|e0 A=>exact ⟨A,rfl⟩
theorem Rep.mp_inv {k n off} (h:Rep g w v (.mp k n off)):∃ b cap,g.ref k n=some (some b,cap)∧v = .pointer (some ⟨b,off,none⟩):=by
  cases h with
  | imm _ _ h=>cases h
  | mp _ _ _ b cap h=>exact ⟨b,cap,h,rfl⟩
theorem Rep.msl_inv {k gen off n} (h:Rep g w v (.msl k gen off n)):∃ c A blk cap,v = .slice A n c∧g.ref k gen=some (blk,cap)∧(off=0→c=cap)∧n≤c ∧
    (∀ b,blk=some b→0<c→A=some ⟨b,off,none⟩)∧(blk=none→c=0):=by
  cases h with
  | imm _ _ h=>cases h
  | msl _ _ _ _ c A blk cap h h1 h2 h3 h4=>exact ⟨c,A,blk,cap,rfl,h,h1,h2,h3,h4⟩
theorem Rep.ip_inv {cs off} (h:Rep g w v (.ip cs off)):∃ b o us T fz,v = .pointer (some ⟨b,o+off,none⟩)∧g.imm b∧w.heap[b]? = some (.cells us T fz)∧o+cs.length≤us.size ∧
    ∀ (j:Nat) (v:Value) (x:V),us[o+j]? = some v→cs[j]? = some x→RepI g.imm w v x:=by
  cases h with
  | imm _ _ h=>cases h with|ip b o _ us T fz _ h1 h2 h3 h4=>exact ⟨b,o,us,T,fz,rfl,h1,h2,h3,h4⟩
theorem Rep.mm_inv {k} (h:Rep g w v (.mm k)):∃ b cap,g.ref k 0=some (some b,cap)∧v = .map (some b):=by
  cases h with
  | imm _ _ h=>cases h
  | mm _ b cap h=>exact ⟨b,cap,h,rfl⟩
theorem Rep.msv_inv {k gen off n esz} (h:Rep g w v (.msv k gen off n esz)):∃ c A b cap,v = .slice A n c∧g.ref k gen=some (some b,cap)∧n≤c∧(0<n→A=some ⟨b,off,none⟩):=by
  cases h with
  | imm _ _ h=>cases h
  | msv _ _ _ _ _ c A b cap h h1 h2=>exact ⟨c,A,b,cap,rfl,h,h1,h2⟩
theorem Rep.qsl_inv {k gen esz q n} (h:Rep g w v (.qsl k gen esz q n)):∃ c A blk cap,v = .slice A n c∧g.ref k gen=some (blk,cap)∧c+q=cap∧n≤c ∧
    (∀ b,blk=some b→0<c→A=some ⟨b,q*esz,none⟩)∧(blk=none→c=0):=by
  cases h with
  | imm _ _ h=>cases h
  | qsl _ _ _ _ _ c A blk cap h h1 h2 h3 h4=>exact ⟨c,A,blk,cap,rfl,h,h1,h2,h3,h4⟩
theorem Rep.qsl_msl {k gen esz q n} (h0:0<esz) (h:Rep g w v (.qsl k gen esz q n)):Rep g w v (.msl k gen (q*esz) n):=by
  obtain ⟨c,A,blk,cap,rfl,q1,q2,q3,q4,q5⟩:=h.qsl_inv
  refine .msl _ _ _ _ c A blk cap q1 (fun e=>?_) q3 q4 q5
  rcases Nat.mul_eq_zero.1 e with e|e<;>omega
theorem Rep.msl_qsl {k gen esz n} (h:Rep g w v (.msl k gen 0 n)):Rep g w v (.qsl k gen esz 0 n):=by
  obtain ⟨c,A,blk,cap,rfl,q1,q2,q3,q4,q5⟩:=h.msl_inv
  exact .qsl _ _ _ _ _ c A blk cap q1 (q2 rfl) q3 (fun b hb hc=>by rw [Nat.zero_mul];exact q4 b hb hc) q5
end inversions
def PK:Nat:=1125899906842624
structure BelowD (B:Nat) (w w':World):Prop extends Below B w w' where
  drawn:w.drawn≤w'.drawn
theorem BelowD.refl (B:Nat) (w:World):BelowD B w w:=⟨.refl B w,Nat.le_refl _⟩
theorem BelowD.trans {B:Nat} {a b c:World} (h:BelowD B a b) (k:BelowD B b c):BelowD B a c:=⟨h.toBelow.trans k.toBelow,Nat.le_trans h.drawn k.drawn⟩
theorem BelowD.mono {B B':Nat} {w w':World} (h:BelowD B w w') (hB:B'≤B):BelowD B' w w':=⟨h.toBelow.mono hB,h.drawn⟩
theorem BelowD.drew {B:Nat} {a w:World} (h:BelowD B a w):BelowD B a w.drew:=⟨h.toBelow.drew,Nat.le_trans h.drawn (Nat.le_succ _)⟩
theorem BelowD.alloc {B:Nat} {a w:World} (h:BelowD B a w) (hB:B≤w.heap.size) (o:Obj):BelowD B a (w.alloc o):=⟨h.toBelow.alloc hB o,h.drawn⟩
structure BelowF (B:Nat) (F:Nat→Prop) (w w':World):Prop where
  os:w'.os=w.os
  tape:w'.tape=w.tape
  output:w'.output=w.output
  size:w.heap.size≤w'.heap.size
  block:∀ k,k<B→¬ F k→w'.heap[k]? = w.heap[k]?
  drawn:w.drawn≤w'.drawn
theorem BelowF.refl (B:Nat) (F:Nat→Prop) (w:World):BelowF B F w w:=⟨rfl,rfl,rfl,Nat.le_refl _,fun _ _ _=>rfl,Nat.le_refl _⟩
theorem BelowF.trans {B:Nat} {F:Nat→Prop} {a b c:World} (h:BelowF B F a b) (k:BelowF B F b c):BelowF B F a c :=
  ⟨k.os.trans h.os,k.tape.trans h.tape,k.output.trans h.output,Nat.le_trans h.size k.size,fun i hi hf=>(k.block i hi hf).trans (h.block i hi hf),Nat.le_trans h.drawn k.drawn⟩
theorem BelowF.of {B:Nat} {F:Nat→Prop} {a b:World} (h:BelowD B a b):BelowF B F a b:=⟨h.os,h.tape,h.output,h.size,fun i hi _=>h.block i hi,h.drawn⟩
theorem BelowF.below {B:Nat} {a b:World} (h:BelowF B (fun _=>False) a b):BelowD B a b:=⟨⟨h.os,h.tape,h.output,h.size,fun i hi=>h.block i hi (fun h=>h)⟩,h.drawn⟩
def OwnB (B:Nat) (F:Nat→Prop) (key:Key) (b:Nat):Prop:=B≤b∨(PK≤key.1∧F b)
def MapOk (g:Gh) (w:World) (es:List (V × V)) (b:Nat):Prop :=
  ∃ (ents:Array MapEntry) (clock:Nat),w.heap[b]? = some (.map ents clock)∧ents.size=es.length∧(∀ (j:Nat) (e:MapEntry) (p:V × V),ents[j]? = some e→es[j]? = some p→Rep g w e.key p.1∧Rep g w e.val p.2)∧StOk ents clock
theorem MapOk.mono {g g':Gh} {w w':World} {es:List (V × V)} {b:Nat} (h:MapOk g w es b) (hb:w'.heap[b]? = w.heap[b]?) (hr:∀ v x,Rep g w v x→Rep g' w' v x):MapOk g' w' es b:=by
  obtain ⟨ents,clock,h1,h2,h3,h4⟩:=h
  exact ⟨ents,clock,hb.trans h1,h2,fun j e p he hp=>⟨hr _ _ (h3 j e p he hp).1,hr _ _ (h3 j e p he hp).2⟩,h4⟩
def ItOk (g:Gh) (w:World) (left:List (V × V)) (last:Option (V × V)) (r:Nat):Prop :=
  ∃ (b:Nat) (ents:Array MapEntry) (clock c0:Nat) (seen:Array Nat),g.imm b∧w.heap[b]? = some (.map ents clock)∧StOk ents clock∧clock≤c0∧w.heap[r]? = some (.mapIter (some b) clock seen c0) ∧
    (leftOf ents seen).size=left.length∧(∀ (j:Nat) (e:MapEntry) (p:V × V),(leftOf ents seen)[j]? = some e→left[j]? = some p→Rep g w e.key p.1∧Rep g w e.val p.2) ∧
    ∀ p,last=some p→∃ (seen0:Array Nat) (e:MapEntry),seen=seen0.push e.born∧c0=clock∧e∈ents.toList∧Rep g w e.key p.1∧Rep g w e.val p.2
theorem ItOk.mono {g g':Gh} {w w':World} {left:List (V × V)} {last:Option (V × V)} {r:Nat} (h:ItOk g w left last r) (hb:w'.heap[r]? = w.heap[r]?) (hi:∀ b,g.imm b→g'.imm b) (hbi:∀ b,g.imm b→w'.heap[b]? = w.heap[b]?) (hr:∀ v x,Rep g w v x→Rep g' w' v x):ItOk g' w' left last r:=by
  obtain ⟨b,ents,clock,c0,seen,h0,h1,h2,h3,h4,h5,h6,h7⟩:=h
  exact ⟨b,ents,clock,c0,seen,hi b h0,(hbi b h0).trans h1,h2,h3,hb.trans h4,h5,fun j e p he hp=>⟨hr _ _ (h6 j e p he hp).1,hr _ _ (h6 j e p he hp).2⟩,fun p hp=>by
    obtain ⟨seen0,e,g1,g2,g3,g4,g5⟩:=h7 p hp
    exact ⟨seen0,e,g1,g2,g3,hr _ _ g4,hr _ _ g5⟩⟩
def NoFz (n:Nat) (fz:Nat × Nat):Prop:=(∀ o,o<n→¬ (fz.1≤o∧o<fz.2))∧fz.1≤fz.2
def ObjRel (B:Nat) (F:Nat→Prop) (w:World) (g:Gh) (key:Key):LObj→Prop
  | .row gen esz cs=>∃ blk cap,g.ref key gen=some (blk,cap)∧(∀ m,gen<m→g.ref key m=none) ∧
    match blk with
    | none=>cs=[]∧cap=0
    | some b=>OwnB B F key b∧b<w.heap.size∧¬ g.imm b∧∃ (us:Array Value) (T:TypeId) (fz:Nat × Nat),w.heap[b]? = some (.cells us T fz)∧NoFz us.size fz ∧
        cs.length≤us.size∧cap*esz≤us.size∧∀ (j:Nat) (u:Value) (c:V),us[j]? = some u→cs[j]? = some c→Rep g w u c
  | .map es=>∃ b,g.ref key 0=some (some b,0)∧(∀ m,0<m→g.ref key m=none)∧OwnB B F key b∧b<w.heap.size∧¬ g.imm b∧MapOk g w es b
  | .it left last=>∃ b,g.ref key 0=some (some b,0)∧(∀ m,0<m→g.ref key m=none)∧OwnB B F key b∧b<w.heap.size∧¬ g.imm b∧ItOk g w left last b
def blkOf (g:Gh) (key:Key):LObj→Option Nat
  | .row gen _ _=>(g.ref key gen).bind (·.1)
  | .map _=>(g.ref key 0).bind (·.1)
  | .it _ _=>(g.ref key 0).bind (·.1)
structure St where
  tm:Nat→V
  H:Heap
  cnt:Nat→Nat
def HB:Nat:=100000
structure Env where
  B:Nat
  N:Nat
  w₀:World
  i₀:Nat→Prop
  F:Nat→Prop
  r₀:Key→Nat→Option (Option Nat × Nat)
  up:Nat→Value
def slotV (E:Env) (a:Act) (t:Nat):Value:=if t<HB then a.tmps.getD t undef else E.up (t - HB)
theorem slotV_lo {E:Env} {a:Act} {t:Nat} (h:t<HB):slotV E a t=a.tmps.getD t undef:=if_pos h
theorem slotV_hi {E:Env} {a:Act} (t:Nat):slotV E a (HB+t)=E.up t:=by
  unfold slotV
  rw [if_neg (by omega),Nat.add_sub_cancel_left]
structure SimG (E:Env) (g:Gh) (σ:St) (a:Act) (w:World):Prop where
  below:BelowF E.B E.F E.w₀ w
  sizeB:E.B≤w.heap.size
  size:a.tmps.size=E.N∧E.N≤HB
  defers:a.defers=[]
  tm:∀ t,Rep g w (slotV E a t) (σ.tm t)
  immlt:∀ b,g.imm b→b<w.heap.size
  imm0:∀ b,E.i₀ b→g.imm b
  immB:∀ b,b<E.B→g.imm b→E.i₀ b
  obj:∀ k o,σ.H k=some o→ObjRel E.B E.F w g k o
  apart:∀ k k' o o' b,σ.H k=some o→σ.H k' = some o'→blkOf g k o=some b→blkOf g k' o' = some b→k=k'
  fresh:∀ s n,σ.cnt s≤n→σ.H (s,n)=none∧∀ m,g.ref (s,n) m=none
  ref0:∀ k n r,PK≤k.1→E.r₀ k n=some r→g.ref k n=some r
def Sim (E:Env) (σ:St) (a:Act) (w:World):Prop:=∃ g,SimG E g σ a w
def tupd (f:Nat→V) (d:Nat) (v:V):Nat→V:=fun t=>if t=d then v else f t
def hupd (H:Heap) (k:Key) (o:LObj):Heap:=fun k'=>if k' = k then some o else H k'
def cupd (c:Nat→Nat) (s:Nat):Nat→Nat:=fun s'=>if s' = s then c s+1 else c s'
def dput (f:Nat→V) (d:Option Nat) (v:V):Nat→V:=match d with|some d=>tupd f d v|none=>f
structure St.le (σ' σ:St):Prop where
  tm:∀ t,σ'.tm t=σ.tm t∨σ'.tm t = .junk
  H:∀ k o,σ'.H k=some o→σ.H k=some o
  cnt:∀ s,σ.cnt s≤σ'.cnt s
theorem St.le.refl (σ:St):St.le σ σ:=⟨fun _=>.inl rfl,fun _ _ h=>h,fun _=>Nat.le_refl _⟩
theorem SimG.le {E:Env} {g:Gh} {σ σ':St} {a:Act} {w:World} (h:SimG E g σ a w) (hl:St.le σ' σ):SimG E g σ' a w where
  below:=h.below
  sizeB:=h.sizeB
  size:=h.size
  defers:=h.defers
  tm:=fun t=>by
    rcases hl.tm t with e|e
    · rw [e];exact h.tm t
    · rw [e];exact .junk _ _ _
  immlt:=h.immlt
  imm0:=h.imm0
  immB:=h.immB
  obj:=fun k o hk=>h.obj k o (hl.H k o hk)
  apart:=fun k k' o o' b h1 h2=>h.apart k k' o o' b (hl.H k o h1) (hl.H k' o' h2)
  fresh:=fun s n hn=>by
    have:=h.fresh s n (Nat.le_trans (hl.cnt s) hn)
    refine ⟨?_,this.2⟩
    cases hk:σ'.H (s,n) with
    | none=>rfl
    | some o=>have:=hl.H _ _ hk;simp_all
  ref0:=h.ref0
def Ent (σ σ':St):Prop:=∀ E a w,Sim E σ a w→Sim E σ' a w
theorem Ent.refl (σ:St):Ent σ σ:=fun _ _ _ h=>h
theorem Ent.trans {a b c:St} (h:Ent a b) (k:Ent b c):Ent a c:=fun _ _ _ x=>k _ _ _ (h _ _ _ x)
theorem Sim.le {E:Env} {σ σ':St} {a:Act} {w:World} (h:Sim E σ a w) (hl:St.le σ' σ):Sim E σ' a w :=
  let ⟨g,h⟩:=h;⟨g,h.le hl⟩
theorem Ent.of_le {σ σ':St} (hl:St.le σ' σ):Ent σ σ':=fun _ _ _ h=>h.le hl
inductive GS where
  | int
  | val (v:Value)
def glIx (P:Program) (name:String):Option Nat:=P.globals.toList.findIdx? fun g=>g.name == name
def tyIx (P:Program) (name:String):Option Nat:=P.types.toList.findIdx? fun t=>t.str == name
def glOf (P:Program):List (Nat × GS) :=
  (match glIx P "internal/bytealg.MaxLen" with|some i=>[(i,.int)]|none=>[]) ++
  (match glIx P "errors.errorType",(P.cutTypes.find? (·.1 == "internal/reflectlite.rtype")).map (·.2),tyIx P "error" with
    | some i,some rt,some e=>[(i,.val (.iface rt (.agg #[.pointer (some ⟨P.globals.size,e,none⟩)])))]
    | _,_,_=>[])
def gsOk (w:World) (p:Nat × GS):Prop:=match p.2 with
  | .int=>∃ n,w.cell? ⟨p.1,0,none⟩=some (.int .i64 n)
  | .val v=>w.cell? ⟨p.1,0,none⟩=some v
def GOk (P:Program) (w:World):Prop:=∀ p∈glOf P,p.1<w.heap.size∧gsOk w p
def Imm0 (P:Program) (imm:Nat→Prop) (w:World):Prop:=(∀ b,imm b→b<w.heap.size)∧GOk P w
class EOk (P:Program) (E:Env):Prop where
  ok:∀ p∈glOf P,p.1<E.B∧¬ E.F p.1∧gsOk E.w₀ p
theorem gsOk_heap {w w':World} {p:Nat × GS} (h:w'.heap[p.1]? = w.heap[p.1]?) (hg:gsOk w p):gsOk w' p:=by
  have hc:w'.cell? ⟨p.1,0,none⟩=w.cell? ⟨p.1,0,none⟩:=by
    unfold World.cell?
    simp only [h]
  unfold gsOk at hg ⊢
  rw [hc];exact hg
theorem EOk.gok {P:Program} {E:Env} [hE:EOk P E] {g:Gh} {σ:St} {a:Act} {w:World} (h:SimG E g σ a w):GOk P w:=by
  intro p hp
  obtain ⟨h1,h2,h3⟩:=hE.ok p hp
  exact ⟨Nat.lt_of_lt_of_le h1 h.sizeB,gsOk_heap (h.below.block p.1 h1 h2) h3⟩
theorem EOk.start {P:Program} {w:World} (h:GOk P w) (n:Nat) (imm:Nat→Prop) (r:Key→Nat→Option (Option Nat × Nat)) (up:Nat→Value):EOk P ⟨w.heap.size,n,w,imm,fun _=>False,r,up⟩ :=
  ⟨fun p hp=>⟨(h p hp).1,fun h=>h,(h p hp).2⟩⟩
end Go.Lg

namespace Go.Lg
open Go Go.RowKit
def ofVal0:Value→V
  | .int k n=>.int k n
  | .bool b=>.bool b
  | .string s=>.str s
  | .pointer none=>.nilp
  | .nilIface=>.nili
  | .nilFunc=>.nilf
  | .map none=>.nilm
  | .slice _ 0 0=>.e0
  | _=>.junk
def ofVal1:Value→V
  | .iface t v=>.ifc t (ofVal0 v)
  | v=>ofVal0 v
def ofVal:Value→V
  | .agg cs=>.agg (cs.toList.map ofVal1)
  | v=>ofVal1 v
inductive Rd where
  | tmp (t:Nat)
  | con (v:V)
def rdOf:Operand→Rd
  | .tmp t=>if t<HB then .tmp t else .con .junk
  | .const v=>.con (ofVal v)
  | .func f=>.con (.fn f [])
  | .global _=>.con .junk
def Rd.get (tm:Nat→V):Rd→V
  | .tmp t=>tm t
  | .con v=>v
inductive KT where
  | int (q:IntKind)
  | str
  | bool
  | arr (n:Nat) (q:IntKind)
inductive IOp where
  | mov (x:Rd)
  | mvs (x:Rd)
  | pick (c a b:Rd)
  | new (zs:List V)
  | box (x:Rd)
  | build (zs:List V) (parts:List (Nat × Nat × Rd))
  | bsl (n:Nat) (zs:List V) (parts:List (Nat × Nat × Rd))
  | load (agg:Bool) (n:Nat) (a:Rd)
  | store (n:Nat) (a x:Rd)
  | nilchk (x:Rd)
  | bin (op:BinOp) (x y:Rd)
  | eqb (neg:Bool) (x y:Rd)
  | eqp (neg:Bool) (x y:Rd)
  | eqf (neg:Bool) (x y:Rd)
  | eqi (neg lit:Bool) (x y:Rd)
  | un (op:UnOp) (x:Rd)
  | convI (k:IntKind) (x:Rd)
  | mkifc (t:TypeId) (x:Rd)
  | mkfn (f:FuncId) (cap:List Rd)
  | mksl (esz bytes:Nat) (zs:List V) (len cap:Rd)
  | slS (x:Rd) (lo hi:Option Rd)
  | slV (esz:Nat) (x:Rd) (lo hi:Option Rd)
  | slA (len esz:Nat) (x:Rd) (lo hi:Option Rd)
  | fad (off:Nat) (x:Rd)
  | fld (agg:Bool) (n off:Nat) (x:Rd)
  | iaA (len esz:Nat) (x i:Rd)
  | iaS (esz:Nat) (x i:Rd)
  | ixS (x i:Rd)
  | ixA (agg:Bool) (len n:Nat) (x i:Rd)
  | tas (t:TypeId) (zero:V) (x:Rd)
  | ext (x:Rd) (i:Nat)
  | call (f:FuncId) (args:List Rd)
  | callv (f:Rd) (args:List Rd)
  | len (isStr:Bool) (x:Rd)
  | app (esz bytes:Nat) (x y:Rd)
  | appE (esz bytes:Nat) (x y:Rd)
  | cpy (esz:Nat) (x y:Rd)
  | mn (mx:Bool) (x y:Rd)
  | mx3 (x y z:Rd)
  | mkmap
  | mlk (kt:KT) (ok:Bool) (z:V) (x i:Rd)
  | mset (kt:KT) (x i v:Rd)
  | mlen (x:Rd)
  | s2b (x:Rd)
  | b2s (x:Rd)
  | eqa (n:Nat) (q:IntKind) (neg:Bool) (x y:Rd)
  | bslo (n:Nat) (zs:List V) (parts:List (Nat × Nat × Rd))
  | msb (x:Rd)
  | rng (x:Rd)
  | nxt (x:Rd)
  | ent (x:Rd)
  | bad
def isConstO:Operand→Bool
  | .const _=>true
  | _=>false
def aggOf (P:Program) (t:TypeId):Option Bool:=match P.underlying t with|some (.struct _)|some (.array ..)=>some true|some _=>some false|none=>none
def szT (P:Program) (t:TypeId):Option Nat:=(P.info? t).map (·.size)
def bytesT (P:Program) (t:TypeId):Option Nat:=(P.info? t).map (·.bytes)
def zeroT (P:Program) (t:TypeId):Option V:=((P.info? t).bind (·.zero)).map ofVal
def ktOf (P:Program) (k:TypeId):Option KT:=match P.underlying k with
  | some (.int q)=>some (.int q)
  | some .string=>some .str
  | some .bool=>some .bool
  | some (.array n e)=>match P.underlying e with
    | some (.int q)=>if szT P e=some 1 then some (.arr n q) else none
    | _=>none
  | _=>none
def stIn (P:Program) (q:IntKind):Nat→List Field→Bool
  | _,[]=>true
  | i,f::r=>decide (f.name ≠ "_") && decide (f.offset=i) && (match P.underlying f.type with|some (.int k)=>decide (k=q)|_=>false) && stIn P q (i+1) r
def arrIT (P:Program) (t:TypeId):Option (Nat × IntKind):=match P.underlying t with
  | some (.struct fs)=>match fs.toList with
    | []=>none
    | f::_=>match P.underlying f.type with
      | some (.int q)=>if stIn P q 0 fs.toList=true∧P.eqGuardType P.depth t=false∧P.stoodInHeld t=false then some (fs.toList.length,q) else none
      | _=>none
  | some (.array n e)=>match P.underlying e with
    | some (.int q)=>if szT P e=some 1∧P.eqGuardType P.depth t=false then some (n,q) else none
    | _=>none
  | _=>none
def isU8 (P:Program) (e:TypeId):Bool:=match P.underlying e with
  | some (.int .u8)=>true
  | _=>false
def trParts (P:Program) (t:TypeId) (parts:Array (Nat × Operand)):Option (List (Nat × Nat × Rd)) :=
  match P.underlying t with
  | some (.struct fs)=>if fs.toList.all (fun f=>(szT P f.type).isSome) then parts.toList.mapM fun (i,x)=>do
      let f ← fs[i]?
      let s ← szT P f.type
      pure (f.offset,s,rdOf x) else none
  | some (.array _ e)=>do
      let s ← szT P e
      parts.toList.mapM fun (i,x)=>pure (i*s,s,rdOf x)
  | _=>none
def orBad (o:Option IOp):IOp:=o.getD .bad
def entersOk (P:Program) (f:FuncId):Bool:=match P.funcs[f]? with
  | some fn=>!(fn.body.isNone || fn.name == "runtime.NumGoroutine")
  | none=>false
def trCall (P:Program) (c:Call):IOp :=
  match c.callee with
  | .value (.func f)=>.call f (c.args.toList.map rdOf)
  | .value (.tmp t)=>.callv (rdOf (.tmp t)) (c.args.toList.map rdOf)
  | .builtin .len=>match c.args.toList,(c.argTypes[0]?).bind P.underlying with
    | [x],some .string=>.len true (rdOf x)
    | [x],some (.slice _)=>.len false (rdOf x)
    | [_],some (.array n _)=>.mov (.con (.int .i64 n))
    | [x],some (.map _ _)=>.mlen (rdOf x)
    | _,_=>.bad
  | .builtin .append=>match c.args.toList,(c.argTypes[0]?).bind P.underlying,(c.argTypes[1]?).bind P.underlying with
    | [x,y],some (.slice e),some (.slice _) | [x,y],some (.slice e),some .string=>orBad do
      let s ← szT P e
      let b ← bytesT P e
      let z ← zeroT P e
      if s=0 || z.cells.length != s then none else pure (.app s b (rdOf x) (rdOf y))
    | _,_,_=>.bad
  | .builtin .min=>match c.args.toList with | [x,y]=>.mn false (rdOf x) (rdOf y)|_=>.bad
  | .builtin .max=>match c.args.toList with | [x,y]=>.mn true (rdOf x) (rdOf y) | [x,y,z]=>.mx3 (rdOf x) (rdOf y) (rdOf z)|_=>.bad
  | _=>.bad
def tr (P:Program) (o:Oper):IOp :=
  match o.op with
  | .move x | .assign x=>.mov (rdOf x)
  | .pick c a b=>.pick (rdOf c) (rdOf a) (rdOf b)
  | .alloc t=>orBad ((zeroT P t).map fun z=>.new z.cells)
  | .box _ x=>.box (rdOf x)
  | .build t parts=>orBad do
      let z ← zeroT P t
      let ps ← trParts P t parts
      pure (.build z.cells ps)
  | .buildSlice t n parts=>match P.underlying t with
    | some (.slice e)=>orBad do
      let s ← szT P e
      let z ← zeroT P e
      if n*s > 2 ^ 24 || z.cells.length != s || s == 0 || (n == 0 && !parts.isEmpty) then none else
      pure (.bsl n ((List.replicate n z.cells).flatten) (parts.toList.map fun (i,x)=>(i*s,s,rdOf x)))
    | _=>.bad
  | .load t a=>orBad do
      let s ← szT P t
      let g ← aggOf P t
      pure (.load g s (rdOf a))
  | .store t a x=>orBad ((szT P t).map fun s=>.store s (rdOf a) (rdOf x))
  | .nilCheck x=>.nilchk (rdOf x)
  | .binOp .eql t x y _=>match P.underlying t with
    | some (.int _)|some .string=>.bin .eql (rdOf x) (rdOf y)
    | some .bool=>.eqb false (rdOf x) (rdOf y)
    | some (.pointer _)=>.eqp false (rdOf x) (rdOf y)
    | some (.interface _)=>.eqi false (isConstO x || isConstO y) (rdOf x) (rdOf y)
    | some (.array _ _)=>orBad ((arrIT P t).map fun nq=>.eqa nq.1 nq.2 false (rdOf x) (rdOf y))
    | some (.struct _)=>orBad ((arrIT P t).map fun nq=>.eqa nq.1 nq.2 false (rdOf x) (rdOf y))
    | some (.func _ _ _)=>.eqf false (rdOf x) (rdOf y)
    | _=>.bad
  | .binOp .neq t x y _=>match P.underlying t with
    | some (.int _)|some .string=>.bin .neq (rdOf x) (rdOf y)
    | some .bool=>.eqb true (rdOf x) (rdOf y)
    | some (.pointer _)=>.eqp true (rdOf x) (rdOf y)
    | some (.interface _)=>.eqi true (isConstO x || isConstO y) (rdOf x) (rdOf y)
    | some (.array _ _)=>orBad ((arrIT P t).map fun nq=>.eqa nq.1 nq.2 true (rdOf x) (rdOf y))
    | some (.struct _)=>orBad ((arrIT P t).map fun nq=>.eqa nq.1 nq.2 true (rdOf x) (rdOf y))
    | some (.func _ _ _)=>.eqf true (rdOf x) (rdOf y)
    | _=>.bad
  | .binOp op _ x y _=>.bin op (rdOf x) (rdOf y)
  | .unOp op _ x=>.un op (rdOf x)
  | .range t x=>match P.underlying t with
    | some (.map _ _)=>.rng (rdOf x)
    | _=>.bad
  | .next x false=>.nxt (rdOf x)
  | .entry x=>.ent (rdOf x)
  | .convert s d x=>match P.underlying s,P.underlying d with
    | some (.int _),some (.int k)=>.convI k (rdOf x)
    | some .string,some .string=>.mvs (rdOf x)
    | some .string,some (.slice e)=>if isU8 P e && szT P e == some 1 then .s2b (rdOf x) else .bad
    | some (.slice e),some .string=>if isU8 P e then .b2s (rdOf x) else .bad
    | some (.slice _),some (.slice e)=>if isU8 P e && s == d then .msb (rdOf x) else .bad
    | _,_=>.bad
  | .makeInterface t x=>match P.underlying t with
    | some (.interface _)|none=>.bad
    | _=>.mkifc t (rdOf x)
  | .makeFunc (.func f) first cap=>if first.isEmpty then .mkfn f (cap.toList.map rdOf) else .bad
  | .makeSlice t l c=>match P.underlying t with
    | some (.slice e)=>orBad do
      let s ← szT P e
      let b ← bytesT P e
      let z ← zeroT P e
      if z.cells.length != s || s == 0 then none else pure (.mksl s b z.cells (rdOf l) (rdOf c))
    | _=>.bad
  | .slice t x lo hi none=>match P.underlying t with
    | some .string=>.slS (rdOf x) (lo.map rdOf) (hi.map rdOf)
    | some (.slice e)=>orBad do
      let s ← szT P e
      if s=0 then none else pure (.slV s (rdOf x) (lo.map rdOf) (hi.map rdOf))
    | some (.array n e)=>orBad do
      let s ← szT P e
      if s=0 then none else pure (.slA n s (rdOf x) (lo.map rdOf) (hi.map rdOf))
    | _=>.bad
  | .fieldAddr t x f=>match P.underlying t with
    | some (.struct fs)=>orBad do
      let f ← fs[f]?
      let s ← szT P f.type
      if s=0 then none else pure (.fad f.offset (rdOf x))
    | _=>.bad
  | .field t x f=>match P.underlying t with
    | some (.struct fs)=>orBad do
      let f ← fs[f]?
      let s ← szT P f.type
      let g ← aggOf P f.type
      pure (.fld g s f.offset (rdOf x))
    | _=>.bad
  | .indexAddr t x i=>match P.underlying t with
    | some (.array n e)=>orBad ((szT P e).map fun s=>.iaA n s (rdOf x) (rdOf i))
    | some (.slice e)=>orBad ((szT P e).map fun s=>.iaS s (rdOf x) (rdOf i))
    | _=>.bad
  | .index t x i=>match P.underlying t with
    | some .string=>.ixS (rdOf x) (rdOf i)
    | some (.array n e)=>orBad do
      let s ← szT P e
      let g ← aggOf P e
      pure (.ixA g n s (rdOf x) (rdOf i))
    | _=>.bad
  | .typeAssert x _ t true=>match P.underlying t with
    | some (.interface _)|none=>.bad
    | _=>orBad ((zeroT P t).map fun z=>.tas t z (rdOf x))
  | .extract x i=>.ext (rdOf x) i
  | .makeMap _ none=>.mkmap
  | .lookup t x i ok=>match P.underlying t with
    | some (.map k e)=>orBad do
      let kt ← ktOf P k
      let z ← zeroT P e
      pure (.mlk kt ok z (rdOf x) (rdOf i))
    | _=>.bad
  | .mapUpdate t x i v=>match P.underlying t with
    | some (.map k _)=>orBad ((ktOf P k).map fun kt=>.mset kt (rdOf x) (rdOf i) (rdOf v))
    | _=>.bad
  | .insert t x i v=>match P.underlying t with
    | some (.map k _)=>orBad ((ktOf P k).map fun kt=>.mset kt (rdOf x) (rdOf i) (rdOf v))
    | _=>.bad
  | .call c=>trCall P c
  | _=>.bad
inductive LRes where
  | A (pre:Prop) (v:V)
  | C (pre:Prop) (o:LObj) (mk:Key→V)
  | D (pre:Prop) (v:V) (H:Heap)
  | call (pre:Prop) (f:FuncId) (args sargs:List V)
  | bad
def imV:Nat→V→Bool
  | _,.int .. | _,.bool _|_,.str _|_,.sl .. | _,.ip .. | _,.nilp|_,.nili|_,.nilf|_,.nilm|_,.im .. | _,.junk|_,.e0=>true
  | d+1,.agg cs=>cs.all (imV d)
  | d+1,.tup cs=>cs.all (imV d)
  | d+1,.fn _ cs=>cs.all (imV d)
  | d+1,.ifc _ v=>imV d v
  | _,_=>false
def LRes.ofOpt:Option V→LRes
  | some v=>.A True v
  | none=>.bad
def InI64 (n:Int):Prop:=-9223372036854775808≤n∧n≤9223372036854775807
def ldV (agg:Bool) (n:Nat) (cs:List V) (off:Nat):Option V :=
  if agg then (if off+n≤cs.length then some (.agg ((cs.drop off).take n)) else none) else cs[off]?
def setCells (cs:List V) (off:Nat) (xs:List V):List V:=cs.take off++(xs++cs.drop (off+xs.length))
def V.known:V→Bool
  | .junk=>false
  | _=>true
def fillL (tm:Nat→V) (cs:List V):List (Nat × Nat × Rd)→List V
  | []=>cs
  | (off,_,x)::r=>fillL tm (setCells cs off (x.get tm).cells) r
def partsOk (tm:Nat→V) (n:Nat):List (Nat × Nat × Rd)→Prop
  | []=>True
  | (off,s,x)::r=>((x.get tm).known=true∧(x.get tm).cells.length=s∧off+s≤n)∧partsOk tm n r
def lbin (op:BinOp):V→V→LRes
  | .int k a,.int k' b =>
    match op with
    | .shl=>.A (0≤b) (.int k (k.wrap (a*2 ^ (min b.toNat k.bits))))
    | .shr=>.A (0≤b) (.int k (a.fdiv (2 ^ (min b.toNat k.bits))))
    | .add=>if k = .i64 then .A (k' = .i64∧InI64 (a+b)) (.int .i64 (a+b)) else .A (k' = k) (.int k (k.wrap (a+b)))
    | .sub=>if k = .i64 then .A (k' = .i64∧InI64 (a - b)) (.int .i64 (a - b)) else .A (k' = k) (.int k (k.wrap (a - b)))
    | .mul=>if k = .i64 then .A (k' = .i64∧InI64 (a*b)) (.int .i64 (a*b)) else .A (k' = k) (.int k (k.wrap (a*b)))
    | .quo=>if k = .i64 then .A (k' = .i64∧b≠0∧InI64 (a.tdiv b)) (.int .i64 (a.tdiv b)) else .A (k' = k∧b≠0) (.int k (k.wrap (a.tdiv b)))
    | .rem=>.A (k' = k∧b≠0) (.int k (a.tmod b))
    | .and=>.A (k' = k) (.int k (k.wrap (BitVec.ofInt k.bits a &&& BitVec.ofInt k.bits b).toNat))
    | .or=>.A (k' = k) (.int k (k.wrap (BitVec.ofInt k.bits a ||| BitVec.ofInt k.bits b).toNat))
    | .xor=>.A (k' = k) (.int k (k.wrap (BitVec.ofInt k.bits a ^^^ BitVec.ofInt k.bits b).toNat))
    | .andNot=>.A (k' = k) (.int k (k.wrap (BitVec.ofInt k.bits a &&& ~~~ (BitVec.ofInt k.bits b)).toNat))
    | .eql=>.A (k' = k) (.bool (a == b))
    | .neq=>.A (k' = k) (.bool (a != b))
    | .lss=>.A (k' = k) (.bool (a<b))
    | .leq=>.A (k' = k) (.bool (a≤b))
    | .gtr=>.A (k' = k) (.bool (a > b))
    | .geq=>.A (k' = k) (.bool (a ≥ b))
  | .str a,.str b =>
    match op with
    | .add=>.A (((a.size+b.size:Nat):Int)≤9223372036854775807) (.str (a++b))
    | .eql=>.A True (.bool (a.toList == b.toList))
    | .neq=>.A True (.bool (!(a.toList == b.toList)))
    | .lss=>.A True (.bool (Op.bytesLess a.toList b.toList))
    | .leq=>.A True (.bool (Op.bytesLess a.toList b.toList || a.toList == b.toList))
    | .gtr=>.A True (.bool (!(Op.bytesLess a.toList b.toList || a.toList == b.toList)))
    | .geq=>.A True (.bool (!Op.bytesLess a.toList b.toList))
    | _=>.bad
  | _,_=>.bad
def isPtr:V→Bool
  | .ip .. | .mp ..=>true
  | _=>false
def leqp (neg:Bool) (x y:V):LRes :=
  match x,y with
  | .nilp,.nilp=>.A True (.bool (!neg))
  | .nilp,y=>.A (isPtr y=true) (.bool neg)
  | x,.nilp=>.A (isPtr x=true) (.bool neg)
  | _,_=>.bad
def leqi (neg lit:Bool) (x y:V):LRes :=
  match x,y with
  | .nili,.nili=>.A (lit=true) (.bool (!neg))
  | .nili,.ifc _ _ | .ifc _ _,.nili=>.A True (.bool neg)
  | _,_=>.bad
def lun (op:UnOp) (x:V):LRes :=
  match op,x with
  | .neg,.int k n=>if k = .i64 then .A (InI64 (0 - n)) (.int .i64 (0 - n)) else .A True (.int k (k.wrap (0 - n)))
  | .xor,.int k n=>.A True (.int k (k.wrap (BitVec.ofInt k.bits (if k.signed then -1 else k.max) ^^^ BitVec.ofInt k.bits n).toNat))
  | .not,.bool b=>.A True (.bool !b)
  | _,_=>.bad
def loOf (tm:Nat→V):Option Rd→Option Int
  | none=>some 0
  | some x=>match x.get tm with | .int _ n=>some n|_=>none
def hiOf (tm:Nat→V) (n:Nat):Option Rd→Option Int
  | none=>some n
  | some x=>match x.get tm with | .int _ n=>some n|_=>none
def lslV (esz:Nat) (x:V) (lo hi:Int):LRes :=
  match x with
  | .sl n cs=>.A (0≤lo∧lo≤hi∧hi≤n∧hi.toNat*esz≤cs.length) (.sl (hi.toNat - lo.toNat) ((cs.take (hi.toNat*esz)).drop (lo.toNat*esz)))
  | .e0=>.A (lo=0∧hi=0) .e0
  | .msl key g off n=>.A (0≤lo∧lo≤hi∧hi≤n) (.msl key g (off+lo.toNat*esz) (hi.toNat - lo.toNat))
  | .qsl key g e q n=>.A (0≤lo∧lo≤hi∧hi≤n∧e=esz∧0<esz) (.qsl key g esz (q+lo.toNat) (hi.toNat - lo.toNat))
  | _=>.bad
def lslA (len esz:Nat) (x:V) (lo hi:Int):LRes :=
  match x with
  | .ip cs off=>.A (0≤lo∧lo≤hi∧hi≤len∧off+len*esz≤cs.length) (.sl (hi.toNat - lo.toNat) ((cs.take (off+hi.toNat*esz)).drop (off+lo.toNat*esz)))
  | .mp key g off=>.A (0≤lo∧lo≤hi∧hi≤len) (.msv key g (off+lo.toNat*esz) (hi.toNat - lo.toNat) esz)
  | _=>.bad
def lenV:V→Option Nat
  | .sl n _=>some n
  | .msl _ _ _ n=>some n
  | .msv _ _ _ n _=>some n
  | .qsl _ _ _ _ n=>some n
  | .e0=>some 0
  | .str s=>some s.size
  | _=>none
def srcOf (H:Heap) (esz:Nat):V→Option (Nat × List V)
  | .sl n cs=>if cs.length=n*esz then some (n,cs) else none
  | .e0=>some (0,[])
  | .str s=>if esz=1 then some (s.size,s.data.toList.map fun b=>.int .u8 b.toNat) else none
  | .msl key g off n=>match H key with
    | some (.row g' esz' cs)=>if g' = g∧esz' = esz∧off+n*esz≤cs.length then some (n,(cs.drop off).take (n*esz)) else none
    | _=>none
  | _=>none
def lapp (H:Heap) (esz bytes:Nat) (x:V) (src:Nat × List V):LRes :=
  match x with
  | .e0=>.C (src.1*bytes≤140737488355328∧src.1≤4611686018427387904∧src.2.all V.one=true) (.row 0 esz src.2) fun k=>.msl k 0 0 src.1
  | .msl key g off n=>match H key with
    | some (.row g' esz' cs)=>.D ((g' = g∧esz' = esz∧off=0∧cs.length=n*esz)∧(n+src.1)*bytes≤140737488355328∧n+src.1≤4611686018427387904∧src.2.all V.one=true)
        (.msl key (g+1) 0 (n+src.1)) (hupd H key (.row (g+1) esz (cs++src.2)))
    | _=>.bad
  | _=>.bad
def snap (H:Heap):Nat→V→V
  | 0,_=>.junk
  | d+1,.msl key g off n=>match H key with
    | some (.row g' esz cs)=>if g' = g∧off+n*esz≤cs.length then .sl n (((cs.drop off).take (n*esz)).map (snap H d)) else .junk
    | _=>.junk
  | d+1,.msv key g off n esz=>match H key with
    | some (.row g' _ cs)=>if g' = g∧off+n*esz≤cs.length then .sl n (((cs.drop off).take (n*esz)).map (snap H d)) else .junk
    | _=>.junk
  | d+1,.mp key g off=>match H key with
    | some (.row g' _ cs)=>if g' = g then .ip (cs.map (snap H d)) off else .junk
    | _=>.junk
  | d+1,.agg cs=>.agg (cs.map (snap H d))
  | d+1,.tup cs=>.tup (cs.map (snap H d))
  | d+1,.ifc t v=>.ifc t (snap H d v)
  | d+1,.fn f cs=>.fn f (cs.map (snap H d))
  | d+1,.mm key=>match H key with
    | some (.map es)=>.im (es.map fun e=>(snap H d e.1,snap H d e.2))
    | _=>.junk
  | d+1,.qsl key g e q n=>if 0<e then match H key with
      | some (.row g' esz cs)=>if g' = g∧q*e+n*esz≤cs.length then .sl n (((cs.drop (q*e)).take (n*esz)).map (snap H d)) else .junk
      | _=>.junk
    else .junk
  | _+1,v=>v
def sok (H:Heap):Nat→V→Bool
  | 0,_=>false
  | d+1,.msl key g off n=>match H key with
    | some (.row g' esz cs)=>g' == g && decide (off+n*esz≤cs.length) && ((cs.drop off).take (n*esz)).all (sok H d)
    | _=>false
  | d+1,.msv key g off n esz=>match H key with
    | some (.row g' _ cs)=>g' == g && decide (off+n*esz≤cs.length) && ((cs.drop off).take (n*esz)).all (sok H d)
    | _=>false
  | d+1,.mp key g _=>match H key with
    | some (.row g' _ cs)=>g' == g && cs.all (sok H d)
    | _=>false
  | d+1,.agg cs=>cs.all (sok H d)
  | d+1,.tup cs=>cs.all (sok H d)
  | d+1,.ifc _ v=>sok H d v
  | d+1,.fn _ cs=>cs.all (sok H d)
  | d+1,.mm key=>match H key with
    | some (.map es)=>es.all fun e=>sok H d e.1 && sok H d e.2
    | _=>false
  | d+1,.qsl key g e q n=>if 0<e then match H key with
      | some (.row g' esz cs)=>g' == g && decide (q*e+n*esz≤cs.length) && ((cs.drop (q*e)).take (n*esz)).all (sok H d)
      | _=>false
    else false
  | _+1,_=>true
theorem snap_qsl (H:Heap) (d:Nat) (key:Key) (g e q n:Nat):snap H (d+1) (.qsl key g e q n)=if 0<e then snap H (d+1) (.msl key g (q*e) n) else .junk:=rfl
def frs (H:Heap):Nat→V→Bool
  | _,.int .. | _,.bool _|_,.str _|_,.nilp|_,.nili|_,.nilf|_,.nilm|_,.junk|_,.e0=>true
  | d+1,.msl key g off n=>match H key with
    | some (.row g' esz cs)=>g' == g && decide (off+n*esz≤cs.length) && cs.all (frs H d)
    | _=>false
  | d+1,.mp key g _=>match H key with
    | some (.row g' _ cs)=>g' == g && cs.all (frs H d)
    | _=>false
  | d+1,.agg cs=>cs.all (frs H d)
  | d+1,.tup cs=>cs.all (frs H d)
  | d+1,.ifc _ v=>frs H d v
  | _,_=>false
def flat:Nat→V→Bool
  | _,.int .. | _,.bool _|_,.str _|_,.nilp|_,.nili|_,.nilf|_,.nilm|_,.junk|_,.e0=>true
  | d+1,.agg cs=>cs.all (flat d)
  | d+1,.tup cs=>cs.all (flat d)
  | d+1,.fn _ cs=>cs.all (flat d)
  | d+1,.ifc _ v=>flat d v
  | _,_=>false
def lmvs:V→LRes
  | .str s=>.A True (.str s)
  | _=>.bad
def lpick (c a b:V):LRes:=match c with | .bool t=>.A True (if t then a else b)|_=>.bad
def lload (agg:Bool) (n:Nat) (H:Heap):V→LRes
  | .ip cs off=>.ofOpt (ldV agg n cs off)
  | .mp key g off=>match H key with
    | some (.row g' _ cs)=>if g' = g then .ofOpt (ldV agg n cs off) else .bad
    | _=>.bad
  | _=>.bad
def lstore (n:Nat) (H:Heap) (x y:V):LRes:=match x with
  | .mp key g off=>match H key with
    | some (.row g' esz cs)=>if g' = g then .D (y.cells.length=n∧off+n≤cs.length∧y.cells.all V.one=true) .junk (hupd H key (.row g esz (setCells cs off y.cells))) else .bad
    | _=>.bad
  | _=>.bad
def lnil:V→LRes
  | .ip cs off=>.A True (.ip cs off)
  | .mp k g off=>.A True (.mp k g off)
  | _=>.bad
def leqb (neg:Bool) (x y:V):LRes:=match x,y with
  | .bool a,.bool b=>.A True (.bool (if neg then a != b else a == b))
  | _,_=>.bad
def intsK (q:IntKind):List V→Bool
  | []=>true
  | .int q' _::r=>decide (q' = q) && intsK q r
  | _=>false
def keyV:KT→V→Bool
  | .int q,.int q' _=>decide (q' = q)
  | .str,.str _=>true
  | .bool,.bool _=>true
  | .arr n q,.agg cs=>decide (cs.length=n) && intsK q cs
  | _,_=>false
def eqInts:List V→List V→Bool
  | [],[]=>true
  | .int _ a::xs,.int _ b::ys=>(a == b) && eqInts xs ys
  | _,_=>false
def eqK:V→V→Bool
  | .int _ a,.int _ b=>a == b
  | .str a,.str b=>a == b
  | .bool a,.bool b=>a == b
  | .agg xs,.agg ys=>eqInts xs ys
  | _,_=>false
def findK (k:V):List (V × V)→Option (Nat × V)
  | []=>none
  | e::r=>if eqK k e.1 then some (0,e.2) else (findK k r).map fun p=>(p.1+1,p.2)
def setK (es:List (V × V)) (k v:V):List (V × V):=match findK k es with
  | some p=>es.set p.1 (k,v)
  | none=>es++[(k,v)]
def lkV (ok:Bool) (z:V):Option (Nat × V)→V
  | some p=>if ok then .tup [p.2,.bool true] else p.2
  | none=>if ok then .tup [z,.bool false] else z
def lmlk (H:Heap) (kt:KT) (ok:Bool) (z x i:V):LRes:=match x with
  | .mm key=>match H key with
    | some (.map es)=>.A (keyV kt i=true∧es.all (fun e=>keyV kt e.1)=true) (lkV ok z (findK i es))
    | _=>.bad
  | .im es=>.A (keyV kt i=true∧es.all (fun e=>keyV kt e.1)=true) (lkV ok z (findK i es))
  | _=>.bad
def lmset (H:Heap) (kt:KT) (x i v:V):LRes:=match x with
  | .mm key=>match H key with
    | some (.map es)=>.D (keyV kt i=true∧es.all (fun e=>keyV kt e.1)=true) .junk (hupd H key (.map (setK es i v)))
    | _=>.bad
  | _=>.bad
def lmlen (H:Heap) (x:V):LRes:=match x with
  | .mm key=>match H key with
    | some (.map es)=>.A True (.int .i64 es.length)
    | _=>.bad
  | .im es=>.A True (.int .i64 es.length)
  | .nilm=>.A True (.int .i64 0)
  | _=>.bad
def leqa (n:Nat) (q:IntKind) (neg:Bool) (x y:V):LRes:=match x,y with
  | .agg xs,.agg ys=>.A (keyV (.arr n q) (.agg xs)=true∧keyV (.arr n q) (.agg ys)=true) (.bool (if neg then !eqInts xs ys else eqInts xs ys))
  | _,_=>.bad
def ls2b (x:V):LRes:=match x with
  | .str s=>.C True (.row 0 1 (s.data.toList.map fun b=>.int .u8 b.toNat)) fun k=>.msl k 0 0 s.size
  | _=>.bad
def strStep (r:ByteArray):V→ByteArray
  | .int _ n=>r.push (UInt8.ofNat n.toNat)
  | _=>r
def strOf (ys:List V):ByteArray:=ys.foldl strStep ByteArray.empty
def lmsb (H:Heap) (x:V):LRes:=match x with
  | .msl key g off n=>match H key with
    | some (.row g' _ _)=>.A (g' = g∧0<n) (.msl key g off n)
    | _=>.bad
  | _=>.bad
def isSlV:V→Bool
  | .sl .. | .e0 | .msl ..=>true
  | _=>false
def lb2s (H:Heap) (x:V):LRes:=match srcOf H 1 x with
  | some src=>.A (isSlV x=true∧intsK .u8 src.2=true) (.str (strOf src.2))
  | none=>.bad
def leqf (neg:Bool) (x y:V):LRes:=match x,y with
  | .nilf,.nilf=>.A True (.bool (!neg))
  | .nilf,.fn _ _ | .fn _ _,.nilf=>.A True (.bool neg)
  | _,_=>.bad
def lconvI (k:IntKind):V→LRes
  | .int _ n=>.A True (.int k (k.wrap n))
  | _=>.bad
def lmksl (esz bytes:Nat) (zs:List V) (l c:V):LRes:=match l,c with
  | .int _ n,.int _ m=>.C (0≤n∧n≤m∧m*bytes≤140737488355328∧m≤4611686018427387904) (.row 0 esz (List.replicate n.toNat zs).flatten) fun k=>.msl k 0 0 n.toNat
  | _,_=>.bad
def lslS (s:ByteArray) (l h:Int):LRes:=.A (0≤l∧l≤h∧h≤s.size) (.str (s.extract l.toNat h.toNat))
def lfad (off:Nat):V→LRes
  | .ip cs o=>.A True (.ip cs (o+off))
  | .mp k g o=>.A True (.mp k g (o+off))
  | _=>.bad
def lfld (agg:Bool) (n off:Nat):V→LRes
  | .agg cs=>.ofOpt (ldV agg n cs off)
  | _=>.bad
def liaA (len esz:Nat) (x i:V):LRes:=match i with
  | .int _ n=>match x with
    | .ip cs o=>.A (0≤n∧n<len) (.ip cs (o+n.toNat*esz))
    | .mp k g o=>.A (0≤n∧n<len) (.mp k g (o+n.toNat*esz))
    | _=>.bad
  | _=>.bad
def liaS (esz:Nat) (x i:V):LRes:=match i with
  | .int _ n=>match x with
    | .sl m cs=>.A (0≤n∧n<m) (.ip cs (n.toNat*esz))
    | .msl k g o m=>.A (0≤n∧n<m) (.mp k g (o+n.toNat*esz))
    | .msv k g o m _=>.A (0≤n∧n<m) (.mp k g (o+n.toNat*esz))
    | .qsl k g e q m=>.A ((0≤n∧n<m)∧e=esz∧0<esz) (.mp k g (q*esz+n.toNat*esz))
    | _=>.bad
  | _=>.bad
def lixS (x i:V):LRes:=match x with
  | .str s=>match i with
    | .int _ n=>match s.data[n.toNat]? with|some b=>.A (0≤n) (.int .u8 b.toNat)|none=>.bad
    | _=>.bad
  | _=>.bad
def lixA (agg:Bool) (len n:Nat) (x i:V):LRes:=match x with
  | .agg cs=>match i with
    | .int _ j=>match ldV agg n cs (j.toNat*n) with|some v=>.A (0≤j∧j<len) v|none=>.bad
    | _=>.bad
  | _=>.bad
def ltas (t:TypeId) (z x:V):LRes:=match x with
  | .ifc t' v=>.A True (if t' = t then .tup [v,.bool true] else .tup [z,.bool false])
  | .nili=>.A True (.tup [z,.bool false])
  | _=>.bad
def lext (i:Nat):V→LRes
  | .tup vs=>.ofOpt vs[i]?
  | _=>.bad
def llen (isStr:Bool):V→LRes
  | .str s=>if isStr then .A True (.int .i64 s.size) else .bad
  | .sl n _=>if isStr then .bad else .A True (.int .i64 n)
  | .msl _ _ _ n=>if isStr then .bad else .A True (.int .i64 n)
  | .msv _ _ _ n _=>if isStr then .bad else .A True (.int .i64 n)
  | .qsl _ _ _ _ n=>if isStr then .bad else .A True (.int .i64 n)
  | .e0=>if isStr then .bad else .A True (.int .i64 0)
  | _=>.bad
def lmn (mx:Bool) (x y:V):LRes:=match x,y with
  | .int k a,.int k' b=>.A (k' = k) (.int k (if mx then (if a<b then b else a) else (if b<a then b else a)))
  | _,_=>.bad
def lmx3 (x y z:V):LRes:=match x,y,z with
  | .int k a,.int k' b,.int k'' c=>.A (k' = k∧k'' = k) (.int k (if (if a<b then b else a)<c then c else (if a<b then b else a)))
  | _,_,_=>.bad
def lcallv (H:Heap) (f:V) (args:List V):LRes:=match f with
  | .fn f cap=>.call ((args++cap).all (sok H 8)=true) f (args++cap) ((args++cap).map (snap H 8))
  | _=>.bad
def lsl (f:Int→Int→LRes) (l h:Option Int):LRes:=match l,h with
  | some l,some h=>f l h
  | _,_=>.bad
def lslSx (lo:Option Int) (hi:Nat→Option Int) (x:V):LRes:=match x with
  | .str s=>lsl (lslS s) lo (hi s.size)
  | _=>.bad
def lslVx (esz:Nat) (lo:Option Int) (hi:Nat→Option Int) (x:V):LRes:=match lenV x with
  | some n=>lsl (lslV esz x) lo (hi n)
  | none=>.bad
def lappx (H:Heap) (esz bytes:Nat) (x y:V):LRes:=match srcOf H esz y with
  | some src=>lapp H esz bytes x src
  | none=>.bad
def lappE (H:Heap) (esz bytes:Nat) (x y:V):LRes:=match x with
  | .e0=>lappx H esz bytes .e0 y
  | _=>.bad
def lop (op:IOp) (tm:Nat→V) (H:Heap):LRes :=
  match op with
  | .mov x=>.A True (x.get tm)
  | .mvs x=>lmvs (x.get tm)
  | .pick c a b=>lpick (c.get tm) (a.get tm) (b.get tm)
  | .new zs=>.C True (.row 0 0 zs) fun k=>.mp k 0 0
  | .box x=>.C ((x.get tm).known=true) (.row 0 0 (x.get tm).cells) fun k=>.mp k 0 0
  | .build zs ps=>.A (partsOk tm zs.length ps) (.agg (fillL tm zs ps))
  | .bsl n zs ps=>if n=0 then .A True .e0 else .A (partsOk tm zs.length ps∧(fillL tm zs ps).all (imV 3)=true) (.sl n (fillL tm zs ps))
  | .load agg n a=>lload agg n H (a.get tm)
  | .store n a x=>lstore n H (a.get tm) (x.get tm)
  | .nilchk x=>lnil (x.get tm)
  | .bin op x y=>lbin op (x.get tm) (y.get tm)
  | .eqb neg x y=>leqb neg (x.get tm) (y.get tm)
  | .eqp neg x y=>leqp neg (x.get tm) (y.get tm)
  | .eqf neg x y=>leqf neg (x.get tm) (y.get tm)
  | .eqi neg lit x y=>leqi neg lit (x.get tm) (y.get tm)
  | .un op x=>lun op (x.get tm)
  | .convI k x=>lconvI k (x.get tm)
  | .mkifc t x=>.A ((x.get tm).known=true) (.ifc t (x.get tm))
  | .mkfn f cap=>.A True (.fn f (cap.map (Rd.get tm)))
  | .mksl esz bytes zs l c=>lmksl esz bytes zs (l.get tm) (c.get tm)
  | .slS x lo hi=>lslSx (loOf tm lo) (fun n=>hiOf tm n hi) (x.get tm)
  | .slV esz x lo hi=>lslVx esz (loOf tm lo) (fun n=>hiOf tm n hi) (x.get tm)
  | .slA len esz x lo hi=>lsl (lslA len esz (x.get tm)) (loOf tm lo) (hiOf tm len hi)
  | .fad off x=>lfad off (x.get tm)
  | .fld agg n off x=>lfld agg n off (x.get tm)
  | .iaA len esz x i=>liaA len esz (x.get tm) (i.get tm)
  | .iaS esz x i=>liaS esz (x.get tm) (i.get tm)
  | .ixS x i=>lixS (x.get tm) (i.get tm)
  | .ixA agg len n x i=>lixA agg len n (x.get tm) (i.get tm)
  | .tas t z x=>ltas t z (x.get tm)
  | .ext x i=>lext i (x.get tm)
  | .call f args=>.call ((args.map (Rd.get tm)).all (sok H 8)=true) f (args.map (Rd.get tm)) ((args.map (Rd.get tm)).map (snap H 8))
  | .callv x args=>lcallv H (x.get tm) (args.map (Rd.get tm))
  | .len b x=>llen b (x.get tm)
  | .app esz bytes x y=>lappx H esz bytes (x.get tm) (y.get tm)
  | .appE esz bytes x y=>lappE H esz bytes (x.get tm) (y.get tm)
  | .cpy ..=>.bad
  | .mkmap=>.C True (.map []) .mm
  | .mlk kt ok z x i=>lmlk H kt ok z (x.get tm) (i.get tm)
  | .mset kt x i v=>lmset H kt (x.get tm) (i.get tm) (v.get tm)
  | .mlen x=>lmlen H (x.get tm)
  | .s2b x=>ls2b (x.get tm)
  | .b2s x=>lb2s H (x.get tm)
  | .eqa n q neg x y=>leqa n q neg (x.get tm) (y.get tm)
  | .bslo n zs ps=>if n=0 then .bad else .C (partsOk tm zs.length ps) (.row 0 (zs.length / n) (fillL tm zs ps)) fun k=>.msl k 0 0 n
  | .msb x=>lmsb H (x.get tm)
  | .rng _=>.bad
  | .nxt _=>.bad
  | .ent _=>.bad
  | .mn mx x y=>lmn mx (x.get tm) (y.get tm)
  | .mx3 x y z=>lmx3 (x.get tm) (y.get tm) (z.get tm)
  | .bad=>.bad
end Go.Lg

namespace Go.Lg
open Go Go.RowKit
section
variable {P:Program} {imm:Nat→Prop} {w:World}
theorem repI_ofVal0 (v:Value):RepI imm w v (ofVal0 v):=by
  unfold ofVal0
  split<;>constructor
theorem repI_ofVal1 (v:Value):RepI imm w v (ofVal1 v):=by
  unfold ofVal1
  split
  · exact .ifc _ _ _ (repI_ofVal0 _)
  · exact repI_ofVal0 _
theorem repI_ofVal (v:Value):RepI imm w v (ofVal v):=by
  unfold ofVal
  split
  · refine .agg _ _ (by simp) fun j v c h1 h2=>?_
    simp only [List.getElem?_map,Option.map_eq_some_iff] at h2
    obtain ⟨u,h2,rfl⟩:=h2
    rw [Array.getElem?_toList,h1] at h2
    cases h2
    exact repI_ofVal1 _
  · exact repI_ofVal1 _
theorem cells_ofVal0 (v:Value):(ofVal0 v).cells=[ofVal0 v]:=by
  unfold ofVal0;split<;>rfl
theorem cells_ofVal1 (v:Value):(ofVal1 v).cells=[ofVal1 v]:=by
  unfold ofVal1
  split
  · rfl
  · exact cells_ofVal0 _
end
theorem ofVal_cells (v:Value):(ofVal v).cells.length=v.cells.size:=by
  have key:∀ v:Value,(∀ cs,v≠.agg cs)→(ofVal v).cells.length=v.cells.size:=by
    intro v hv
    have h1:ofVal v=ofVal1 v:=by
      unfold ofVal
      split
      · exact absurd rfl (hv _)
      · rfl
    have h2:v.cells = #[v]:=by
      unfold Value.cells
      split
      · exact absurd rfl (hv _)
      · rfl
    rw [h1,h2,cells_ofVal1]
    rfl
  cases v with
  | agg cs=>simp [ofVal,V.cells,Value.cells]
  | _=>exact key _ (fun _ h=>by cases h)
section
variable {P:Program} {g:Gh} {w:World} {E:Env} {σ:St} {a:Act}
theorem Rep.cells {v:Value} {x:V} (h:Rep g w v x) (hk:x.known=true) :
    v.cells.size=x.cells.length∧∀ (j:Nat) (u:Value) (c:V),v.cells[j]? = some u→x.cells[j]? = some c→Rep g w u c:=by
  have one:∀ (v:Value) (x:V),Rep g w v x→v.cells = #[v]→x.cells=[x] →
      v.cells.size=x.cells.length∧∀ (j:Nat) (u:Value) (c:V),v.cells[j]? = some u→x.cells[j]? = some c→Rep g w u c:=by
    intro v x h h1 h2
    rw [h1,h2]
    refine ⟨rfl,fun j u c hu hc=>?_⟩
    cases j with
    | zero=>simp at hu hc;subst hu hc;exact h
    | succ j=>simp at hc
  cases x with
  | agg cs =>
    obtain ⟨vs,rfl,hs,hj⟩:=h.agg_inv
    exact ⟨hs,hj⟩
  | junk=>cases hk
  | int=>have:=h.int_inv;subst this;exact one _ _ h rfl rfl
  | bool=>have:=h.bool_inv;subst this;exact one _ _ h rfl rfl
  | str=>have:=h.str_inv;subst this;exact one _ _ h rfl rfl
  | tup=>obtain ⟨vs,rfl,_⟩:=h.tup_inv;exact one _ _ h rfl rfl
  | sl=>obtain ⟨A,c,rfl,_⟩:=h.sl_inv;exact one _ _ h rfl rfl
  | e0=>obtain ⟨A,rfl⟩:=h.e0_inv;exact one _ _ h rfl rfl
  | msl=>obtain ⟨c,A,blk,cap,rfl,_⟩:=h.msl_inv;exact one _ _ h rfl rfl
  | msv=>obtain ⟨c,A,blk,cap,rfl,_⟩:=h.msv_inv;exact one _ _ h rfl rfl
  | qsl=>obtain ⟨c,A,blk,cap,rfl,_⟩:=h.qsl_inv;exact one _ _ h rfl rfl
  | mm=>obtain ⟨b,cap,_,rfl⟩:=h.mm_inv;exact one _ _ h rfl rfl
  | nilp=>have:=h.nilp_inv;subst this;exact one _ _ h rfl rfl
  | ip=>obtain ⟨b,o,us,T,fz,rfl,_⟩:=h.ip_inv;exact one _ _ h rfl rfl
  | mp=>obtain ⟨b,cap,_,rfl⟩:=h.mp_inv;exact one _ _ h rfl rfl
  | ifc=>obtain ⟨u,rfl,_⟩:=h.ifc_inv;exact one _ _ h rfl rfl
  | nili=>have:=h.nili_inv;subst this;exact one _ _ h rfl rfl
  | fn=>obtain ⟨vs,rfl,_⟩:=h.fn_inv;exact one _ _ h rfl rfl
  | nilf=>have h0:=h;cases h with|imm _ _ h'=>cases h';exact one _ _ h0 rfl rfl
  | nilm=>have h0:=h;cases h with|imm _ _ h'=>cases h';exact one _ _ h0 rfl rfl
  | im es=>have h0:=h;cases h with|imm _ _ h'=>cases h';exact one _ _ h0 rfl rfl
theorem rep_rd (ht:∀ t,Rep g w (slotV E a t) (σ.tm t)) (x:Operand):Rep g w (a.eval x) ((rdOf x).get σ.tm):=by
  cases x with
  | tmp t =>
    simp only [rdOf]
    split
    · rename_i h
      have:=ht t
      rw [slotV_lo h] at this
      exact this
    · exact .junk _ _ _
  | const v=>exact .imm _ _ (repI_ofVal v)
  | global n=>exact .junk _ _ _
  | func f=>exact .imm _ _ (.fn f #[] [] rfl fun j v c h=>by simp at h)
theorem Rep.one {v:Value} {x:V} (h:Rep g w v x) (hk:x.one=true):v.cells = #[v]:=by
  have h2:x.known=true:=by cases x<;>simp_all [V.one,V.known]
  cases x with
  | agg cs=>cases hk
  | tup cs=>cases hk
  | junk=>cases hk
  | int=>have:=h.int_inv;subst this;rfl
  | bool=>have:=h.bool_inv;subst this;rfl
  | str=>have:=h.str_inv;subst this;rfl
  | sl=>obtain ⟨A,c,rfl,_⟩:=h.sl_inv;rfl
  | e0=>obtain ⟨A,rfl⟩:=h.e0_inv;rfl
  | msl=>obtain ⟨c,A,blk,cap,rfl,_⟩:=h.msl_inv;rfl
  | msv=>obtain ⟨c,A,blk,cap,rfl,_⟩:=h.msv_inv;rfl
  | qsl=>obtain ⟨c,A,blk,cap,rfl,_⟩:=h.qsl_inv;rfl
  | mm=>obtain ⟨b,cap,_,rfl⟩:=h.mm_inv;rfl
  | nilp=>have:=h.nilp_inv;subst this;rfl
  | ip=>obtain ⟨b,o,us,T,fz,rfl,_⟩:=h.ip_inv;rfl
  | mp=>obtain ⟨b,cap,_,rfl⟩:=h.mp_inv;rfl
  | ifc=>obtain ⟨u,rfl,_⟩:=h.ifc_inv;rfl
  | nili=>have:=h.nili_inv;subst this;rfl
  | fn=>obtain ⟨vs,rfl,_⟩:=h.fn_inv;rfl
  | nilf=>cases h with|imm _ _ h'=>cases h';rfl
  | nilm=>cases h with|imm _ _ h'=>cases h';rfl
  | im es=>cases h with|imm _ _ h'=>cases h';rfl
def oneV (v:Value):Bool:=v.oneCell'
theorem Rep.oneV {v:Value} {x:V} (h:Rep g w v x) (hk:x.one=true):oneV v=true:=by
  cases x with
  | agg cs=>cases hk
  | tup cs=>cases hk
  | junk=>cases hk
  | int=>have:=h.int_inv;subst this;rfl
  | bool=>have:=h.bool_inv;subst this;rfl
  | str=>have:=h.str_inv;subst this;rfl
  | sl=>obtain ⟨A,c,rfl,_⟩:=h.sl_inv;rfl
  | e0=>obtain ⟨A,rfl⟩:=h.e0_inv;rfl
  | msl=>obtain ⟨c,A,blk,cap,rfl,_⟩:=h.msl_inv;rfl
  | msv=>obtain ⟨c,A,blk,cap,rfl,_⟩:=h.msv_inv;rfl
  | qsl=>obtain ⟨c,A,blk,cap,rfl,_⟩:=h.qsl_inv;rfl
  | mm=>obtain ⟨b,cap,_,rfl⟩:=h.mm_inv;rfl
  | nilp=>have:=h.nilp_inv;subst this;rfl
  | ip=>obtain ⟨b,o,us,T,fz,rfl,_⟩:=h.ip_inv;rfl
  | mp=>obtain ⟨b,cap,_,rfl⟩:=h.mp_inv;rfl
  | ifc=>obtain ⟨u,rfl,_⟩:=h.ifc_inv;rfl
  | nili=>have:=h.nili_inv;subst this;rfl
  | fn=>obtain ⟨vs,rfl,_⟩:=h.fn_inv;rfl
  | nilf=>cases h with|imm _ _ h'=>cases h';rfl
  | nilm=>cases h with|imm _ _ h'=>cases h';rfl
  | im es=>cases h with|imm _ _ h'=>cases h';rfl
theorem wrap_of_in {n:Int} (h:InI64 n):IntKind.i64.wrap n=n:=by
  unfold InI64 at h
  exact IntWalk.i64_in _ (by omega)
def LRes.pureOk (P:Program) (g:Gh) (w:World) (s:Sem Value):LRes→Prop
  | .A pre v=>pre→∃ u,s.run P w = .ok u w∧Rep g w u v
  | .bad=>True
  | _=>False
theorem rint (k n):Rep g w (.int k n) (.int k n):=.imm _ _ (.int k n)
theorem rbool (b):Rep g w (.bool b) (.bool b):=.imm _ _ (.bool b)
theorem rstr (b):Rep g w (.string b) (.str b):=.imm _ _ (.str b)
theorem eqGuard_int (op t x y k a k' b):(eqGuard op t x y (.int k a) (.int k' b)).run P w = .ok () w:=by
  unfold eqGuard;split<;>simp
theorem eqGuard_bool (op t x y a b):(eqGuard op t x y (.bool a) (.bool b)).run P w = .ok () w:=by
  unfold eqGuard;split<;>simp
theorem eqGuard_str (op t x y a b):(eqGuard op t x y (.string a) (.string b)).run P w = .ok () w:=by
  unfold eqGuard;split<;>simp
theorem shl_run {t:TypeId} {k k':IntKind} {a b:Int} (h:0≤b) :
    (binOp .shl t (.int k a) (.int k' b)).run P w = .ok (.int k (k.wrap (a*2 ^ (min b.toNat k.bits)))) w:=by
  have h':¬ b<0:=by omega
  simp only [binOp,Op.shift]
  rw [if_neg h']
  rfl
theorem shr_run {t:TypeId} {k k':IntKind} {a b:Int} (h:0≤b) :
    (binOp .shr t (.int k a) (.int k' b)).run P w = .ok (.int k (a.fdiv (2 ^ (min b.toNat k.bits)))) w:=by
  have h':¬ b<0:=by omega
  simp only [binOp,Op.shift]
  rw [if_neg h']
  rfl
theorem lbin_int {op:BinOp} {t:TypeId} {k k':IntKind} {a b:Int} :
    LRes.pureOk P g w (binOp op t (.int k a) (.int k' b)) (lbin op (.int k a) (.int k' b)):=by
  cases op<;>simp only [lbin]<;>(try split)<;>(try subst_vars)<;>(try trivial)<;>intro hp
  all_goals first
    | (obtain ⟨rfl,h1,h2⟩:=hp;refine ⟨_,?_,rint _ _⟩;simp [binOp,Op.intArith,Op.intDiv,h1,wrap_of_in h2];done)
    | (obtain ⟨rfl,h2⟩:=hp;refine ⟨_,?_,rint _ _⟩;simp [binOp,Op.intArith,Op.intDiv,wrap_of_in h2];done)
    | (obtain ⟨rfl,h2⟩:=hp;refine ⟨_,?_,rint _ _⟩;simp [binOp,Op.intArith,Op.intDiv,h2];done)
    | exact ⟨_,shl_run hp,rint _ _⟩
    | exact ⟨_,shr_run hp,rint _ _⟩
    | (subst hp;refine ⟨_,?_,rint _ _⟩;simp [binOp,Op.intArith,Op.intBits,Op.intDiv];done)
    | (subst hp;refine ⟨_,?_,rbool _⟩;simp [binOp,Op.intCmp];done)
    | skip
theorem pureOk_of {s s':Sem Value} {r:LRes} (h:LRes.pureOk P g w s' r) (e:s.run P w=s'.run P w):LRes.pureOk P g w s r:=by
  cases r<;>simp only [LRes.pureOk] at *<;>simp only [e]<;>exact h
theorem lbin_sound {op:BinOp} {t:TypeId} {x y:Operand} {vx vy:Value} {X Y:V} (hx:Rep g w vx X) (hy:Rep g w vy Y) :
    LRes.pureOk P g w (do eqGuard op t x y vx vy;binOp op t vx vy) (lbin op X Y):=by
  cases X with
  | int k a =>
    cases Y with
    | int k' b =>
      have:=hx.int_inv;subst this
      have:=hy.int_inv;subst this
      exact pureOk_of (s':=binOp op t (.int k a) (.int k' b)) lbin_int (by simp [eqGuard_int])
    | _=>trivial
  | str a =>
    cases Y with
    | str b =>
      have:=hx.str_inv;subst this
      have:=hy.str_inv;subst this
      refine pureOk_of (s':=binOp op t (.string a) (.string b)) ?_ (by simp [eqGuard_str])
      cases op<;>simp only [lbin]<;>(try trivial)<;>intro hp
      all_goals first
        | (refine ⟨_,?_,rbool _⟩;simp [binOp,Op.stringOp];done)
        | (refine ⟨_,?_,rstr _⟩
           simp only [binOp,Op.stringOp]
           rw [if_neg (by simp [IntKind.max,IntKind.signed,IntKind.bits];omega)]
           rfl)
    | _=>trivial
  | _=>trivial
theorem equalIn_bool (d:Nat) {t:TypeId} (ht:P.underlying t=some .bool) (a b:Bool) :
    (Op.equalIn (d+1) t (.bool a) (.bool b)).run P w = .ok (a == b) w:=by
  simp [Op.equalIn,run_underlying ht]
theorem equal_bool {t:TypeId} (ht:P.underlying t=some .bool) (a b:Bool) :
    (Op.equal t (.bool a) (.bool b)).run P w = .ok (a == b) w:=equalIn_bool 9999 ht a b
theorem leqb_sound {neg:Bool} {t:TypeId} {x y:Operand} {vx vy:Value} {X Y:V} (hx:Rep g w vx X) (hy:Rep g w vy Y) (ht:P.underlying t=some .bool) :
    LRes.pureOk P g w (do eqGuard (if neg then .neq else .eql) t x y vx vy;binOp (if neg then .neq else .eql) t vx vy) (leqb neg X Y):=by
  cases X with
  | bool a =>
    cases Y with
    | bool b =>
      have:=hx.bool_inv;subst this
      have:=hy.bool_inv;subst this
      refine pureOk_of (s':=binOp (if neg then .neq else .eql) t (.bool a) (.bool b)) ?_ (by simp [eqGuard_bool])
      intro _
      refine ⟨_,?_,rbool _⟩
      cases neg<;>simp [binOp,equal_bool ht,bne]
    | _=>trivial
  | _=>trivial
theorem isPtr_inv {v:Value} {X:V} (h:Rep g w v X) (hp:isPtr X=true):∃ ad,v = .pointer (some ad):=by
  cases X with
  | ip cs off=>obtain ⟨b,o,us,T,fz,rfl,_⟩:=h.ip_inv;exact ⟨_,rfl⟩
  | mp k n off=>obtain ⟨b,cap,_,rfl⟩:=h.mp_inv;exact ⟨_,rfl⟩
  | _=>cases hp
theorem equalIn_nilp (d:Nat) {t e:TypeId} (ht:P.underlying t=some (.pointer e)) (b:Option Addr) :
    (Op.equalIn (d+1) t (.pointer none) (.pointer b)).run P w = .ok b.isNone w:=by
  simp [Op.equalIn,run_underlying ht]
theorem equal_nilp {t e:TypeId} (ht:P.underlying t=some (.pointer e)) (b:Option Addr) :
    (Op.equal t (.pointer none) (.pointer b)).run P w = .ok b.isNone w:=equalIn_nilp 9999 ht b
theorem equalIn_pnil (d:Nat) {t e:TypeId} (ht:P.underlying t=some (.pointer e)) (b:Addr) :
    (Op.equalIn (d+1) t (.pointer (some b)) (.pointer none)).run P w = .ok false w:=by
  simp [Op.equalIn,run_underlying ht]
theorem equal_pnil {t e:TypeId} (ht:P.underlying t=some (.pointer e)) (b:Addr) :
    (Op.equal t (.pointer (some b)) (.pointer none)).run P w = .ok false w:=equalIn_pnil 9999 ht b
theorem equalIn_nn (d:Nat) {t ms} (ht:P.underlying t=some (.interface ms)) :
    (Op.equalIn (d+1) t .nilIface .nilIface).run P w = .ok true w:=by
  simp [Op.equalIn,run_underlying ht]
theorem equalIn_ni (d:Nat) {t t' ms u} (ht:P.underlying t=some (.interface ms)) :
    (Op.equalIn (d+1) t .nilIface (.iface t' u)).run P w = .ok false w:=by
  simp [Op.equalIn,run_underlying ht]
theorem equalIn_in (d:Nat) {t t' ms u} (ht:P.underlying t=some (.interface ms)) :
    (Op.equalIn (d+1) t (.iface t' u) .nilIface).run P w = .ok false w:=by
  simp [Op.equalIn,run_underlying ht]
theorem eqGuard_nn (op t x y) (h:(isConstO x || isConstO y)=true):(eqGuard op t x y .nilIface .nilIface).run P w = .ok () w:=by
  cases x<;>cases y<;>simp [isConstO] at h<;>(unfold eqGuard;split<;>rfl)
theorem eqGuard_ni (op t x y t' u):(eqGuard op t x y .nilIface (.iface t' u)).run P w = .ok () w:=by
  unfold eqGuard;split<;>simp
theorem eqGuard_in (op t x y t' u):(eqGuard op t x y (.iface t' u) .nilIface).run P w = .ok () w:=by
  unfold eqGuard;split<;>simp
theorem eqGuard_ptr (op t x y a b):(eqGuard op t x y (.pointer a) (.pointer b)).run P w = .ok () w:=by
  unfold eqGuard;split<;>simp
theorem binOp_ptr {neg:Bool} {t:TypeId} {a b:Option Addr} {r:Bool} (h:(Op.equal t (.pointer a) (.pointer b)).run P w = .ok r w) :
    (binOp (if neg then .neq else .eql) t (.pointer a) (.pointer b)).run P w = .ok (.bool (if neg then !r else r)) w:=by
  cases neg<;>simp [binOp,h]
theorem leqp_sound {neg:Bool} {t e:TypeId} {x y:Operand} {vx vy:Value} {X Y:V} (hx:Rep g w vx X) (hy:Rep g w vy Y) (ht:P.underlying t=some (.pointer e)) :
    LRes.pureOk P g w (do eqGuard (if neg then .neq else .eql) t x y vx vy;binOp (if neg then .neq else .eql) t vx vy) (leqp neg X Y):=by
  have fin:∀ (a b:Option Addr) (r:Bool) (pre:Prop) (v:V),vx = .pointer a→vy = .pointer b→(Op.equal t (.pointer a) (.pointer b)).run P w = .ok r w→v = .bool (if neg then !r else r) →
      ∃ u,(do eqGuard (if neg then .neq else .eql) t x y vx vy;binOp (if neg then .neq else .eql) t vx vy:Sem Value).run P w = .ok u w∧Rep g w u v:=by
    intro a b r pre v e1 e2 h e3
    subst e1 e2 e3
    refine ⟨_,?_,rbool _⟩
    have h1:=eqGuard_ptr (P:=P) (w:=w) (if neg then BinOp.neq else .eql) t x y a b
    have h2:=binOp_ptr (neg:=neg) h
    simp [h1,h2]
  cases X with
  | nilp =>
    have ex:=hx.nilp_inv
    cases Y with
    | nilp=>intro _;exact fin none none true True _ ex hy.nilp_inv (equal_nilp ht none) (by cases neg<;>rfl)
    | _ =>
      intro hp
      obtain ⟨ad,ey⟩:=isPtr_inv hy hp
      exact fin none (some ad) false True _ ex ey (equal_nilp ht _) (by cases neg<;>rfl)
  | _ =>
    cases Y with
    | nilp =>
      intro hp
      obtain ⟨ad,ex⟩:=isPtr_inv hx hp
      exact fin (some ad) none false True _ ex hy.nilp_inv (equal_pnil ht _) (by cases neg<;>rfl)
    | _=>trivial
theorem eq_fin {neg:Bool} {t:TypeId} {x y:Operand} {vx vy:Value} {r:Bool} {v:V}
    (h1:(eqGuard (if neg then .neq else .eql) t x y vx vy).run P w = .ok () w)
    (h2:(binOp (if neg then .neq else .eql) t vx vy).run P w = .ok (.bool (if neg then !r else r)) w) (e:v = .bool (if neg then !r else r)) :
    ∃ u,(do eqGuard (if neg then .neq else .eql) t x y vx vy;binOp (if neg then .neq else .eql) t vx vy:Sem Value).run P w = .ok u w∧Rep g w u v:=by
  subst e
  refine ⟨_,?_,rbool _⟩
  simp [h1,h2]
theorem binOp_nn {neg:Bool} {t:TypeId} {r:Bool} (h:(Op.equal t .nilIface .nilIface).run P w = .ok r w) :
    (binOp (if neg then .neq else .eql) t .nilIface .nilIface).run P w = .ok (.bool (if neg then !r else r)) w:=by
  cases neg<;>simp [binOp,h]
theorem binOp_ni {neg:Bool} {t t' u} {r:Bool} (h:(Op.equal t .nilIface (.iface t' u)).run P w = .ok r w) :
    (binOp (if neg then .neq else .eql) t .nilIface (.iface t' u)).run P w = .ok (.bool (if neg then !r else r)) w:=by
  cases neg<;>simp [binOp,h]
theorem binOp_in {neg:Bool} {t t' u} {r:Bool} (h:(Op.equal t (.iface t' u) .nilIface).run P w = .ok r w) :
    (binOp (if neg then .neq else .eql) t (.iface t' u) .nilIface).run P w = .ok (.bool (if neg then !r else r)) w:=by
  cases neg<;>simp [binOp,h]
theorem leqi_sound {neg lit:Bool} {t:TypeId} {ms} {x y:Operand} {vx vy:Value} {X Y:V} (hx:Rep g w vx X) (hy:Rep g w vy Y) (ht:P.underlying t=some (.interface ms))
    (hlit:lit=(isConstO x || isConstO y)) :
    LRes.pureOk P g w (do eqGuard (if neg then .neq else .eql) t x y vx vy;binOp (if neg then .neq else .eql) t vx vy) (leqi neg lit X Y):=by
  cases X with
  | nili =>
    have:=hx.nili_inv;subst this
    cases Y with
    | nili =>
      have:=hy.nili_inv;subst this
      intro hp
      exact eq_fin (r:=true) (eqGuard_nn _ _ _ _ (by rw [← hlit];exact hp)) (binOp_nn (equalIn_nn 9999 ht)) (by cases neg<;>rfl)
    | ifc t' y' =>
      obtain ⟨u,rfl,_⟩:=hy.ifc_inv
      intro hp
      exact eq_fin (r:=false) (eqGuard_ni _ _ _ _ _ _) (binOp_ni (equalIn_ni 9999 ht)) (by cases neg<;>rfl)
    | _=>trivial
  | ifc t' x' =>
    obtain ⟨u,rfl,_⟩:=hx.ifc_inv
    cases Y with
    | nili =>
      have:=hy.nili_inv;subst this
      intro hp
      exact eq_fin (r:=false) (eqGuard_in _ _ _ _ _ _) (binOp_in (equalIn_in 9999 ht)) (by cases neg<;>rfl)
    | _=>trivial
  | _=>trivial
theorem lun_sound {op:UnOp} {vx:Value} {X:V} (hx:Rep g w vx X):LRes.pureOk P g w (Op.unary op vx) (lun op X):=by
  cases X with
  | int k n =>
    have:=hx.int_inv;subst this
    cases op<;>simp only [lun]<;>(try trivial)
    · split
      · rename_i h;subst h
        intro hp
        exact ⟨_,by simp [Op.unary,Op.intArith];rfl,by rw [wrap_of_in (by simpa using hp)];simpa using rint _ _⟩
      · intro _;exact ⟨_,by simp [Op.unary,Op.intArith];rfl,by simpa using rint _ _⟩
    · intro _;exact ⟨_,by simp [Op.unary,Op.intBits],rint _ _⟩
  | bool b =>
    have:=hx.bool_inv;subst this
    cases op<;>simp only [lun]<;>(try trivial)
    intro _;exact ⟨_,by simp [Op.unary],rbool _⟩
  | _=>cases op<;>trivial
end
end Go.Lg

namespace Go.Lg
open Go Go.RowKit
def Gh.set (g:Gh) (key:Key) (gen:Nat) (r:Option Nat × Nat):Gh:=⟨g.imm,fun k n=>if k=key∧n=gen then some r else g.ref k n⟩
theorem Gh.set_same (g:Gh) (key gen r):(g.set key gen r).ref key gen=some r:=by simp [Gh.set]
theorem Gh.set_ne (g:Gh) {key k:Key} {gen n:Nat} (r) (h:¬ (k=key∧n=gen)):(g.set key gen r).ref k n=g.ref k n:=by simp [Gh.set,h]
def BlkOk (g:Gh) (w:World) (esz cap:Nat) (cs:List V) (b:Nat):Prop :=
  ∃ (us:Array Value) (T:TypeId) (fz:Nat × Nat),w.heap[b]? = some (.cells us T fz)∧NoFz us.size fz ∧
    cs.length≤us.size∧cap*esz≤us.size∧∀ (j:Nat) (u:Value) (c:V),us[j]? = some u→cs[j]? = some c→Rep g w u c
theorem BlkOk.mono {g g':Gh} {w w':World} {esz cap cs b} (h:BlkOk g w esz cap cs b) (hb:w'.heap[b]? = w.heap[b]?)
    (hr:∀ v x,Rep g w v x→Rep g' w' v x):BlkOk g' w' esz cap cs b:=by
  obtain ⟨us,T,fz,h1,h2,h3,h4,h5⟩:=h
  exact ⟨us,T,fz,hb.trans h1,h2,h3,h4,fun j u c hu hc=>hr _ _ (h5 j u c hu hc)⟩
section
variable {P:Program} {g:Gh} {w w':World} {E:Env} {σ:St} {a:Act}
theorem ObjRel.keep {B:Nat} {F:Nat→Prop} {g g':Gh} {w w':World} {k:Key} {o:LObj} (h:ObjRel B F w g k o) (hsz:w.heap.size≤w'.heap.size) (href:∀ n r,g.ref k n=some r→g'.ref k n=some r)
    (hnone:∀ m,g.ref k m=none→g'.ref k m=none) (himm:∀ b,blkOf g k o=some b→g'.imm b→g.imm b) (hblk:∀ b,blkOf g k o=some b→w'.heap[b]? = w.heap[b]?) (hrep:∀ v x,Rep g w v x→Rep g' w' v x) (hii:∀ b,g.imm b→g'.imm b) (hbi:∀ b,g.imm b→w'.heap[b]? = w.heap[b]?):ObjRel B F w' g' k o:=by
  cases o with
  | row gen esz cs =>
    obtain ⟨blk,cap,r1,r2,r3⟩:=h
    refine ⟨blk,cap,href _ _ r1,fun m hm=>hnone m (r2 m hm),?_⟩
    cases blk with
    | none=>exact r3
    | some b =>
      have hb:blkOf g k (.row gen esz cs)=some b:=by simp [blkOf,r1]
      obtain ⟨q1,q2,q3,q4⟩:=r3
      exact ⟨q1,Nat.lt_of_lt_of_le q2 hsz,fun hm=>q3 (himm b hb hm),BlkOk.mono q4 (hblk b hb) hrep⟩
  | map es =>
    obtain ⟨b,r1,r2,q1,q2,q3,q4⟩:=h
    have hb:blkOf g k (.map es)=some b:=by simp [blkOf,r1]
    exact ⟨b,href _ _ r1,fun m hm=>hnone m (r2 m hm),q1,Nat.lt_of_lt_of_le q2 hsz,fun hm=>q3 (himm b hb hm),q4.mono (hblk b hb) hrep⟩
  | it left last =>
    obtain ⟨b,r1,r2,q1,q2,q3,q4⟩:=h
    have hb:blkOf g k (.it left last)=some b:=by simp [blkOf,r1]
    exact ⟨b,href _ _ r1,fun m hm=>hnone m (r2 m hm),q1,Nat.lt_of_lt_of_le q2 hsz,fun hm=>q3 (himm b hb hm),q4.mono (hblk b hb) hii hbi hrep⟩
theorem ObjRel.blk {B:Nat} {F:Nat→Prop} {g:Gh} {w:World} {k:Key} {o:LObj} (h:ObjRel B F w g k o) {b:Nat} (hb:blkOf g k o=some b):b<w.heap.size∧¬ g.imm b∧OwnB B F k b:=by
  cases o with
  | row gen esz cs =>
    obtain ⟨blk,cap,r1,r2,r3⟩:=h
    simp only [blkOf,r1,Option.bind_some] at hb
    subst hb
    exact ⟨r3.2.1,r3.2.2.1,r3.1⟩
  | map es =>
    obtain ⟨b',r1,r2,q1,q2,q3,q4⟩:=h
    simp only [blkOf,r1,Option.bind_some,Option.some.injEq] at hb
    subst hb
    exact ⟨q2,q3,q1⟩
  | it left last =>
    obtain ⟨b',r1,r2,q1,q2,q3,q4⟩:=h
    simp only [blkOf,r1,Option.bind_some,Option.some.injEq] at hb
    subst hb
    exact ⟨q2,q3,q1⟩
theorem ObjRel.blk_keep {B:Nat} {F:Nat→Prop} {g g':Gh} {w:World} {k:Key} {o:LObj} (h:ObjRel B F w g k o) (href:∀ n r,g.ref k n=some r→g'.ref k n=some r):blkOf g' k o=blkOf g k o:=by
  cases o with
  | row gen esz cs =>
    obtain ⟨blk,cap,r1,_⟩:=h
    simp only [blkOf,r1,href _ _ r1]
  | map es =>
    obtain ⟨b',r1,_⟩:=h
    simp only [blkOf,r1,href _ _ r1]
  | it left last =>
    obtain ⟨b',r1,_⟩:=h
    simp only [blkOf,r1,href _ _ r1]
theorem SimG.grow (hs:SimG E g σ a w) {imm':Nat→Prop} (hb:BelowD w.heap.size w w') (h1:∀ b,g.imm b→imm' b)
    (h2:∀ b,imm' b→g.imm b∨(w.heap.size≤b∧b<w'.heap.size)):SimG E ⟨imm',g.ref⟩ σ a w':=by
  have hrep:∀ v x,Rep g w v x→Rep ⟨imm',g.ref⟩ w' v x:=fun v x h=>h.mono h1 (fun b hm=>hb.block b (hs.immlt b hm)) (fun _ _ _ h=>h)
  have hlt:=hb.size
  refine ⟨hs.below.trans (.of (hb.mono hs.sizeB)),Nat.le_trans hs.sizeB hlt,hs.size,hs.defers,fun t=>hrep _ _ (hs.tm t),?_,fun b h=>h1 b (hs.imm0 b h),?_,?_,hs.apart,hs.fresh,hs.ref0⟩
  · intro b hm
    rcases h2 b hm with h|h
    · have:=hs.immlt b h;omega
    · exact h.2
  · intro b hB hm
    rcases h2 b hm with h|h
    · exact hs.immB b hB h
    · have:=hs.sizeB;omega
  · intro k o hk
    have ho:=hs.obj k o hk
    refine ho.keep hlt (fun _ _ h=>h) (fun _ h=>h) (fun b hbk hm=>?_) (fun b hbk=>hb.block b (ho.blk hbk).1) hrep h1 (fun b hm=>hb.block b (hs.immlt b hm))
    rcases h2 b hm with h|h
    · exact h
    · have:=(ho.blk hbk).1;omega
theorem SimG.grow_same (hs:SimG E g σ a w) (hb:BelowD w.heap.size w w'):SimG E g σ a w' :=
  hs.grow hb (fun _ h=>h) (fun _ h=>.inl h)
theorem SimG.newAny (hs:SimG E g σ a w) (s:Nat) {o0:LObj} {r0:Option Nat × Nat} (hb:BelowF E.B E.F w w') (hbl:∀ b,b<w.heap.size→w'.heap[b]? = w.heap[b]?)
    (hnew:ObjRel E.B E.F w' (g.set (s,σ.cnt s) 0 r0) (s,σ.cnt s) o0) (hfree:∀ b,blkOf (g.set (s,σ.cnt s) 0 r0) (s,σ.cnt s) o0=some b→∀ k o,σ.H k=some o→blkOf g k o≠some b) :
    SimG E (g.set (s,σ.cnt s) 0 r0) ⟨σ.tm,hupd σ.H (s,σ.cnt s) o0,cupd σ.cnt s⟩ a w':=by
  have hfr:=(hs.fresh s (σ.cnt s) (Nat.le_refl _)).2
  have href:∀ k n r,g.ref k n=some r→(g.set (s,σ.cnt s) 0 r0).ref k n=some r:=by
    intro k n r h
    rw [Gh.set_ne]
    · exact h
    · rintro ⟨rfl,rfl⟩;rw [hfr] at h;cases h
  have hrep:∀ v x,Rep g w v x→Rep (g.set (s,σ.cnt s) 0 r0) w' v x:=fun v x h=>h.mono (fun _ h=>h) (fun b hm=>hbl b (hs.immlt b hm)) href
  have hlt:=hb.size
  refine ⟨hs.below.trans hb,Nat.le_trans hs.sizeB hlt,hs.size,hs.defers,fun t=>hrep _ _ (hs.tm t),fun b hm=>Nat.lt_of_lt_of_le (hs.immlt b hm) hlt,hs.imm0,hs.immB,?_,?_,?_,fun k n r hp h=>href k n r (hs.ref0 k n r hp h)⟩
  · intro k o hk
    simp only [hupd] at hk
    split at hk
    · rename_i e;subst e;cases hk
      exact hnew
    · rename_i hne
      have ho:=hs.obj k o hk
      refine ho.keep hlt (fun n r h=>href k n r h) (fun m h=>?_) (fun b _ h=>h) (fun b hbk=>hbl b (ho.blk hbk).1) hrep (fun _ h=>h) (fun b hm=>hbl b (hs.immlt b hm))
      rw [Gh.set_ne]
      · exact h
      · rintro ⟨rfl,_⟩;exact hne rfl
  · have same:∀ k o,σ.H k=some o→blkOf (g.set (s,σ.cnt s) 0 r0) k o=blkOf g k o:=fun k o hk=>(hs.obj k o hk).blk_keep fun n r h=>href k n r h
    intro k k' o o' b hk hk' hb1 hb2
    simp only [hupd] at hk hk'
    split at hk<;>split at hk'
    · rename_i e1 e2;rw [e1,e2]
    · rename_i e1 e2
      subst e1;cases hk
      rw [same k' o' hk'] at hb2
      exact absurd hb2 (hfree b hb1 k' o' hk')
    · rename_i e1 e2
      subst e2;cases hk'
      rw [same k o hk] at hb1
      exact absurd hb1 (hfree b hb2 k o hk)
    · rename_i e1 e2
      rw [same k o hk] at hb1
      rw [same k' o' hk'] at hb2
      exact hs.apart k k' o o' b hk hk' hb1 hb2
  · intro s' n hn
    simp only [cupd] at hn
    by_cases he:(s',n)=(s,σ.cnt s)
    · injection he with e1 e2
      subst e1
      rw [if_pos rfl] at hn;omega
    · have hn':σ.cnt s'≤n:=by
        split at hn
        · rename_i e;subst e;omega
        · exact hn
      have:=hs.fresh s' n hn'
      refine ⟨by simp only [hupd];rw [if_neg he];exact this.1,fun m=>?_⟩
      rw [Gh.set_ne]
      · exact this.2 m
      · rintro ⟨e,_⟩;exact he e
theorem SimG.newObj (hs:SimG E g σ a w) (s:Nat) {esz cap:Nat} {cs:List V} {blk:Option Nat} (hb:BelowD w.heap.size w w')
    (hnew:match blk with
      | none=>cs=[]∧cap=0
      | some b=>w.heap.size≤b∧b<w'.heap.size∧BlkOk (g.set (s,σ.cnt s) 0 (blk,cap)) w' esz cap cs b) :
    SimG E (g.set (s,σ.cnt s) 0 (blk,cap)) ⟨σ.tm,hupd σ.H (s,σ.cnt s) (.row 0 esz cs),cupd σ.cnt s⟩ a w':=by
  have hfr:=(hs.fresh s (σ.cnt s) (Nat.le_refl _)).2
  refine hs.newAny s (.of (hb.mono hs.sizeB)) (fun b h=>hb.block b h) ⟨blk,cap,Gh.set_same _ _ _ _,fun m hm=>?_,?_⟩ (fun b hbk k o hk hb'=>?_)
  · rw [Gh.set_ne]
    · exact hfr m
    · rintro ⟨_,rfl⟩;omega
  · cases blk with
    | none=>exact hnew
    | some b=>exact ⟨.inl (Nat.le_trans hs.sizeB hnew.1),hnew.2.1,fun hm=>by have:=hs.immlt b hm;have:=hnew.1;omega,hnew.2.2⟩
  · have:=((hs.obj k o hk).blk hb').1
    simp only [blkOf,Gh.set_same,Option.bind_some] at hbk
    subst hbk
    have:=hnew.1;omega
theorem SimG.setAny (hs:SimG E g σ a w) {key:Key} {o0:LObj} (hk:σ.H key=some o0) {gen':Nat} {r':Option Nat × Nat} {o1:LObj} (href:∀ k n r,g.ref k n=some r→(g.set key gen' r').ref k n=some r) (hb:BelowF E.B E.F w w')
    (hkeep:∀ k,k<w.heap.size→blkOf g key o0≠some k→w'.heap[k]? = w.heap[k]?) (hnew:(∀ v x,Rep g w v x→Rep (g.set key gen' r') w' v x)→ObjRel E.B E.F w' (g.set key gen' r') key o1)
    (hblk:∀ b,blkOf (g.set key gen' r') key o1=some b→blkOf g key o0=some b∨w.heap.size≤b) :
    SimG E (g.set key gen' r') ⟨σ.tm,hupd σ.H key o1,σ.cnt⟩ a w':=by
  have ho0:=hs.obj key _ hk
  have himm:∀ b,g.imm b→w'.heap[b]? = w.heap[b]?:=by
    intro b hm
    refine hkeep b (hs.immlt b hm) fun e=>?_
    exact (ho0.blk e).2.1 hm
  have hrep:∀ v x,Rep g w v x→Rep (g.set key gen' r') w' v x:=fun v x h=>h.mono (fun _ h=>h) himm href
  have hlt:=hb.size
  refine ⟨hs.below.trans hb,Nat.le_trans hs.sizeB hlt,hs.size,hs.defers,fun t=>hrep _ _ (hs.tm t),fun b hm=>Nat.lt_of_lt_of_le (hs.immlt b hm) hlt,hs.imm0,hs.immB,?_,?_,?_,fun k n r hp h=>href k n r (hs.ref0 k n r hp h)⟩
  · intro k o hk'
    simp only [hupd] at hk'
    split at hk'
    · rename_i e;subst e;cases hk'
      exact hnew hrep
    · rename_i hne
      have ho:=hs.obj k o hk'
      refine ho.keep hlt (fun n r h=>href k n r h) (fun m h=>?_) (fun b _ h=>h) (fun b hbk=>hkeep b (ho.blk hbk).1 fun e=>hne (hs.apart k key _ _ b hk' hk hbk e)) hrep (fun _ h=>h) himm
      rw [Gh.set_ne]
      · exact h
      · rintro ⟨rfl,_⟩;exact hne rfl
  · have same:∀ k o,σ.H k=some o→blkOf (g.set key gen' r') k o=blkOf g k o:=fun k o hk=>(hs.obj k o hk).blk_keep fun n r h=>href k n r h
    have clash:∀ k o b,σ.H k=some o→k≠key→blkOf g k o=some b→blkOf (g.set key gen' r') key o1=some b→False:=by
      intro k o b hk1 hne hb1 e
      rcases hblk b e with e|e
      · exact hne (hs.apart k key _ _ b hk1 hk hb1 e)
      · have:=((hs.obj k o hk1).blk hb1).1;omega
    intro k k' o o' b h1 h2 hb1 hb2
    simp only [hupd] at h1 h2
    split at h1<;>split at h2
    · rename_i e1 e2;rw [e1,e2]
    · rename_i e1 e2
      subst e1;cases h1
      rw [same k' o' h2] at hb2
      exact (clash k' o' b h2 e2 hb2 hb1).elim
    · rename_i e1 e2
      subst e2;cases h2
      rw [same k o h1] at hb1
      exact (clash k o b h1 e1 hb1 hb2).elim
    · rename_i e1 e2
      rw [same k o h1] at hb1
      rw [same k' o' h2] at hb2
      exact hs.apart k k' o o' b h1 h2 hb1 hb2
  · intro s' n hn
    have hf:=hs.fresh s' n hn
    have hne:(s',n)≠key:=by rintro rfl;rw [hf.1] at hk;cases hk
    refine ⟨by simp only [hupd];rw [if_neg hne];exact hf.1,fun m=>?_⟩
    rw [Gh.set_ne]
    · exact hf.2 m
    · rintro ⟨e,_⟩;exact hne e
theorem SimG.setObj (hs:SimG E g σ a w) {key:Key} {gen esz:Nat} {cs:List V} (hk:σ.H key=some (.row gen esz cs)) {gen' esz' cap':Nat} {cs':List V} {blk':Option Nat}
    (hgen:gen≤gen') (hgg:gen' = gen→g.ref key gen=some (blk',cap')) (hb:BelowF E.B E.F w w')
    (hkeep:∀ k,k<w.heap.size→blkOf g key (.row gen esz cs)≠some k→w'.heap[k]? = w.heap[k]?)
    (hnew:match blk' with
      | none=>cs' = []∧cap' = 0
      | some b=>(blkOf g key (.row gen esz cs)=some b∨w.heap.size≤b)∧b<w'.heap.size∧BlkOk (g.set key gen' (blk',cap')) w' esz' cap' cs' b) :
    SimG E (g.set key gen' (blk',cap')) ⟨σ.tm,hupd σ.H key (.row gen' esz' cs'),σ.cnt⟩ a w':=by
  obtain ⟨blk,cap,r1,r2,r3⟩:=hs.obj key _ hk
  have hblk:blkOf g key (.row gen esz cs)=blk:=by simp [blkOf,r1]
  rw [hblk] at hnew
  have href:∀ k n r,g.ref k n=some r→(g.set key gen' (blk',cap')).ref k n=some r:=by
    intro k n r h
    by_cases e:k=key∧n=gen'
    · obtain ⟨rfl,rfl⟩:=e
      rw [Gh.set_same]
      rcases Nat.lt_or_ge gen n with hlt|hge
      · rw [r2 n hlt] at h;cases h
      · obtain rfl:n=gen:=by omega
        rw [← hgg rfl];exact h
    · rw [Gh.set_ne _ _ e];exact h
  refine hs.setAny hk href hb hkeep (fun hrep=>⟨blk',cap',Gh.set_same _ _ _ _,fun m hm=>?_,?_⟩) (fun b hbk=>?_)
  · rw [Gh.set_ne]
    · exact r2 m (by omega)
    · rintro ⟨_,rfl⟩;omega
  · cases blk' with
    | none=>exact hnew
    | some b =>
      refine ⟨?_,hnew.2.1,fun hm=>?_,hnew.2.2⟩
      · rcases hnew.1 with rfl|h
        · exact r3.1
        · exact .inl (Nat.le_trans hs.sizeB h)
      · rcases hnew.1 with rfl|h
        · exact r3.2.2.1 hm
        · have:b<w.heap.size:=hs.immlt b hm
          omega
  · rw [hblk]
    simp only [blkOf,Gh.set_same,Option.bind_some] at hbk
    subst hbk
    exact hnew.1
end
end Go.Lg

namespace Go.Lg
open Go Go.RowKit
section
variable {P:Program} {g:Gh} {w w':World} {E:Env} {σ:St} {a:Act}
theorem cell_at {b o:Nat} {us:Array Value} {T fz} (h:w.heap[b]? = some (.cells us T fz)):w.cell? ⟨b,o,none⟩=us[o]?:=by
  simp [World.cell?,h]
theorem frozen_at {b o:Nat} {us:Array Value} {T} {fz:Nat × Nat} (h:w.heap[b]? = some (.cells us T fz)) (hf:¬ (fz.1≤o∧o<fz.2)):w.frozen? ⟨b,o,none⟩=false:=by
  obtain ⟨lo,hi⟩:=fz
  simp only [World.frozen?,h]
  simpa using hf
theorem addr_add (b o i:Nat):(Addr.mk b o none).add i=⟨b,o+i,none⟩:=by
  unfold Addr.add;split
  · rename_i h;subst h;rfl
  · rfl
theorem run_loadCellsFrom {b off:Nat} {us:Array Value} {T fz} (h:w.heap[b]? = some (.cells us T fz)):∀ (n i:Nat) (acc:Array Value),off+i+n≤us.size →
    (loadCellsFrom ⟨b,off,none⟩ i n acc).run P w = .ok (acc++us.extract (off+i) (off+i+n)) w
  | 0,i,acc,_=>by
    have e:us.extract (off+i) (off+i+0) = #[]:=by
      apply Array.ext'
      simp [Array.toList_extract,List.extract_eq_take_drop]
    rw [e]
    simp [loadCellsFrom]
  | n+1,i,acc,hn=>by
    have hc:w.cell? ((Addr.mk b off none).add i)=some us[off+i]:=by
      rw [addr_add,cell_at h];exact Array.getElem?_eq_getElem (by omega)
    have ih:=run_loadCellsFrom (off:=off) h n (i+1) (acc.push us[off+i]) (by omega)
    have hl:(load ((Addr.mk b off none).add i)).run P w = .ok us[off+i] w:=by
      simp only [load,Sem.run,hc]
    simp only [loadCellsFrom]
    rw [Sem.run_bind,hl,Result.andThen_ok,ih]
    congr 1
    apply Array.ext'
    have e:off+i+(n+1)=off+(i+1)+n:=by omega
    simp only [Array.toList_append,Array.toList_push,Array.toList_extract,List.extract_eq_take_drop]
    rw [show off+(i+1)+n - (off+(i+1))=n by omega,show off+i+(n+1) - (off+i)=n+1 by omega]
    have hd:us.toList.drop (off+i)=us[off+i]::us.toList.drop (off+(i+1)):=by
      rw [List.drop_eq_getElem_cons (by simp;omega)]
      simp [Nat.add_assoc]
    rw [hd]
    simp
theorem run_loadCells {b off n:Nat} {us:Array Value} {T fz} (h:w.heap[b]? = some (.cells us T fz)) (hn:off+n≤us.size) :
    (loadCells ⟨b,off,none⟩ n).run P w = .ok (us.extract off (off+n)) w:=by
  unfold loadCells
  rw [run_loadCellsFrom h n 0 #[] (by omega)]
  simp
structure Stored (w w':World) (b off:Nat) (vs:List Value) (us:Array Value) (T:TypeId) (fz:Nat × Nat):Prop where
  cells:∃ us',w'.heap[b]? = some (.cells us' T fz)∧us'.size=us.size∧∀ j,us'[j]? = if off≤j∧j<off+vs.length then vs[j - off]? else us[j]?
  other:∀ k,k≠b→w'.heap[k]? = w.heap[k]?
  size:w'.heap.size=w.heap.size
  os:w'.os=w.os
  tape:w'.tape=w.tape
  output:w'.output=w.output
  drawn:w'.drawn=w.drawn
theorem run_storeCells {b off:Nat} {T fz}:∀ (vs:List Value) (i:Nat) (w:World) (us:Array Value),w.heap[b]? = some (.cells us T fz)→(∀ o,o<us.size→¬ (fz.1≤o∧o<fz.2)) →
    off+i+vs.length≤us.size→(∀ v∈vs,oneV v=true) →
    ∃ w',(storeCells ⟨b,off,none⟩ vs i).run P w = .ok () w'∧Stored w w' b (off+i) vs us T fz
  | [],i,w,us,h,_,_,_=>⟨w,by simp [storeCells],⟨⟨us,h,rfl,fun j=>by rw [if_neg (by simp)]⟩,fun _ _=>rfl,rfl,rfl,rfl,rfl,rfl⟩⟩
  | v::vs,i,w,us,h,hf,hn,hv=>by
    simp only [List.length_cons] at hn
    have hc:w.cell? ((Addr.mk b off none).add i)=some us[off+i]:=by
      rw [addr_add,cell_at h];exact Array.getElem?_eq_getElem (by omega)
    have hfz:w.frozen? ((Addr.mk b off none).add i)=false:=by
      rw [addr_add];exact frozen_at h (hf _ (by omega))
    have hw1:(w.setCell ((Addr.mk b off none).add i) v).heap[b]? = some (.cells (us.setIfInBounds (off+i) v) T fz):=by
      rw [addr_add];simp [World.setCell,Array.getElem?_modify,h]
    obtain ⟨w',hr,hst⟩:=run_storeCells (b:=b) (off:=off) vs (i+1) (w.setCell ((Addr.mk b off none).add i) v) (us.setIfInBounds (off+i) v) hw1
      (fun o ho=>hf o (by simpa using ho)) (by simp;omega) (fun u hu=>hv u (List.mem_cons_of_mem _ hu))
    refine ⟨w',?_,?_⟩
    · have h1:oneV v=true:=hv v (List.mem_cons_self ..)
      have hst1:(store ((Addr.mk b off none).add i) v).run P w = .ok () (w.setCell ((Addr.mk b off none).add i) v):=by
        have h2:v.oneCell' = true:=h1
        rw [run_store P w _ v _ h2]
        simp [stored,hc,hfz]
      simp only [storeCells]
      rw [Sem.run_bind,hst1,Result.andThen_ok,hr]
    · obtain ⟨⟨us',e1,e2,e3⟩,ho,hs,h4,h5,h6,h7⟩:=hst
      refine ⟨⟨us',e1,by simpa using e2,fun j=>?_⟩,fun k hk=>?_,by simpa using hs,h4,h5,h6,h7⟩
      · rw [e3 j]
        simp only [List.length_cons]
        by_cases c1:off+(i+1)≤j∧j<off+(i+1)+vs.length
        · rw [if_pos c1,if_pos (by omega),show j - (off+i)=(j - (off+(i+1)))+1 by omega];simp
        · rw [if_neg c1]
          by_cases c2:j=off+i
          · subst c2;rw [if_pos (by omega)];simp [show off+i<us.size by omega]
          · rw [if_neg (by omega),Array.getElem?_setIfInBounds_ne (by omega)]
      · rw [ho k hk,addr_add]
        exact Below.heap_setCell _ _ _ _ hk
def LRes.ok (P:Program) (E:Env) (g:Gh) (σ:St) (a:Act) (w:World) (s:Nat) (q:Sem Next):LRes→Prop
  | .A pre v=>pre→∃ u w' g',q.run P w = .ok (.value u) w'∧SimG E g' σ a w'∧Rep g' w' u v
  | .C pre o mk=>pre→∃ u w' g',q.run P w = .ok (.value u) w'∧SimG E g' ⟨σ.tm,hupd σ.H (s,σ.cnt s) o,cupd σ.cnt s⟩ a w'∧Rep g' w' u (mk (s,σ.cnt s))
  | .D pre v H'=>pre→∃ n w' g',q.run P w = .ok n w'∧((n = .skip∧v = .junk)∨∃ u,n = .value u∧Rep g' w' u v)∧SimG E g' ⟨σ.tm,H',σ.cnt⟩ a w'
  | .call pre f args sargs=>entersOk P f=true→∃ vs:Array Value,q.run P w = .ok (.enter f vs) w∧vs.size=args.length∧(∀ (j:Nat) (u:Value) (c:V),vs[j]? = some u→args[j]? = some c→Rep g w u c)∧sargs=args.map (snap σ.H 8)∧(pre→args.all (sok σ.H 8)=true)
  | .bad=>True
theorem ok_of_pure (hs:SimG E g σ a w) {s:Nat} {q:Sem Value} {r:LRes} (h:LRes.pureOk P g w q r):LRes.ok P E g σ a w s (do pure (.value (← q))) r:=by
  cases r with
  | A pre v=>intro hp;obtain ⟨u,h1,h2⟩:=h hp;exact ⟨u,w,g,by simp [h1],hs,h2⟩
  | bad=>trivial
  | C=>exact h.elim
  | D=>exact h.elim
  | call=>exact h.elim
theorem ldV_sound {us:Array Value} {cs:List V} {o off n:Nat} {agg:Bool} {v:V} (hl:o+cs.length≤us.size)
    (hr:∀ (j:Nat) (u:Value) (c:V),us[o+j]? = some u→cs[j]? = some c→Rep g w u c) (h:ldV agg n cs off=some v) :
    (agg=true→off+n≤cs.length∧Rep g w (.agg (us.extract (o+off) (o+off+n))) v)∧(agg=false→∃ u,us[o+off]? = some u∧Rep g w u v):=by
  unfold ldV at h
  cases agg with
  | true =>
    simp only [if_true] at h
    split at h
    · rename_i hle
      cases h
      refine ⟨fun _=>⟨hle,.agg _ _ ?_ ?_⟩,(fun h=>by cases h)⟩
      · simp;omega
      · intro j u c hu hc
        rw [Array.getElem?_extract] at hu
        split at hu
        · rw [List.getElem?_take] at hc
          split at hc
          · rw [List.getElem?_drop] at hc
            exact hr (off+j) u c (by rw [← Nat.add_assoc];exact hu) hc
          · cases hc
        · cases hu
    · cases h
  | false =>
    simp only [Bool.false_eq_true,if_false] at h
    refine ⟨(fun h=>by cases h),fun _=>?_⟩
    have hlt:off<cs.length:=by
      rcases Nat.lt_or_ge off cs.length with h' | h'
      · exact h'
      · rw [List.getElem?_eq_none h'] at h;cases h
    have:o+off<us.size:=by omega
    exact ⟨us[o+off],Array.getElem?_eq_getElem this,hr off _ _ (Array.getElem?_eq_getElem this) h⟩
theorem szT_run {t s:Nat} (h:szT P t=some s):(sizeOf t).run P w = .ok s w:=by
  unfold szT at h
  cases hi:P.info? t with
  | none=>simp [hi] at h
  | some i=>simp [hi] at h;subst h;simp [sizeOf,typeInfo,hi]
theorem bytesT_run {t s:Nat} (h:bytesT P t=some s):∃ i,P.info? t=some i∧i.bytes=s:=by
  unfold bytesT at h
  cases hi:P.info? t with
  | none=>simp [hi] at h
  | some i=>simp [hi] at h;exact ⟨i,rfl,h⟩
theorem zeroT_run {t:Nat} {z:V} (h:zeroT P t=some z):∃ v,(zeroValue t).run P w = .ok v w∧z=ofVal v:=by
  unfold zeroT at h
  cases hi:P.info? t with
  | none=>simp [hi] at h
  | some i =>
    cases hz:i.zero with
    | none=>simp [hi,hz] at h
    | some v=>simp [hi,hz] at h;exact ⟨v,by simp [zeroValue,typeInfo,hi,hz],h.symm⟩
end
end Go.Lg

namespace Go.Lg
open Go Go.RowKit
section
variable {P:Program} {g:Gh} {w w':World} {E:Env} {σ:St} {a:Act}
theorem aggOf_run {t:Nat} {b:Bool} (h:aggOf P t=some b):(isAgg t).run P w = .ok b w:=by
  unfold aggOf at h
  cases hd:P.underlying t with
  | none=>simp [hd] at h
  | some d=>cases d<;>simp [hd] at h<;>subst h<;>simp [isAgg,run_underlying hd]
theorem ofVal_cells_rep {v u:Value} {c:V} {j:Nat} (h1:v.cells[j]? = some u) (h2:(ofVal v).cells[j]? = some c):Rep g w u c:=by
  have key:∀ v:Value,(∀ cs,v≠.agg cs)→v.cells[j]? = some u→(ofVal v).cells[j]? = some c→Rep g w u c:=by
    intro v hv h1 h2
    have e1:ofVal v=ofVal1 v:=by
      unfold ofVal
      split
      · exact absurd rfl (hv _)
      · rfl
    have e2:v.cells = #[v]:=by
      unfold Value.cells
      split
      · exact absurd rfl (hv _)
      · rfl
    rw [e1,cells_ofVal1] at h2
    rw [e2] at h1
    cases j with
    | zero=>simp at h1 h2;subst h1 h2;exact .imm _ _ (repI_ofVal1 _)
    | succ j=>simp at h2
  cases v with
  | agg cs =>
    simp only [ofVal,V.cells,Value.cells,List.getElem?_map,Option.map_eq_some_iff] at h1 h2
    obtain ⟨x,h2,rfl⟩:=h2
    rw [Array.getElem?_toList,h1] at h2
    cases h2
    exact .imm _ _ (repI_ofVal1 _)
  | _=>exact key _ (fun _ h=>by cases h) h1 h2
theorem newRow_obj (hs:SimG E g σ a w) (s:Nat) {us:Array Value} {cs:List V} {esz cap:Nat} (T:TypeId) (hl:cs.length≤us.size) (hc:cap*esz≤us.size)
    (hr:∀ (j:Nat) (u:Value) (c:V),us[j]? = some u→cs[j]? = some c→Rep g w u c) :
    SimG E (g.set (s,σ.cnt s) 0 (some w.heap.size,cap)) ⟨σ.tm,hupd σ.H (s,σ.cnt s) (.row 0 esz cs),cupd σ.cnt s⟩ a (w.alloc (.cells us T)):=by
  have hb:BelowD w.heap.size w (w.alloc (.cells us T)):=(BelowD.refl _ _).alloc (Nat.le_refl _) _
  refine hs.newObj s hb ⟨Nat.le_refl _,by simp,us,T,(0,0),?_,?_,hl,hc,?_⟩
  · show (w.heap.push _)[w.heap.size]? = _
    simp
  · exact ⟨fun o _ h=>by omega,Nat.le_refl _⟩
  · intro j u c hu hc'
    refine (hr j u c hu hc').mono (fun _ h=>h) (fun b hm=>hb.block b (hs.immlt b hm)) ?_
    intro k n r h
    rw [Gh.set_ne]
    · exact h
    · rintro ⟨rfl,rfl⟩
      rw [(hs.fresh s (σ.cnt s) (Nat.le_refl _)).2] at h;cases h
theorem rep_new (key:Key) (gen b cap:Nat) (off:Nat):Rep (g.set key gen (some b,cap)) w (.pointer (some ⟨b,off,none⟩)) (.mp key gen off) :=
  .mp key gen off b cap (Gh.set_same _ _ _ _)
theorem alloc_ok (hs:SimG E g σ a w) {s:Nat} {t:TypeId} {z:V} (h:zeroT P t=some z) :
    LRes.ok P E g σ a w s (do pure (.value (← Instr.alloc t true (.tuple #[])))) (.C True (.row 0 0 z.cells) fun k=>.mp k 0 0):=by
  obtain ⟨v,hv,rfl⟩:=zeroT_run (w:=w) h
  intro _
  refine ⟨_,_,_,?_,newRow_obj hs s (us:=v.cells) (cs:=(ofVal v).cells) (esz:=0) (cap:=0) t (by rw [ofVal_cells];exact Nat.le_refl _) (by omega) (fun j u c h1 h2=>ofVal_cells_rep h1 h2),rep_new _ _ _ _ 0⟩
  simp [Instr.alloc,hv,newVar,newRow]
theorem box_ok (hs:SimG E g σ a w) {s:Nat} {t:TypeId} {v:Value} {x:V} (h:Rep g w v x) :
    LRes.ok P E g σ a w s (do pure (.value (← Instr.box t v))) (.C (x.known=true) (.row 0 0 x.cells) fun k=>.mp k 0 0):=by
  intro hk
  obtain ⟨h1,h2⟩:=h.cells hk
  refine ⟨_,_,_,?_,newRow_obj hs s (us:=v.cells) (cs:=x.cells) (esz:=0) (cap:=0) t (by omega) (by omega) h2,rep_new _ _ _ _ 0⟩
  simp [Instr.box,newVar,newRow]
theorem loadAt_run {t n:Nat} {agg:Bool} {b o off:Nat} {us:Array Value} {T fz} {cs:List V} {v:V} (hsz:szT P t=some n) (hagg:aggOf P t=some agg)
    (hb:w.heap[b]? = some (.cells us T fz)) (hl:o+cs.length≤us.size)
    (hr:∀ (j:Nat) (u:Value) (c:V),us[o+j]? = some u→cs[j]? = some c→Rep g w u c) (h:ldV agg n cs off=some v) :
    ∃ u,(Instr.loadAt t (.pointer (some ⟨b,o+off,none⟩))).run P w = .ok u w∧Rep g w u v:=by
  obtain ⟨h1,h2⟩:=ldV_sound hl hr h
  cases agg with
  | true =>
    obtain ⟨hle,hv⟩:=h1 rfl
    refine ⟨_,?_,hv⟩
    have hlc:=run_loadCells (P:=P) (off:=o+off) (n:=n) hb (by omega)
    simp only [Instr.loadAt,Instr.sureAddr,loadVar]
    simp [aggOf_run hagg,szT_run hsz,hlc]
  | false =>
    obtain ⟨u,hu,hv⟩:=h2 rfl
    refine ⟨u,?_,hv⟩
    have hc:=cell_at (o:=o+off) hb
    rw [hu] at hc
    simp only [Instr.loadAt,Instr.sureAddr,loadVar]
    simp [aggOf_run hagg,hc]
theorem load_pure (hs:SimG E g σ a w) {t n:Nat} {agg:Bool} {v:Value} {x:V} (hsz:szT P t=some n) (hagg:aggOf P t=some agg) (h:Rep g w v x) :
    LRes.pureOk P g w (Instr.loadAt t v) (lload agg n σ.H x):=by
  cases x with
  | ip cs off =>
    obtain ⟨b,o,us,T,fz,rfl,hm,hb,hl,hr⟩:=h.ip_inv
    simp only [lload,LRes.ofOpt]
    cases hv:ldV agg n cs off with
    | none=>trivial
    | some v =>
      intro _
      obtain ⟨u,h1,h2⟩:=loadAt_run hsz hagg hb hl (fun j u c h1 h2=>.imm _ _ (hr j u c h1 h2)) hv
      exact ⟨u,h1,h2⟩
  | mp key gen off =>
    obtain ⟨b,cap,hb,rfl⟩:=h.mp_inv
    simp only [lload]
    cases hk:σ.H key with
    | none=>trivial
    | some o =>
      cases o with
      | row g' esz cs =>
        simp only []
        by_cases e:g' = gen
        · subst e
          simp only [LRes.ofOpt,if_true]
          cases hv:ldV agg n cs off with
          | none=>trivial
          | some v =>
            intro _
            obtain ⟨blk,cap',r1,r2,r3⟩:=hs.obj key _ hk
            rw [hb] at r1;cases r1
            obtain ⟨_,_,_,us,T,fz,q1,q2,q3,q4,q5⟩:=r3
            obtain ⟨u,h1,h2⟩:=loadAt_run (o:=0) (off:=off) (cs:=cs) hsz hagg q1 (by omega) (fun j u c h1 h2=>q5 j u c (by simpa using h1) h2) hv
            rw [Nat.zero_add] at h1
            exact ⟨u,h1,h2⟩
        · simp only [if_neg e];trivial
      | map es=>trivial
      | it _=>trivial
  | _=>trivial
theorem load_ok (hs:SimG E g σ a w) {s:Nat} {t n:Nat} {agg:Bool} {v:Value} {x:V} (hsz:szT P t=some n) (hagg:aggOf P t=some agg) (h:Rep g w v x) :
    LRes.ok P E g σ a w s (do pure (.value (← Instr.loadAt t v))) (lload agg n σ.H x):=ok_of_pure hs (load_pure hs hsz hagg h)
theorem setCells_get {cs xs:List V} {off j:Nat} {c:V} (hl:off+xs.length≤cs.length) (h:(setCells cs off xs)[j]? = some c) :
    if off≤j∧j<off+xs.length then xs[j - off]? = some c else cs[j]? = some c:=by
  unfold setCells at h
  rw [List.getElem?_append] at h
  have hm:(cs.take off).length=off:=by rw [List.length_take];omega
  rw [hm] at h
  split at h
  · rename_i hlt
    rw [if_neg (by omega)]
    rw [List.getElem?_take,if_pos hlt] at h
    exact h
  · rename_i hge
    rw [List.getElem?_append] at h
    split at h
    · rename_i h2;rw [if_pos (by omega)];exact h
    · rename_i h2
      rw [if_neg (by omega)]
      rw [List.getElem?_drop] at h
      rw [← h];congr 1;omega
theorem setCells_length {cs xs:List V} {off:Nat} (hl:off+xs.length≤cs.length):(setCells cs off xs).length=cs.length:=by
  simp [setCells];omega
theorem store_ok (hs:SimG E g σ a w) {s:Nat} {t n:Nat} {v vx:Value} {x y:V} (hsz:szT P t=some n) (h:Rep g w v x) (hy:Rep g w vx y) :
    LRes.ok P E g σ a w s (do Instr.storeAt t v vx;pure .skip) (lstore n σ.H x y):=by
  cases x with
  | mp key gen off =>
    obtain ⟨b,cap,hb,rfl⟩:=h.mp_inv
    simp only [lstore]
    cases hk:σ.H key with
    | none=>trivial
    | some o =>
      cases o with
      | row g' esz cs =>
        simp only []
        by_cases e:g' = gen
        · subst e
          simp only [if_true]
          intro ⟨e1,e2,e3⟩
          obtain ⟨blk,cap',r1,r2,r3⟩:=hs.obj key _ hk
          have r1':=r1
          rw [hb] at r1;cases r1
          obtain ⟨p1,p2,p3,us,T,fz,q1,q2,q3,q4,q5⟩:=r3
          have hyk:y.known=true:=by
            cases y<;>first|rfl|(simp [V.cells,V.one] at e3)
          obtain ⟨c1,c2⟩:=hy.cells hyk
          have hone:∀ u∈vx.cells.toList,oneV u=true:=by
            intro u hu
            obtain ⟨j,hj⟩:=List.mem_iff_getElem?.1 hu
            rw [Array.getElem?_toList] at hj
            have hjl:j<y.cells.length:=by
              have:j<vx.cells.size:=by
                rcases Nat.lt_or_ge j vx.cells.size with h' | h'
                · exact h'
                · rw [Array.getElem?_eq_none h'] at hj;cases hj
              omega
            have:=c2 j u _ hj (List.getElem?_eq_getElem hjl)
            exact this.oneV (List.all_eq_true.1 e3 _ (List.getElem_mem hjl))
          obtain ⟨w',hr,hst⟩:=run_storeCells (P:=P) (b:=b) (off:=off) vx.cells.toList 0 w us q1 q2.1 (by simp;omega) hone
          obtain ⟨us',f1,f2,f3⟩:=hst.cells
          have hbel:BelowF E.B E.F w w':=⟨hst.os,hst.tape,hst.output,by rw [hst.size];exact Nat.le_refl _,fun k hk hf=>hst.other k (by
            rintro rfl
            rcases p1 with h|h
            · omega
            · exact hf h.2),by rw [hst.drawn];exact Nat.le_refl _⟩
          have key1:=hs.setObj hk (gen':=g') (esz':=esz) (cap':=cap) (cs':=setCells cs off y.cells) (blk':=some b) (Nat.le_refl _) (fun _=>hb) hbel
            (fun k hk' hne=>hst.other k (by simp only [blkOf,hb,Option.bind_some] at hne;simpa using fun e=>hne (by rw [e])))
            ⟨.inl (by simp [blkOf,hb]),by rw [hst.size];exact p2,us',T,fz,f1,⟨fun o ho=>q2.1 o (by omega),q2.2⟩,by rw [setCells_length (by omega)];omega,by omega,?_⟩
          · refine ⟨.skip,w',_,?_,.inl ⟨rfl,rfl⟩,key1⟩
            simp only [Instr.storeAt,Instr.sureAddr,storeVar]
            have e5:vx.cells.size=n:=by omega
            simp [szT_run hsz,e5,hr]
          · intro j u c hu hc
            rw [f3 j] at hu
            have hc':=setCells_get (by omega) hc
            have hmono:∀ v x,Rep g w v x→Rep (g.set key g' (some b,cap)) w' v x:=fun v x h=>h.mono (fun _ h=>h)
              (fun b' hm=>hst.other b' (by rintro rfl;exact p3 hm)) (fun k n r hh=>by
                by_cases e:k=key∧n=g'
                · obtain ⟨e1,e2⟩:=e;rw [e1,e2] at hh ⊢;rw [Gh.set_same,← hb];exact hh
                · rw [Gh.set_ne _ _ e];exact hh)
            simp only [Array.length_toList,Nat.add_zero] at hu
            rw [c1] at hu
            split at hc'
            · rename_i hin
              rw [if_pos hin,Array.getElem?_toList] at hu
              exact hmono _ _ (c2 _ u c hu hc')
            · rename_i hin
              rw [if_neg hin] at hu
              exact hmono _ _ (q5 _ u c hu hc')
        · simp only [if_neg e];trivial
      | map es=>trivial
      | it _=>trivial
  | _=>trivial
end
end Go.Lg

namespace Go.Lg
open Go Go.RowKit
section
variable {P:Program} {g:Gh} {w w':World} {E:Env} {σ:St} {a:Act}
theorem fieldPlace_run {b off s:Nat} {f:Field} (hsz:szT P f.type=some s) (h0:s≠0) :
    (fieldPlace ⟨b,off,none⟩ f).run P w = .ok ⟨b,off+f.offset,none⟩ w:=by
  unfold fieldPlace
  simp [szT_run hsz,h0,addr_add]
theorem fad_pure {t:TypeId} {k s:Nat} {fs:Array Field} {f:Field} {v:Value} {x:V} (ht:P.underlying t=some (.struct fs)) (hf:fs[k]? = some f) (hsz:szT P f.type=some s) (h0:s≠0)
    (h:Rep g w v x):LRes.pureOk P g w (Instr.fieldAt t v k) (lfad f.offset x):=by
  have key:∀ b off,(Instr.fieldAt t (.pointer (some ⟨b,off,none⟩)) k).run P w = .ok (.pointer (some ⟨b,off+f.offset,none⟩)) w:=by
    intro b off
    simp [Instr.fieldAt,run_underlying ht,hf,Instr.sureAddr,fieldPlace_run hsz h0]
  cases x with
  | ip cs o =>
    intro _
    obtain ⟨b,o',us,T,fz,rfl,h1,h2,h3,h4⟩:=h.ip_inv
    exact ⟨_,key _ _,.imm _ _ (by rw [Nat.add_assoc];exact .ip b o' _ us T fz cs h1 h2 h3 h4)⟩
  | mp k' g' o =>
    intro _
    obtain ⟨b,cap,hb,rfl⟩:=h.mp_inv
    exact ⟨_,key _ _,.mp _ _ _ _ cap hb⟩
  | _=>trivial
theorem nil_ok (hs:SimG E g σ a w) {s:Nat} {v:Value} {x:V} (h:Rep g w v x) {q:Sem Next}
    (hq:∀ ad,v = .pointer (some ad)→q=pure (.value v)):LRes.ok P E g σ a w s q (lnil x):=by
  cases x with
  | ip cs o =>
    intro _
    obtain ⟨b,o',us,T,fz,e,_⟩:=h.ip_inv
    exact ⟨v,w,g,by rw [hq _ e];rfl,hs,h⟩
  | mp k' g' o =>
    intro _
    obtain ⟨b,cap,hb,e⟩:=h.mp_inv
    exact ⟨v,w,g,by rw [hq _ e];rfl,hs,h⟩
  | _=>trivial
theorem part_run {t n off:Nat} {agg:Bool} {us:Array Value} {cs:List V} {v:V} (hsz:szT P t=some n) (hagg:aggOf P t=some agg) (hl:us.size=cs.length)
    (hr:∀ (j:Nat) (u:Value) (c:V),us[j]? = some u→cs[j]? = some c→Rep g w u c) (h:ldV agg n cs off=some v) :
    ∃ u,(part t us off).run P w = .ok u w∧Rep g w u v:=by
  obtain ⟨h1,h2⟩:=ldV_sound (us:=us) (o:=0) (by omega) (fun j u c h1 h2=>hr j u c (by simpa using h1) h2) h
  cases agg with
  | true =>
    obtain ⟨hle,hv⟩:=h1 rfl
    rw [Nat.zero_add] at hv
    exact ⟨_,by simp [part,aggOf_run hagg,szT_run hsz],hv⟩
  | false =>
    obtain ⟨u,hu,hv⟩:=h2 rfl
    rw [Nat.zero_add] at hu
    exact ⟨u,by simp [part,aggOf_run hagg,hu],hv⟩
theorem fld_pure {t:TypeId} {k n:Nat} {agg:Bool} {fs:Array Field} {f:Field} {v:Value} {x:V} (ht:P.underlying t=some (.struct fs)) (hf:fs[k]? = some f) (hsz:szT P f.type=some n)
    (hagg:aggOf P f.type=some agg) (h:Rep g w v x):LRes.pureOk P g w (Instr.field t v k) (lfld agg n f.offset x):=by
  cases x with
  | agg cs =>
    obtain ⟨vs,rfl,hl,hr⟩:=h.agg_inv
    simp only [lfld,LRes.ofOpt]
    cases hv:ldV agg n cs f.offset with
    | none=>trivial
    | some v =>
      intro _
      obtain ⟨u,h1,h2⟩:=part_run (P:=P) hsz hagg hl hr hv
      exact ⟨u,by simp [Instr.field,run_underlying ht,hf,asAgg,h1],h2⟩
  | _=>trivial
theorem iaA_pure {t e:TypeId} {len s:Nat} {v vi:Value} {x i:V} (ht:P.underlying t=some (.array len e)) (hsz:szT P e=some s) (h:Rep g w v x) (hi:Rep g w vi i) :
    LRes.pureOk P g w (Instr.indexAt t v vi) (liaA len s x i):=by
  cases i with
  | int k n =>
    have:=hi.int_inv;subst this
    have key:∀ b off,0≤n∧n<(len:Int)→(Instr.indexAt t (.pointer (some ⟨b,off,none⟩)) (.int k n)).run P w = .ok (.pointer (some ⟨b,off+n.toNat*s,none⟩)) w:=by
      intro b off hn
      have hlen:len≠0:=by omega
      simp [Instr.indexAt,asIntOf,run_underlying ht,Instr.sureAddr,hn.1,hn.2,szT_run hsz,addr_add]
    cases x with
    | ip cs o =>
      intro hp
      obtain ⟨b,o',us,T,fz,rfl,h1,h2,h3,h4⟩:=h.ip_inv
      exact ⟨_,key _ _ hp,.imm _ _ (by rw [Nat.add_assoc];exact .ip b o' _ us T fz cs h1 h2 h3 h4)⟩
    | mp k' g' o =>
      intro hp
      obtain ⟨b,cap,hb,rfl⟩:=h.mp_inv
      exact ⟨_,key _ _ hp,.mp _ _ _ _ cap hb⟩
    | _=>trivial
  | _=>trivial
theorem iaS_pure {t e:TypeId} {s:Nat} {v vi:Value} {x i:V} (ht:P.underlying t=some (.slice e)) (hsz:szT P e=some s) (h:Rep g w v x) (hi:Rep g w vi i) :
    LRes.pureOk P g w (Instr.indexAt t v vi) (liaS s x i):=by
  cases i with
  | int k n =>
    have:=hi.int_inv;subst this
    have key:∀ (b off m c:Nat),0≤n∧n<(m:Int)→(Instr.indexAt t (.slice (some ⟨b,off,none⟩) m c) (.int k n)).run P w = .ok (.pointer (some ⟨b,off+n.toNat*s,none⟩)) w:=by
      intro b off m c hn
      simp [Instr.indexAt,asIntOf,run_underlying ht,hn.1,hn.2,szT_run hsz,addr_add]
    cases x with
    | sl m cs =>
      intro hp
      obtain ⟨A,c,rfl,h1,h2⟩:=h.sl_inv
      cases h1 with
      | sl0=>omega
      | sl b off _ _ us T fz _ q1 q2 q3 q4 q5=>exact ⟨_,key _ _ _ _ hp,.imm _ _ (.ip b off _ us T fz cs q1 q2 q3 q5)⟩
    | msl k' g' o m =>
      intro hp
      obtain ⟨c,A,blk,cap,rfl,q1,q2,q3,q4,q5⟩:=h.msl_inv
      cases blk with
      | none=>have:=q5 rfl;omega
      | some b =>
        have hA:=q4 b rfl (by omega)
        subst hA
        exact ⟨_,key _ _ _ _ hp,.mp _ _ _ _ cap q1⟩
    | qsl k' g' e q m =>
      rintro ⟨hp,rfl,h0⟩
      obtain ⟨c,A,blk,cap,rfl,q1,q2,q3,q4,q5⟩:=h.qsl_inv
      cases blk with
      | none=>have:=q5 rfl;omega
      | some b =>
        have hA:=q4 b rfl (by omega)
        subst hA
        exact ⟨_,key _ _ _ _ hp,.mp _ _ _ _ cap q1⟩
    | msv k' g' o m e =>
      intro hp
      obtain ⟨c,A,b,cap,rfl,q1,q3,q4⟩:=h.msv_inv
      have hA:=q4 (by omega)
      subst hA
      exact ⟨_,key _ _ _ _ hp,.mp _ _ _ _ cap q1⟩
    | _=>trivial
  | _=>trivial
theorem ixS_pure {t:TypeId} {v vi:Value} {x i:V} (ht:P.underlying t=some .string) (h:Rep g w v x) (hi:Rep g w vi i) :
    LRes.pureOk P g w (Instr.index t v vi) (lixS x i):=by
  cases x with
  | str s =>
    have:=h.str_inv;subst this
    cases i with
    | int k n =>
      have:=hi.int_inv;subst this
      simp only [lixS]
      cases hb:s.data[n.toNat]? with
      | none=>trivial
      | some b =>
        intro hp
        refine ⟨_,?_,rint _ _⟩
        have e:s[n.toNat]? = some b:=by
          rw [← hb]
          simp only [getElem?_def,ByteArray.size]
          rfl
        simp [Instr.index,asIntOf,run_underlying ht,hp,e]
    | _=>trivial
  | _=>trivial
theorem ixA_pure {t e:TypeId} {len n:Nat} {agg:Bool} {v vi:Value} {x i:V} (ht:P.underlying t=some (.array len e)) (hsz:szT P e=some n) (hagg:aggOf P e=some agg) (h:Rep g w v x) (hi:Rep g w vi i) :
    LRes.pureOk P g w (Instr.index t v vi) (lixA agg len n x i):=by
  cases x with
  | agg cs =>
    obtain ⟨vs,rfl,hl,hr⟩:=h.agg_inv
    cases i with
    | int k j =>
      have:=hi.int_inv;subst this
      simp only [lixA]
      cases hv:ldV agg n cs (j.toNat*n) with
      | none=>trivial
      | some v =>
        intro hp
        obtain ⟨u,h1,h2⟩:=part_run (P:=P) hsz hagg hl hr hv
        exact ⟨u,by simp [Instr.index,asIntOf,run_underlying ht,hp.1,hp.2,szT_run hsz,h1],h2⟩
    | _=>trivial
  | _=>trivial
theorem ext_pure {i:Nat} {v:Value} {x:V} (h:Rep g w v x):LRes.pureOk P g w (Instr.extract v i) (lext i x):=by
  cases x with
  | tup cs =>
    obtain ⟨vs,rfl,hl,hr⟩:=h.tup_inv
    simp only [lext,LRes.ofOpt]
    cases hv:cs[i]? with
    | none=>trivial
    | some c =>
      intro _
      have hlt:i<vs.size:=by
        rcases Nat.lt_or_ge i cs.length with h' | h'
        · omega
        · rw [List.getElem?_eq_none h'] at hv;cases hv
      exact ⟨vs[i],by simp [Instr.extract,hlt],hr i _ _ (Array.getElem?_eq_getElem hlt) hv⟩
  | _=>trivial
theorem tas_pure {t xt:TypeId} {z:V} {d:TypeDesc} {v:Value} {x:V} (ht:P.underlying t=some d) (hd:∀ ms,d≠.interface ms) (hz:zeroT P t=some z) (h:Rep g w v x) :
    LRes.pureOk P g w (Instr.typeAssert v xt t true) (ltas t z x):=by
  obtain ⟨zv,hzv,rfl⟩:=zeroT_run (w:=w) hz
  have pair:∀ (u:Value) (c:V) (b:Bool),Rep g w u c→Rep g w (.tuple #[u,.bool b]) (.tup [c,.bool b]):=by
    intro u c b h
    refine .tup _ _ rfl fun j u' c' hu hc=>?_
    match j with
    | 0=>simp at hu hc;subst hu hc;exact h
    | 1=>simp at hu hc;subst hu hc;exact rbool _
    | j+2=>simp at hc
  cases x with
  | ifc t' y =>
    obtain ⟨u,rfl,hu⟩:=h.ifc_inv
    intro _
    by_cases e:t' = t
    · rw [if_pos e]
      refine ⟨_,?_,pair u y true hu⟩
      cases d<;>first|exact absurd rfl (hd _)|simp [Instr.typeAssert,run_underlying ht,e]
    · rw [if_neg e]
      refine ⟨_,?_,pair zv _ false (.imm _ _ (repI_ofVal _))⟩
      cases d<;>first|exact absurd rfl (hd _)|simp [Instr.typeAssert,run_underlying ht,e,hzv]
  | nili =>
    have:=h.nili_inv;subst this
    intro _
    refine ⟨_,?_,pair zv _ false (.imm _ _ (repI_ofVal _))⟩
    cases d<;>first|exact absurd rfl (hd _)|simp [Instr.typeAssert,run_underlying ht,hzv]
  | _=>trivial
theorem mn_pure {v vy:Value} {x y:V} (h:Rep g w v x) (hy:Rep g w vy y):LRes.pureOk P g w (Builtin.min2 v vy) (lmn false x y):=by
  cases x with
  | int k n =>
    cases y with
    | int k' m =>
      have:=h.int_inv;subst this
      have:=hy.int_inv;subst this
      intro hp
      subst hp
      exact ⟨_,by simp [Builtin.min2],rint _ _⟩
    | _=>trivial
  | _=>trivial
theorem mx_pure {v vy:Value} {x y:V} (h:Rep g w v x) (hy:Rep g w vy y):LRes.pureOk P g w (Builtin.max2 v vy) (lmn true x y):=by
  cases x with
  | int k n =>
    cases y with
    | int k' m =>
      have:=h.int_inv;subst this
      have:=hy.int_inv;subst this
      intro hp
      subst hp
      exact ⟨_,by simp [Builtin.max2],rint _ _⟩
    | _=>trivial
  | _=>trivial
theorem mx3_pure {v vy vz:Value} {x y z:V} (h:Rep g w v x) (hy:Rep g w vy y) (hz:Rep g w vz z):LRes.pureOk P g w (do Builtin.max2 (← Builtin.max2 v vy) vz) (lmx3 x y z):=by
  cases x with
  | int k n =>
    cases y with
    | int k' m =>
      cases z with
      | int k'' q =>
        have:=h.int_inv;subst this
        have:=hy.int_inv;subst this
        have:=hz.int_inv;subst this
        rintro ⟨rfl,rfl⟩
        exact ⟨_,by simp [Builtin.max2],rint _ _⟩
      | _=>trivial
    | _=>trivial
  | _=>trivial
theorem bound_run {v:Value} {k n} {y:Nat} {code} (hv:v = .int k n) (h0:0≤n) (h1:n≤y):(Instr.sliceBound v y code).run P w = .ok n.toNat w:=by
  subst hv
  simp [Instr.sliceBound,asIntOf,h0,h1]
theorem bounds_run {isSlice:Bool} {len cap:Nat} {lo hi:Option Value} {l h:Int}
    (hl:match lo with|none=>l=0|some v=>∃ k,v = .int k l) (hh:match hi with|none=>h=len|some v=>∃ k,v = .int k h)
    (h0:0≤l) (h1:l≤h) (h2:h≤cap):(Instr.sliceBounds isSlice len cap lo hi none).run P w = .ok (l.toNat,h.toNat,cap) w:=by
  cases lo with
  | none =>
    subst hl
    cases hi with
    | none=>subst hh;simp [Instr.sliceBounds]
    | some v =>
      obtain ⟨k,hv⟩:=hh
      cases isSlice<;>simp [Instr.sliceBounds,bound_run hv (by omega:0≤h) h2]
  | some u =>
    obtain ⟨k,hu⟩:=hl
    cases hi with
    | none =>
      subst hh
      simp [Instr.sliceBounds,bound_run hu h0 h1]
    | some v =>
      obtain ⟨k',hv⟩:=hh
      have e:((h.toNat:Nat):Int)=h:=by omega
      cases isSlice<;>simp [Instr.sliceBounds,bound_run hv (by omega:0≤h) h2,bound_run hu h0 (by rw [e];exact h1)]
theorem lo_spec (hs:SimG E g σ a w) {lo:Option Operand} {l:Int} (h:loOf σ.tm (lo.map rdOf)=some l) :
    match lo.map a.eval with|none=>l=0|some v=>∃ k,v = .int k l:=by
  cases lo with
  | none=>simp [loOf] at h;exact h.symm
  | some x =>
    simp only [Option.map_some,loOf] at h ⊢
    have hx:=rep_rd hs.tm x
    split at h
    · rename_i k n e;cases h;rw [e] at hx;exact ⟨k,hx.int_inv⟩
    · cases h
theorem hi_spec (hs:SimG E g σ a w) {hi:Option Operand} {n:Nat} {l:Int} (h:hiOf σ.tm n (hi.map rdOf)=some l) :
    match hi.map a.eval with|none=>l=n|some v=>∃ k,v = .int k l:=by
  cases hi with
  | none=>simp [hiOf] at h;exact h.symm
  | some x =>
    simp only [Option.map_some,hiOf] at h ⊢
    have hx:=rep_rd hs.tm x
    split at h
    · rename_i k n e;cases h;rw [e] at hx;exact ⟨k,hx.int_inv⟩
    · cases h
theorem slS_pure (hs:SimG E g σ a w) {t:TypeId} {lo hi:Option Operand} {v:Value} {x:V} (ht:P.underlying t=some .string) (h:Rep g w v x) :
    LRes.pureOk P g w (Instr.sliceAt t v (lo.map a.eval) (hi.map a.eval) none) (lslSx (loOf σ.tm (lo.map rdOf)) (fun n=>hiOf σ.tm n (hi.map rdOf)) x):=by
  cases x with
  | str s =>
    have:=h.str_inv;subst this
    simp only [lslSx,lsl]
    cases hl:loOf σ.tm (lo.map rdOf) with
    | none=>trivial
    | some l =>
      cases hh:hiOf σ.tm s.size (hi.map rdOf) with
      | none=>trivial
      | some r =>
        intro ⟨h0,h1,h2⟩
        refine ⟨_,?_,rstr _⟩
        have:=bounds_run (P:=P) (w:=w) (isSlice:=false) (lo_spec hs hl) (hi_spec hs hh) h0 h1 h2
        simp [Instr.sliceAt,run_underlying ht,Instr.slice,this]
  | _=>trivial
theorem slV_pure (hs:SimG E g σ a w) {t e:TypeId} {s:Nat} {lo hi:Option Operand} {v:Value} {x:V} (ht:P.underlying t=some (.slice e)) (hsz:szT P e=some s) (hs0:s≠0) (h:Rep g w v x) :
    LRes.pureOk P g w (Instr.sliceAt t v (lo.map a.eval) (hi.map a.eval) none) (lslVx s (loOf σ.tm (lo.map rdOf)) (fun n=>hiOf σ.tm n (hi.map rdOf)) x):=by
  unfold lslVx
  cases hn:lenV x with
  | none=>trivial
  | some n =>
    simp only [lsl]
    cases hl:loOf σ.tm (lo.map rdOf) with
    | none=>trivial
    | some l =>
      cases hh:hiOf σ.tm n (hi.map rdOf) with
      | none=>trivial
      | some r =>
        have run:∀ A c,n≤c→0≤l→l≤r→r≤n→(Instr.sliceAt t (.slice A n c) (lo.map a.eval) (hi.map a.eval) none).run P w =
            .ok (.slice (if c=l.toNat then A else A.map (·.add (l.toNat*s))) (r.toNat - l.toNat) (c - l.toNat)) w:=by
          intro A c hc h0 h1 h2
          have:=bounds_run (P:=P) (w:=w) (isSlice:=true) (cap:=c) (lo_spec hs hl) (hi_spec hs hh) h0 h1 (by omega)
          simp [Instr.sliceAt,run_underlying ht,Instr.slice,this,szT_run hsz]
        cases x with
        | sl m cs =>
          cases hn
          intro ⟨h0,h1,h2,h3⟩
          obtain ⟨A,c,rfl,hI,hc⟩:=h.sl_inv
          refine ⟨_,run A c hc h0 h1 h2,.imm _ _ ?_⟩
          have elo:l.toNat≤r.toNat:=by omega
          cases hI with
          | sl0 =>
            have e1:r.toNat - l.toNat=0:=by omega
            rw [e1];simpa using RepI.sl0 _ _
          | sl b off _ _ us T fz _ q1 q2 q3 q4 q5 =>
            by_cases hz:r.toNat=l.toNat
            · rw [hz,Nat.sub_self]
              have:((cs.take (l.toNat*s)).drop (l.toNat*s))=[]:=by
                apply List.drop_eq_nil_of_le;rw [List.length_take];omega
              rw [this];exact .sl0 _ _
            · rw [if_neg (by omega)]
              simp only [Option.map_some,addr_add]
              refine .sl b _ _ _ us T fz _ q1 q2 ?_ (by omega) ?_
              · have:l.toNat*s≤r.toNat*s:=Nat.mul_le_mul_right _ elo
                simp only [List.length_drop,List.length_take];omega
              · intro j v x hv hx
                rw [List.getElem?_drop,List.getElem?_take] at hx
                split at hx
                · exact q5 _ v x (by rw [← Nat.add_assoc];exact hv) hx
                · cases hx
        | e0 =>
          cases hn
          intro ⟨h0,h1⟩
          obtain ⟨A,rfl⟩:=h.e0_inv
          subst h0 h1
          have:=run A 0 (Nat.le_refl _) (Int.le_refl _) (Int.le_refl _) (Int.le_refl _)
          exact ⟨_,this,.imm _ _ (by simpa using RepI.e0 _)⟩
        | msl k' g' o m =>
          cases hn
          intro ⟨h0,h1,h2⟩
          obtain ⟨c,A,blk,cap,rfl,q1,q2,q3,q4,q5⟩:=h.msl_inv
          refine ⟨_,run A c q3 h0 h1 h2,.msl _ _ _ _ _ _ blk cap q1 ?_ (by omega) ?_ ?_⟩
          · intro e
            have e1:o=0:=by omega
            have e2:l.toNat*s=0:=by omega
            have e3:l.toNat=0:=by
              rcases Nat.mul_eq_zero.1 e2 with h' | h'
              · exact h'
              · omega
            rw [e3,q2 e1];rfl
          · intro b hb hpos
            rw [if_neg (by omega),q4 b hb (by omega)]
            simp [addr_add]
          · intro hb;have:=q5 hb;omega
        | qsl k' g' e' q0 m =>
          cases hn
          rintro ⟨h0,h1,h2,rfl,h3⟩
          obtain ⟨c,A,blk,cap,rfl,q1,q2,q3,q4,q5⟩:=h.qsl_inv
          refine ⟨_,run A c q3 h0 h1 h2,.qsl _ _ _ _ _ _ _ blk cap q1 (by omega) (by omega) ?_ ?_⟩
          · intro b hb hpos
            rw [if_neg (by omega),q4 b hb (by omega)]
            simp [addr_add,Nat.add_mul]
          · intro hb;have:=q5 hb;omega
        | _=>trivial
theorem slA_pure (hs:SimG E g σ a w) {t e:TypeId} {n s:Nat} {lo hi:Option Operand} {v:Value} {x:V} (ht:P.underlying t=some (.array n e)) (hsz:szT P e=some s) (h:Rep g w v x) :
    LRes.pureOk P g w (Instr.sliceAt t v (lo.map a.eval) (hi.map a.eval) none) (lsl (lslA n s x) (loOf σ.tm (lo.map rdOf)) (hiOf σ.tm n (hi.map rdOf))):=by
  simp only [lsl]
  cases hl:loOf σ.tm (lo.map rdOf) with
  | none=>trivial
  | some l =>
    cases hh:hiOf σ.tm n (hi.map rdOf) with
    | none=>trivial
    | some r =>
      cases x with
      | ip cs off =>
        intro ⟨h0,h1,h2,h3⟩
        obtain ⟨b,o',us,T,fz,rfl,q1,q2,q3,q4⟩:=h.ip_inv
        have run:=bounds_run (P:=P) (w:=w) (isSlice:=false) (cap:=n) (lo_spec hs hl) (hi_spec hs hh) h0 h1 h2
        have elo:l.toNat≤r.toNat:=by omega
        have hm:l.toNat*s≤r.toNat*s:=Nat.mul_le_mul_right _ elo
        have hm2:r.toNat*s≤n*s:=Nat.mul_le_mul_right _ (by omega)
        refine ⟨_,by simp [Instr.sliceAt,run_underlying ht,Instr.sureAddr,run,szT_run hsz];rfl,.imm _ _ ?_⟩
        by_cases hz:r.toNat=l.toNat
        · rw [hz,Nat.sub_self]
          have:((cs.take (off+l.toNat*s)).drop (off+l.toNat*s))=[]:=by
            apply List.drop_eq_nil_of_le;rw [List.length_take];omega
          rw [this];exact .sl0 _ _
        · rw [if_neg (by omega),addr_add]
          refine .sl b _ _ _ us T fz _ q1 q2 ?_ (by omega) ?_
          · simp only [List.length_drop,List.length_take];omega
          · intro j v x hv hx
            rw [List.getElem?_drop,List.getElem?_take] at hx
            split at hx
            · exact q4 _ v x (by rw [← hv];congr 1;omega) hx
            · cases hx
      | mp key gen off =>
        intro ⟨h0,h1,h2⟩
        obtain ⟨b,cap,q1,rfl⟩:=h.mp_inv
        have run:=bounds_run (P:=P) (w:=w) (isSlice:=false) (cap:=n) (lo_spec hs hl) (hi_spec hs hh) h0 h1 h2
        refine ⟨_,by simp [Instr.sliceAt,run_underlying ht,Instr.sureAddr,run,szT_run hsz];rfl,?_⟩
        by_cases hz:r.toNat=l.toNat
        · exact .msv _ _ _ _ _ _ _ b cap q1 (by omega) (fun h=>by omega)
        · by_cases hz2:n - l.toNat=0
          · omega
          · rw [if_neg (by omega),addr_add]
            exact .msv _ _ _ _ _ _ _ b cap q1 (by omega) (fun h=>rfl)
      | _=>trivial
theorem fill_ok {place:Nat→Option (Nat × Nat)} (ht:∀ t,Rep g w (slotV E a t) (σ.tm t)):∀ (parts:List (Nat × Operand)) (ps:List (Nat × Nat × Rd)) (us:Array Value) (cs:List V),
    ps.length=parts.length→(∀ (j i:Nat) (x:Operand) (p:Nat × Nat × Rd),parts[j]? = some (i,x)→ps[j]? = some p→place i=some (p.1,p.2.1)∧p.2.2=rdOf x) →
    us.size=cs.length→(∀ (j:Nat) (u:Value) (c:V),us[j]? = some u→cs[j]? = some c→Rep g w u c)→partsOk σ.tm cs.length ps →
    ∃ us',Instr.fill place us (parts.map fun (i,x)=>(i,a.eval x))=some us'∧us'.size=(fillL σ.tm cs ps).length ∧
      (∀ (j:Nat) (u:Value) (c:V),us'[j]? = some u→(fillL σ.tm cs ps)[j]? = some c→Rep g w u c)
  | [],[],us,cs,_,_,hl,hr,_=>⟨us,rfl,hl,hr⟩
  | [],_::_,_,_,h,_,_,_,_=>by cases h
  | _::_,[],_,_,h,_,_,_,_=>by cases h
  | (i,x)::parts,(off,s,y)::ps,us,cs,hlen,hp,hl,hr,hok=>by
    obtain ⟨e1,e2⟩:=hp 0 i x _ rfl rfl
    simp only at e1 e2
    subst e2
    obtain ⟨⟨k1,k2,k3⟩,hok'⟩:=hok
    obtain ⟨c1,c2⟩:=(rep_rd ht x).cells k1
    have hset:∀ (vs:List Value) (i0:Nat) (us:Array Value),off+i0+vs.length≤us.size →
        ((vs.zipIdx i0).foldl (fun cs (c,j)=>cs.setIfInBounds (off+j) c) us).size=us.size ∧
        ∀ j,((vs.zipIdx i0).foldl (fun cs (c,j)=>cs.setIfInBounds (off+j) c) us)[j]? = if off+i0≤j∧j<off+i0+vs.length then vs[j - (off+i0)]? else us[j]?:=by
      intro vs
      induction vs with
      | nil=>intro i0 us _;exact ⟨rfl,fun j=>by rw [if_neg (by simp)];rfl⟩
      | cons v vs ih =>
        intro i0 us hb
        simp only [List.length_cons] at hb
        have:=ih (i0+1) (us.setIfInBounds (off+i0) v) (by simp;omega)
        simp only [List.zipIdx_cons,List.foldl_cons]
        refine ⟨by rw [this.1];simp,fun j=>?_⟩
        rw [this.2 j]
        simp only [List.length_cons]
        by_cases h1:off+(i0+1)≤j∧j<off+(i0+1)+vs.length
        · rw [if_pos h1,if_pos (by omega),show j - (off+i0)=(j - (off+(i0+1)))+1 by omega];simp
        · rw [if_neg h1]
          by_cases h2:j=off+i0
          · subst h2;rw [if_pos (by omega)];simp [show off+i0<us.size by omega]
          · rw [if_neg (by omega),Array.getElem?_setIfInBounds_ne (by omega)]
    have hsz:(a.eval x).cells.size=s:=by omega
    obtain ⟨f1,f2⟩:=hset (a.eval x).cells.toList 0 us (by simp;omega)
    have harr:(a.eval x).cells.zipIdx.foldl (fun cs (c,j)=>cs.setIfInBounds (off+j) c) us=((a.eval x).cells.toList.zipIdx 0).foldl (fun cs (c,j)=>cs.setIfInBounds (off+j) c) us:=by
      rw [← Array.foldl_toList];congr 1;simp
    obtain ⟨us',g1,g2,g3⟩:=fill_ok ht parts ps ((a.eval x).cells.zipIdx.foldl (fun cs (c,j)=>cs.setIfInBounds (off+j) c) us) (setCells cs off ((rdOf x).get σ.tm).cells)
      (by simpa using hlen) (fun j i' x' p h1 h2=>hp (j+1) i' x' p h1 h2) (by rw [harr,f1,setCells_length (by omega)];exact hl)
      (by
        intro j u c hu hc
        rw [harr,f2 j] at hu
        have hc':=setCells_get (by omega) hc
        simp only [Array.length_toList,Nat.add_zero] at hu
        split at hc'
        · rename_i hin
          rw [if_pos (by omega),Array.getElem?_toList] at hu
          exact c2 _ u c hu hc'
        · rename_i hin
          rw [if_neg (by omega)] at hu
          exact hr _ u c hu hc')
      (by rw [setCells_length (by omega)];exact hok')
    refine ⟨us',?_,g2,g3⟩
    simp only [List.map_cons,Instr.fill,e1]
    rw [if_neg (by simp [hsz];omega)]
    exact g1
end
end Go.Lg

namespace Go.Lg
open Go Go.RowKit
section
variable {P:Program} {g:Gh} {w w':World} {E:Env} {σ:St} {a:Act}
theorem src_run (hs:SimG E g σ a w) {s m:Nat} {ys:List V} {vy:Value} {y:V} (h:srcOf σ.H s y=some (m,ys)) (hy:Rep g w vy y) {w1:World} (hw1:w1.heap=w.heap) :
    (∀ w2,(Builtin.lenOf vy).run P w2 = .ok m w2)∧∃ arr:Array Value,(Builtin.firstCells s m vy).run P w1 = .ok arr w1∧arr.size=ys.length∧ys.length=m*s ∧
      ∀ (j:Nat) (u:Value) (c:V),arr[j]? = some u→ys[j]? = some c→Rep g w u c:=by
  have nil_case:∀ (A:Option Addr) (c:Nat),(Builtin.firstCells s 0 (.slice A 0 c)).run P w1 = .ok #[] w1:=by
    intro A c
    cases A<;>simp [Builtin.firstCells,loadCells,loadCellsFrom]
  cases y with
  | sl n cs =>
    simp only [srcOf] at h
    split at h
    · rename_i hlen
      cases h
      obtain ⟨A,c,rfl,hI,hc⟩:=hy.sl_inv
      refine ⟨fun w2=>by simp [Builtin.lenOf],?_⟩
      cases hI with
      | sl0=>exact ⟨#[],nil_case _ _,rfl,hlen,fun j u c h=>by simp at h⟩
      | sl b off _ _ us T fz _ q1 q2 q3 q4 q5 =>
        have hl:=run_loadCells (P:=P) (w:=w1) (n:=m*s) (off:=off) (by rw [hw1];exact q2) (by omega)
        refine ⟨_,by simp [Builtin.firstCells,hl];rfl,by simp;omega,hlen,fun j u c hu hc=>?_⟩
        rw [Array.getElem?_extract] at hu
        split at hu
        · exact .imm _ _ (q5 j u c hu hc)
        · cases hu
    · cases h
  | e0 =>
    cases h
    obtain ⟨A,rfl⟩:=hy.e0_inv
    exact ⟨fun w2=>by simp [Builtin.lenOf],#[],nil_case _ _,rfl,by simp,fun j u c h=>by simp at h⟩
  | str t =>
    simp only [srcOf] at h
    split at h
    · rename_i h1
      cases h
      subst h1
      have:=hy.str_inv;subst this
      have he:t.extract 0 t.size=t:=by simp
      have hfc:(Builtin.firstCells 1 t.size (.string t)).run P w1 = .ok (t.data.map fun b=>.int .u8 b.toNat) w1:=by
        simp only [Builtin.firstCells,he];rfl
      refine ⟨fun w2=>by simp [Builtin.lenOf],t.data.map fun b=>.int .u8 b.toNat,hfc,by simp,by simp,fun j u c hu hc=>?_⟩
      simp only [Array.getElem?_map,List.getElem?_map,Array.getElem?_toList,Option.map_eq_some_iff] at hu hc
      obtain ⟨x,hx,rfl⟩:=hu
      obtain ⟨x',hx',rfl⟩:=hc
      rw [hx] at hx';cases hx'
      exact rint _ _
    · cases h
  | msl key gen off n =>
    simp only [srcOf] at h
    cases hk:σ.H key with
    | none=>simp [hk] at h
    | some o =>
      cases o with
      | map es=>simp [hk] at h
      | it _=>simp [hk] at h
      | row g' esz' cs =>
        simp only [hk] at h
        split at h
        · rename_i h1
          obtain ⟨rfl,rfl,h3⟩:=h1
          cases h
          obtain ⟨c,A,blk,cap,rfl,q1,q2,q3,q4,q5⟩:=hy.msl_inv
          obtain ⟨blk',cap',r1,r2,r3⟩:=hs.obj key _ hk
          rw [q1] at r1;cases r1
          refine ⟨fun w2=>by simp [Builtin.lenOf],?_⟩
          cases blk with
          | none =>
            have:=q5 rfl
            have hm:m=0:=by omega
            subst hm
            exact ⟨#[],nil_case _ _,by simp,by simp,fun j u c h=>by simp at h⟩
          | some b =>
            obtain ⟨p1,p2,p3,us,T,fz,t1,t2,t3,t4,t5⟩:=r3
            by_cases hc0:c=0
            · have hm:m=0:=by omega
              subst hm
              exact ⟨#[],nil_case _ _,by simp,by simp,fun j u c h=>by simp at h⟩
            · have hA:=q4 b rfl (by omega)
              subst hA
              have hl:=run_loadCells (P:=P) (w:=w1) (n:=m*esz') (off:=off) (by rw [hw1];exact t1) (by omega)
              refine ⟨_,by simp [Builtin.firstCells,hl];rfl,by simp;omega,by simp;omega,fun j u c hu hc=>?_⟩
              rw [Array.getElem?_extract] at hu
              rw [List.getElem?_take,List.getElem?_drop] at hc
              split at hu
              · split at hc
                · exact t5 _ u c hu hc
                · cases hc
              · cases hu
        · cases h
  | _=>cases h
theorem append_room {ts:Array TypeId} {t1 t2 ty e:TypeId} (h0:ts[0]? = some t1) (h1':ts[1]? = some t2) {d2:TypeDesc} {s n c m:Nat} {A:Option Addr} {vy:Value} {arr:Array Value} (ht:P.underlying t1=some (.slice e)) (ht2:P.underlying t2=some d2)
    (hd:(∃ e',d2 = .slice e')∨d2 = .string) (hsz:szT P e=some s) (hlen:(Builtin.lenOf vy).run P w = .ok m w) (hfc:(Builtin.firstCells s m vy).run P w = .ok arr w) (hroom:n+m≤c)
    (hst:∀ ad,A=some ad→(storeCells (ad.add (n*s)) arr.toList).run P w = .ok () w') (hn:A=none→w' = w) :
    (Builtin.append_ ts ty #[.slice A n c,vy]).run P w = .ok (.slice A (n+m) c) w':=by
  cases A with
  | none =>
    rw [hn rfl]
    rcases hd with ⟨e',rfl⟩|rfl<;>simp [Builtin.append_,h0,h1',run_underlying ht,run_underlying ht2,szT_run hsz,hlen,hfc,hroom]
  | some ad =>
    have:=hst ad rfl
    rcases hd with ⟨e',rfl⟩|rfl<;>simp [Builtin.append_,h0,h1',run_underlying ht,run_underlying ht2,szT_run hsz,hlen,hfc,hroom,this]
theorem append_grow {ts:Array TypeId} {t1 t2 ty e:TypeId} (h0:ts[0]? = some t1) (h1':ts[1]? = some t2) {d2:TypeDesc} {s by_ n c m:Nat} {A:Option Addr} {vy zv:Value} {arr old:Array Value} (ht:P.underlying t1=some (.slice e)) (ht2:P.underlying t2=some d2)
    (hd:(∃ e',d2 = .slice e')∨d2 = .string) (hsz:szT P e=some s) (hby:bytesT P e=some by_) (hz:∀ w,(zeroValue e).run P w = .ok zv w) (hlen:(Builtin.lenOf vy).run P w = .ok m w)
    (hfc:(Builtin.firstCells s m vy).run P w.drew = .ok arr w.drew) (hold:(Builtin.firstCells s n (.slice A n c)).run P w.drew = .ok old w.drew) (hgrow:c<n+m)
    (h62:n+m≤4611686018427387904) (hbytes:(n+m)*by_≤140737488355328) :
    ∃ newCap rest,n+m≤newCap∧rest=Builtin.zeroCells zv.cells (newCap - (n+m))∧(Builtin.append_ ts ty #[.slice A n c,vy]).run P w = .ok (.slice (some ⟨w.heap.size,0,none⟩) (n+m) newCap) (w.drew.alloc (.cells (old++arr++rest) e)):=by
  obtain ⟨i,hi,rfl⟩:=bytesT_run hby
  have hfit:=growslice_fits hgrow hbytes
  have h1:¬ (n+m≤c):=by omega
  have h2:¬ (281474976710656<Builtin.nextslicecap (n+m) c*i.bytes):=by omega
  have h3:¬ (((n+m:Nat):Int) > IntKind.i64.max):=by
    simp [IntKind.max,IntKind.signed,IntKind.bits];omega
  have hi64:IntKind.i64.max=9223372036854775807:=by simp [IntKind.max,IntKind.signed,IntKind.bits]
  have h3':¬ (9223372036854775807<((n:Int)+(m:Int))):=by omega
  refine ⟨(Question.appendCap (n+m) c e).cut (w.tape w.drawn (.appendCap (n+m) c e)),_,by simp only [Question.cut];omega,rfl,?_⟩
  rcases hd with ⟨e',rfl⟩|rfl<;>simp [Builtin.append_,h0,h1',run_underlying ht,run_underlying ht2,szT_run hsz,hlen,h1,h2,h3',hi64,typeInfo,hi,Question.forced,hold,hfc,hz,newRow]
theorem run_val {q:Sem Value} {u:Value} (h:q.run P w = .ok u w'):(do pure (.value (← q)):Sem Next).run P w = .ok (.value u) w':=by simp [h]
theorem grown_blk {us1 us2 us3:Array Value} {cs ys:List V} {s nc k b:Nat} {T:TypeId} (hb:w'.heap[b]? = some (.cells (us1++us2++us3) T (0,0)))
    (h1:us1.size=cs.length) (h2:us2.size=ys.length) (h3:cs.length+ys.length=k*s) (h4:us3.size=(nc - k)*s) (hk:k≤nc)
    (r1:∀ (j:Nat) (u:Value) (c:V),us1[j]? = some u→cs[j]? = some c→Rep g w' u c) (r2:∀ (j:Nat) (u:Value) (c:V),us2[j]? = some u→ys[j]? = some c→Rep g w' u c) :
    BlkOk g w' s nc (cs++ys) b:=by
  have hnk:nc*s=k*s+(nc - k)*s:=by rw [← Nat.add_mul];congr 1;omega
  refine ⟨_,T,(0,0),hb,⟨fun o _ h=>by omega,Nat.le_refl _⟩,by simp;omega,by simp only [Array.size_append];omega,fun j u c hu hc=>?_⟩
  rw [List.getElem?_append] at hc
  rw [Array.append_assoc,Array.getElem?_append] at hu
  split at hc
  · rename_i hlt
    rw [if_pos (by omega)] at hu
    exact r1 j u c hu hc
  · rename_i hge
    have hj:j - cs.length<ys.length:=by
      rcases Nat.lt_or_ge (j - cs.length) ys.length with h' | h'
      · exact h'
      · rw [List.getElem?_eq_none h'] at hc;cases hc
    rw [if_neg (by omega),Array.getElem?_append,if_pos (by omega),h1] at hu
    exact r2 _ u c hu hc
theorem app_ok (hs:SimG E g σ a w) {site:Nat} {ts:Array TypeId} {t1 t2 ty e:TypeId} (h0:ts[0]? = some t1) (h1':ts[1]? = some t2) {d2:TypeDesc} {s by_:Nat} {vx vy:Value} {x y:V} (ht:P.underlying t1=some (.slice e)) (ht2:P.underlying t2=some d2)
    (hd:(∃ e',d2 = .slice e')∨d2 = .string) (hsz:szT P e=some s) (hs0:s≠0) (hby:bytesT P e=some by_) {z:V} (hz:zeroT P e=some z) (hzl:z.cells.length=s) (hx:Rep g w vx x) (hy:Rep g w vy y) :
    LRes.ok P E g σ a w site (do pure (.value (← Builtin.append_ ts ty #[vx,vy]))) (lappx σ.H s by_ x y):=by
  unfold lappx
  cases hsrc:srcOf σ.H s y with
  | none=>trivial
  | some src =>
    obtain ⟨m,ys⟩:=src
    have hzv:∃ zv:Value,(∀ w,(zeroValue e).run P w = .ok zv w)∧zv.cells.size=s:=by
      unfold zeroT at hz
      cases hi:P.info? e with
      | none=>simp [hi] at hz
      | some i =>
        cases hzz:i.zero with
        | none=>simp [hi,hzz] at hz
        | some v =>
          simp [hi,hzz] at hz
          exact ⟨v,fun w=>by simp [zeroValue,typeInfo,hi,hzz],by rw [← ofVal_cells,hz];exact hzl⟩
    obtain ⟨zv,hzv,hzs⟩:=hzv
    have hrests:∀ n,(Builtin.zeroCells zv.cells n).size=n*s:=by intro n;simp [Builtin.zeroCells,hzs]
    obtain ⟨hlen,arr,hfc,harr,hys,hrep⟩:=src_run (w1:=w) hs hsrc hy rfl
    obtain ⟨_,arr',hfc',harr',_,hrep'⟩:=src_run (w1:=w.drew) hs hsrc hy rfl
    cases x with
    | e0 =>
      obtain ⟨A,rfl⟩:=hx.e0_inv
      intro ⟨h1,h2,h3⟩
      simp only at h1 h2 h3
      by_cases hm:m=0
      · subst hm
        have hy0:ys=[]:=List.eq_nil_of_length_eq_zero (by simpa using hys)
        subst hy0
        have ha0:arr = #[]:=Array.eq_empty_of_size_eq_zero (by simpa using harr)
        subst ha0
        have run:=append_room (P:=P) (w:=w) (w':=w) (ty:=ty) (A:=A) (n:=0) (c:=0) h0 h1' ht ht2 hd hsz (hlen w) hfc (by omega) (fun ad _=>by simp [storeCells]) (fun _=>rfl)
        exact ⟨_,w,_,run_val run,hs.newObj site (blk:=none) (cap:=0) (BelowD.refl _ _) ⟨rfl,rfl⟩,.msl _ _ _ _ 0 _ none 0 (Gh.set_same _ _ _ _) (fun _=>rfl) (Nat.le_refl _) (fun _ h=>by cases h) (fun _=>rfl)⟩
      · have hold:(Builtin.firstCells s 0 (.slice A 0 0)).run P w.drew = .ok #[] w.drew:=by
          cases A<;>simp [Builtin.firstCells,loadCells,loadCellsFrom]
        obtain ⟨nc,rest,hnc,hrest,run⟩:=append_grow (ty:=ty) (A:=A) (n:=0) (c:=0) h0 h1' ht ht2 hd hsz hby hzv (hlen w) hfc' hold (by omega) (by omega) (by simpa using h1)
        rw [Nat.zero_add] at run hnc hrest
        have hbel:BelowD w.heap.size w (w.drew.alloc (.cells (#[]++arr' ++ rest) e)):=((BelowD.refl _ _).drew).alloc (Nat.le_refl _) _
        have href:∀ k n r,g.ref k n=some r→(g.set (site,σ.cnt site) 0 (some w.heap.size,nc)).ref k n=some r:=by
          intro k n r h
          rw [Gh.set_ne]
          · exact h
          · rintro ⟨rfl,rfl⟩;rw [(hs.fresh site (σ.cnt site) (Nat.le_refl _)).2] at h;cases h
        have key:=hs.newObj site (esz:=s) (cs:=ys) (cap:=nc) (blk:=some w.heap.size) hbel ⟨Nat.le_refl _,by simp,by
          have hb:(w.drew.alloc (.cells (#[]++arr' ++ rest) e)).heap[w.heap.size]? = some (.cells (#[]++arr' ++ rest) e (0,0)):=by
            show (w.heap.push _)[w.heap.size]? = _
            simp
          have:=grown_blk (g:=g.set (site,σ.cnt site) 0 (some w.heap.size,nc)) (s:=s) (nc:=nc) (k:=m) (cs:=[]) (ys:=ys) hb rfl harr' (by simpa using hys) (by rw [hrest];exact hrests _) hnc (fun j u c h=>by simp at h)
            (fun j u c hu hc=>(hrep' j u c hu hc).mono (fun _ h=>h) (fun b hm=>hbel.block b (hs.immlt b hm)) href)
          simpa using this⟩
        exact ⟨_,_,_,run_val run,key,.msl _ _ _ _ nc _ (some w.heap.size) nc (Gh.set_same _ _ _ _) (fun _=>rfl) hnc (fun b hb _=>by cases hb;rfl) (fun h=>by cases h)⟩
    | msl key gen off n =>
      simp only [lapp]
      cases hk:σ.H key with
      | none=>trivial
      | some o =>
        cases o with
        | map es=>trivial
        | it _=>trivial
        | row g' esz' cs =>
          intro ⟨⟨e1,e2,e3,e4⟩,h1,h2,h3⟩
          subst e1 e2 e3
          obtain ⟨c,A,blk,cap,rfl,q1,q2,q3,q4,q5⟩:=hx.msl_inv
          have hc:=q2 rfl
          subst hc
          obtain ⟨blk',cap',r1,r2,r3⟩:=hs.obj key _ hk
          have r1':=r1
          rw [q1] at r1;cases r1
          have hblk:blkOf g key (.row g' esz' cs)=blk:=by simp [blkOf,q1]
          have href:∀ r,∀ k n r',g.ref k n=some r'→(g.set key (g' + 1) r).ref k n=some r':=by
            intro r k n r' h
            rw [Gh.set_ne]
            · exact h
            · rintro ⟨rfl,rfl⟩;rw [r2 _ (by omega)] at h;cases h
          by_cases hroom:n+m≤c
          · cases blk with
            | none =>
              have hc0:=q5 rfl
              have hm:m=0:=by omega
              have hn:n=0:=by omega
              subst hm hn
              have hy0:ys=[]:=List.eq_nil_of_length_eq_zero (by simpa using hys)
              subst hy0
              have ha0:arr = #[]:=Array.eq_empty_of_size_eq_zero (by simpa using harr)
              subst ha0
              have run:=append_room (P:=P) (w:=w) (w':=w) (ty:=ty) (A:=A) (n:=0) (c:=c) h0 h1' ht ht2 hd hsz (hlen w) hfc (by omega) (fun ad _=>by simp [storeCells]) (fun _=>rfl)
              refine ⟨_,w,_,run_val run,.inr ⟨_,rfl,.msl key (g' + 1) 0 0 c A none c (Gh.set_same _ _ _ _) (fun _=>rfl) (by omega) (fun _ h=>by cases h) (fun _=>hc0)⟩,
                hs.setObj hk (cs':=cs++[]) (esz':=esz') (blk':=none) (cap':=c) (Nat.le_succ _) (fun h=>by omega) (.refl _ _ _) (fun _ _ _=>rfl) ⟨by simpa using e4,hc0⟩⟩
            | some b =>
              obtain ⟨p1,p2,p3,us,T,fz,t1',t2',t3,t4,t5⟩:=r3
              have hone:∀ u∈arr.toList,oneV u=true:=by
                intro u hu
                obtain ⟨j,hj⟩:=List.mem_iff_getElem?.1 hu
                rw [Array.getElem?_toList] at hj
                have hjl:j<ys.length:=by
                  have:j<arr.size:=by
                    rcases Nat.lt_or_ge j arr.size with h' | h'
                    · exact h'
                    · rw [Array.getElem?_eq_none h'] at hj;cases hj
                  omega
                exact (hrep j u _ hj (List.getElem?_eq_getElem hjl)).oneV (List.all_eq_true.1 h3 _ (List.getElem_mem hjl))
              have hmul:n*esz' + m*esz'≤c*esz':=by rw [← Nat.add_mul];exact Nat.mul_le_mul_right _ hroom
              obtain ⟨w',hr,hst⟩:=run_storeCells (P:=P) (b:=b) (off:=n*esz') arr.toList 0 w us t1' t2'.1 (by simp;omega) hone
              have run:=append_room (P:=P) (w:=w) (w':=if c=0 then w else w') (ty:=ty) (A:=A) (n:=n) (c:=c) h0 h1' ht ht2 hd hsz (hlen w) hfc hroom (by
                intro ad had
                by_cases hc0:c=0
                · have hm:m=0:=by omega
                  subst hm
                  have ha0:arr = #[]:=Array.eq_empty_of_size_eq_zero (by omega)
                  rw [if_pos hc0,ha0];simp [storeCells]
                · have:=q4 b rfl (by omega)
                  rw [had] at this;cases this
                  rw [if_neg hc0,addr_add,Nat.zero_add];exact hr) (by
                intro had
                by_cases hc0:c=0
                · rw [if_pos hc0]
                · have:=q4 b rfl (by omega)
                  rw [had] at this;cases this)
              obtain ⟨us',f1,f2,f3⟩:=hst.cells
              have hw'':∃ us'',(if c=0 then w else w').heap[b]? = some (.cells us'' T fz)∧us''.size=us.size∧∀ (j:Nat),us''[j]? = if n*esz'≤j∧j<n*esz' + arr.size then arr[j - n*esz']? else us[j]?:=by
                by_cases hc0:c=0
                · rw [if_pos hc0]
                  have hm:m=0:=by omega
                  subst hm
                  exact ⟨us,t1',rfl,fun j=>by rw [if_neg (by omega)]⟩
                · rw [if_neg hc0]
                  refine ⟨us',f1,f2,fun j=>?_⟩
                  rw [f3 j];simp
              obtain ⟨us'',f1,f2,f3⟩:=hw''
              have hoth:∀ k,k≠b→(if c=0 then w else w').heap[k]? = w.heap[k]?:=by
                intro k hk;split
                · rfl
                · exact hst.other k hk
              have hsz':(if c=0 then w else w').heap.size=w.heap.size:=by
                by_cases hc0:c=0
                · rw [if_pos hc0]
                · rw [if_neg hc0];exact hst.size
              have hbel:BelowF E.B E.F w (if c=0 then w else w'):=by
                split
                · exact .refl _ _ _
                · exact ⟨hst.os,hst.tape,hst.output,by rw [hst.size];exact Nat.le_refl _,fun k hk hf=>hst.other k (by
                    rintro rfl
                    rcases p1 with h|h
                    · omega
                    · exact hf h.2),by rw [hst.drawn];exact Nat.le_refl _⟩
              refine ⟨_,_,_,run_val run,.inr ⟨_,rfl,.msl key (g' + 1) 0 _ c A (some b) c (Gh.set_same _ _ _ _) (fun _=>rfl) hroom (fun b' hb' h=>by cases hb';exact q4 b rfl h) (fun h=>by cases h)⟩,
                hs.setObj hk (cs':=cs++ys) (esz':=esz') (blk':=some b) (cap':=c) (Nat.le_succ _) (fun h=>by omega) hbel (fun k _ hne=>hoth k (by rw [hblk] at hne;rintro rfl;exact hne rfl))
                  ⟨.inl (by rw [hblk]),by rw [hsz'];exact p2,us'',T,fz,f1,⟨fun o ho=>t2'.1 o (by omega),t2'.2⟩,by simp;omega,by omega,?_⟩⟩
              intro j u x hu hx'
              have hmono:∀ v x,Rep g w v x→Rep (g.set key (g' + 1) (some b,c)) (if c=0 then w else w') v x:=fun v x h=>h.mono (fun _ h=>h)
                (fun b' hm=>hoth b' (by rintro rfl;exact p3 hm)) (href _)
              rw [f3 j] at hu
              rw [List.getElem?_append] at hx'
              split at hx'
              · rename_i hlt
                rw [if_neg (by omega)] at hu
                exact hmono _ _ (t5 j u x hu hx')
              · rename_i hge
                have hj:j - cs.length<ys.length:=by
                  rcases Nat.lt_or_ge (j - cs.length) ys.length with h' | h'
                  · exact h'
                  · rw [List.getElem?_eq_none h'] at hx';cases hx'
                rw [if_pos (by omega),← e4] at hu
                exact hmono _ _ (hrep _ u x hu hx')
          · obtain ⟨_,old,hold,holds,_,holdr⟩:=src_run (s:=esz') (w1:=w.drew) (m:=n) (ys:=cs) hs (by simp only [srcOf,hk];rw [if_pos ⟨trivial,trivial,by omega⟩,← e4];simp) hx rfl
            obtain ⟨nc,rest,hnc,hrest,run⟩:=append_grow (ty:=ty) (A:=A) (n:=n) (c:=c) h0 h1' ht ht2 hd hsz hby hzv (hlen w) hfc' hold (by omega) h2 h1
            have hbel:BelowD w.heap.size w (w.drew.alloc (.cells (old++arr' ++ rest) e)):=((BelowD.refl _ _).drew).alloc (Nat.le_refl _) _
            have hmono:∀ v x,Rep g w v x→Rep (g.set key (g' + 1) (some w.heap.size,nc)) (w.drew.alloc (.cells (old++arr' ++ rest) e)) v x:=fun v x h=>h.mono (fun _ h=>h)
              (fun b hm=>hbel.block b (hs.immlt b hm)) (href _)
            have hbk:(w.drew.alloc (.cells (old++arr' ++ rest) e)).heap[w.heap.size]? = some (.cells (old++arr' ++ rest) e (0,0)):=by
              show (w.heap.push _)[w.heap.size]? = _
              simp
            refine ⟨_,_,_,run_val run,.inr ⟨_,rfl,.msl key (g' + 1) 0 _ nc _ (some w.heap.size) nc (Gh.set_same _ _ _ _) (fun _=>rfl) hnc (fun b' hb' h=>by cases hb';rfl) (fun h=>by cases h)⟩,
              hs.setObj hk (cs':=cs++ys) (esz':=esz') (blk':=some w.heap.size) (cap':=nc) (Nat.le_succ _) (fun h=>by omega) (.of (hbel.mono hs.sizeB)) (fun k hk _=>hbel.block k hk)
                ⟨.inr (Nat.le_refl _),by simp,grown_blk (k:=n+m) hbk holds harr' (by rw [Nat.add_mul];omega) (by rw [hrest];exact hrests _) hnc
                  (fun j u c hu hc=>hmono _ _ (holdr j u c hu hc)) (fun j u c hu hc=>hmono _ _ (hrep' j u c hu hc))⟩⟩
    | _=>trivial
theorem appq_ok (hs:SimG E g σ a w) {ts:Array TypeId} {t1 t2 ty e:TypeId} (h0:ts[0]? = some t1) (h1':ts[1]? = some t2) {d2:TypeDesc} {s by_:Nat} {vx vy:Value} {y:V} (ht:P.underlying t1=some (.slice e)) (ht2:P.underlying t2=some d2)
    (hd:(∃ e',d2 = .slice e')∨d2 = .string) (hsz:szT P e=some s) (hs0:s≠0) (hby:bytesT P e=some by_) {z:V} (hz:zeroT P e=some z) (hzl:z.cells.length=s) {key:Key} {gen q n m:Nat} {cs ys:List V}
    (hx:Rep g w vx (.qsl key gen s q n)) (hy:Rep g w vy y) (hk:σ.H key=some (.row gen s cs)) (hcl:cs.length=q*s+n*s) (hsrc:srcOf σ.H s y=some (m,ys)) (h1:(n+m)*by_≤140737488355328) (h2:n+m≤4611686018427387904) (h3:ys.all V.one=true) :
    ∃ u w',(do pure (.value (← Builtin.append_ ts ty #[vx,vy])):Sem Next).run P w = .ok (.value u) w' ∧
      ((∃ g',SimG E g' ⟨σ.tm,hupd σ.H key (.row (gen+1) s (cs++ys)),σ.cnt⟩ a w'∧Rep g' w' u (.qsl key (gen+1) s q (n+m))) ∨
       (∃ g',SimG E g' ⟨σ.tm,hupd σ.H key (.row (gen+1) s (cs.drop (q*s)++ys)),σ.cnt⟩ a w'∧Rep g' w' u (.qsl key (gen+1) s 0 (n+m)))):=by
  have hzv:∃ zv:Value,(∀ w,(zeroValue e).run P w = .ok zv w)∧zv.cells.size=s:=by
    unfold zeroT at hz
    cases hi:P.info? e with
    | none=>simp [hi] at hz
    | some i =>
      cases hzz:i.zero with
      | none=>simp [hi,hzz] at hz
      | some v =>
        simp [hi,hzz] at hz
        exact ⟨v,fun w=>by simp [zeroValue,typeInfo,hi,hzz],by rw [← ofVal_cells,hz];exact hzl⟩
  obtain ⟨zv,hzv,hzs⟩:=hzv
  have hrests:∀ n,(Builtin.zeroCells zv.cells n).size=n*s:=by intro n;simp [Builtin.zeroCells,hzs]
  obtain ⟨hlen,arr,hfc,harr,hys,hrep⟩:=src_run (w1:=w) hs hsrc hy rfl
  obtain ⟨_,arr',hfc',harr',_,hrep'⟩:=src_run (w1:=w.drew) hs hsrc hy rfl
  have hxm:=hx.qsl_msl (by omega)
  obtain ⟨c,A,blk,cap,rfl,q1,q2,q3,q4,q5⟩:=hx.qsl_inv
  obtain ⟨blk',cap',r1,r2,r3⟩:=hs.obj key _ hk
  rw [q1] at r1;cases r1
  have hblk:blkOf g key (.row gen s cs)=blk:=by simp [blkOf,q1]
  have href:∀ r,∀ k n r',g.ref k n=some r'→(g.set key (gen+1) r).ref k n=some r':=by
    intro r k n r' h
    rw [Gh.set_ne]
    · exact h
    · rintro ⟨rfl,rfl⟩;rw [r2 _ (by omega)] at h;cases h
  by_cases hroom:n+m≤c
  · cases blk with
    | none =>
      have hc0:=q5 rfl
      have hm:m=0:=by omega
      have hn:n=0:=by omega
      subst hm hn
      have hy0:ys=[]:=List.eq_nil_of_length_eq_zero (by simpa using hys)
      subst hy0
      have ha0:arr = #[]:=Array.eq_empty_of_size_eq_zero (by simpa using harr)
      subst ha0
      have run:=append_room (P:=P) (w:=w) (w':=w) (ty:=ty) (A:=A) (n:=0) (c:=c) h0 h1' ht ht2 hd hsz (hlen w) hfc (by omega) (fun ad _=>by simp [storeCells]) (fun _=>rfl)
      refine ⟨_,w,run_val run,.inl ⟨_,hs.setObj hk (cs':=cs++[]) (esz':=s) (blk':=none) (cap':=cap) (Nat.le_succ _) (fun h=>by omega) (.refl _ _ _) (fun _ _ _=>rfl) (by simpa using r3),?_⟩⟩
      exact .qsl key (gen+1) s q 0 c A none cap (Gh.set_same _ _ _ _) q2 (by omega) (fun _ h=>by cases h) (fun _=>hc0)
    | some b =>
      obtain ⟨p1,p2,p3,us,T,fz,t1',t2',t3,t4,t5⟩:=r3
      have hone:∀ u∈arr.toList,oneV u=true:=by
        intro u hu
        obtain ⟨j,hj⟩:=List.mem_iff_getElem?.1 hu
        rw [Array.getElem?_toList] at hj
        have hjl:j<ys.length:=by
          have:j<arr.size:=by
            rcases Nat.lt_or_ge j arr.size with h' | h'
            · exact h'
            · rw [Array.getElem?_eq_none h'] at hj;cases hj
          omega
        exact (hrep j u _ hj (List.getElem?_eq_getElem hjl)).oneV (List.all_eq_true.1 h3 _ (List.getElem_mem hjl))
      have hmul:n*s+m*s≤c*s:=by rw [← Nat.add_mul];exact Nat.mul_le_mul_right _ hroom
      have hcap:c*s+q*s=cap*s:=by rw [← Nat.add_mul,q2]
      obtain ⟨w',hr,hst⟩:=run_storeCells (P:=P) (b:=b) (off:=q*s+n*s) arr.toList 0 w us t1' t2'.1 (by simp;omega) hone
      have run:=append_room (P:=P) (w:=w) (w':=if c=0 then w else w') (ty:=ty) (A:=A) (n:=n) (c:=c) h0 h1' ht ht2 hd hsz (hlen w) hfc hroom (by
        intro ad had
        by_cases hc0:c=0
        · have hm:m=0:=by omega
          subst hm
          have ha0:arr = #[]:=Array.eq_empty_of_size_eq_zero (by omega)
          rw [if_pos hc0,ha0];simp [storeCells]
        · have:=q4 b rfl (by omega)
          rw [had] at this;cases this
          rw [if_neg hc0,addr_add];exact hr) (by
        intro had
        by_cases hc0:c=0
        · rw [if_pos hc0]
        · have:=q4 b rfl (by omega)
          rw [had] at this;cases this)
      obtain ⟨us',f1,f2,f3⟩:=hst.cells
      have hw'':∃ us'',(if c=0 then w else w').heap[b]? = some (.cells us'' T fz)∧us''.size=us.size∧∀ (j:Nat),us''[j]? = if q*s+n*s≤j∧j<q*s+n*s+arr.size then arr[j - (q*s+n*s)]? else us[j]?:=by
        by_cases hc0:c=0
        · rw [if_pos hc0]
          have hm:m=0:=by omega
          subst hm
          exact ⟨us,t1',rfl,fun j=>by rw [if_neg (by omega)]⟩
        · rw [if_neg hc0]
          refine ⟨us',f1,f2,fun j=>?_⟩
          rw [f3 j];simp
      obtain ⟨us'',f1,f2,f3⟩:=hw''
      have hoth:∀ k,k≠b→(if c=0 then w else w').heap[k]? = w.heap[k]?:=by
        intro k hk;split
        · rfl
        · exact hst.other k hk
      have hsz':(if c=0 then w else w').heap.size=w.heap.size:=by
        by_cases hc0:c=0
        · rw [if_pos hc0]
        · rw [if_neg hc0];exact hst.size
      have hbel:BelowF E.B E.F w (if c=0 then w else w'):=by
        split
        · exact .refl _ _ _
        · exact ⟨hst.os,hst.tape,hst.output,by rw [hst.size];exact Nat.le_refl _,fun k hk hf=>hst.other k (by
            rintro rfl
            rcases p1 with h|h
            · omega
            · exact hf h.2),by rw [hst.drawn];exact Nat.le_refl _⟩
      refine ⟨_,_,run_val run,.inl ⟨_,hs.setObj hk (cs':=cs++ys) (esz':=s) (blk':=some b) (cap':=cap) (Nat.le_succ _) (fun h=>by omega) hbel (fun k _ hne=>hoth k (by rw [hblk] at hne;rintro rfl;exact hne rfl))
          ⟨.inl (by rw [hblk]),by rw [hsz'];exact p2,us'',T,fz,f1,⟨fun o ho=>t2'.1 o (by omega),t2'.2⟩,by simp;omega,by omega,?_⟩,
        .qsl key (gen+1) s q _ c A (some b) cap (Gh.set_same _ _ _ _) q2 hroom (fun b' hb' h=>by cases hb';exact q4 b rfl h) (fun h=>by cases h)⟩⟩
      intro j u x hu hx'
      have hmono:∀ v x,Rep g w v x→Rep (g.set key (gen+1) (some b,cap)) (if c=0 then w else w') v x:=fun v x h=>h.mono (fun _ h=>h)
        (fun b' hm=>hoth b' (by rintro rfl;exact p3 hm)) (href _)
      rw [f3 j] at hu
      rw [List.getElem?_append] at hx'
      split at hx'
      · rename_i hlt
        rw [if_neg (by omega)] at hu
        exact hmono _ _ (t5 j u x hu hx')
      · rename_i hge
        have hj:j - cs.length<ys.length:=by
          rcases Nat.lt_or_ge (j - cs.length) ys.length with h' | h'
          · exact h'
          · rw [List.getElem?_eq_none h'] at hx';cases hx'
        rw [if_pos (by omega),← hcl] at hu
        exact hmono _ _ (hrep _ u x hu hx')
  · obtain ⟨_,old,hold,holds,_,holdr⟩:=src_run (s:=s) (w1:=w.drew) (m:=n) (ys:=cs.drop (q*s)) hs (by
      simp only [srcOf,hk]
      rw [if_pos (by refine ⟨?_,?_,?_⟩<;>first|trivial|omega),List.take_of_length_le (by rw [List.length_drop];omega)]) hxm rfl
    obtain ⟨nc,rest,hnc,hrest,run⟩:=append_grow (ty:=ty) (A:=A) (n:=n) (c:=c) h0 h1' ht ht2 hd hsz hby hzv (hlen w) hfc' hold (by omega) h2 h1
    have hbel:BelowD w.heap.size w (w.drew.alloc (.cells (old++arr' ++ rest) e)):=((BelowD.refl _ _).drew).alloc (Nat.le_refl _) _
    have hmono:∀ v x,Rep g w v x→Rep (g.set key (gen+1) (some w.heap.size,nc)) (w.drew.alloc (.cells (old++arr' ++ rest) e)) v x:=fun v x h=>h.mono (fun _ h=>h)
      (fun b hm=>hbel.block b (hs.immlt b hm)) (href _)
    have hbk:(w.drew.alloc (.cells (old++arr' ++ rest) e)).heap[w.heap.size]? = some (.cells (old++arr' ++ rest) e (0,0)):=by
      show (w.heap.push _)[w.heap.size]? = _
      simp
    refine ⟨_,_,run_val run,.inr ⟨_,hs.setObj hk (cs':=cs.drop (q*s)++ys) (esz':=s) (blk':=some w.heap.size) (cap':=nc) (Nat.le_succ _) (fun h=>by omega) (.of (hbel.mono hs.sizeB)) (fun k hk _=>hbel.block k hk)
        ⟨.inr (Nat.le_refl _),by simp,grown_blk (k:=n+m) hbk (by first|(exact holds)|(simp [holds];done)|(rw [holds,List.length_drop];omega)) harr' (by rw [Nat.add_mul,List.length_drop];omega) (by rw [hrest];exact hrests _) hnc
          (fun j u c hu hc=>hmono _ _ (holdr j u c hu hc)) (fun j u c hu hc=>hmono _ _ (hrep' j u c hu hc))⟩,
      .qsl key (gen+1) s 0 _ nc _ (some w.heap.size) nc (Gh.set_same _ _ _ _) rfl hnc (fun b' hb' h=>by cases hb';simp) (fun h=>by cases h)⟩⟩
end
end Go.Lg

namespace Go.Lg
open Go Go.RowKit
theorem flatten_replicate_get {α:Type} (zs:List α):∀ (n j:Nat),(List.replicate n zs).flatten[j]? = if j<n*zs.length then zs[j % zs.length]? else none
  | 0,j=>by simp
  | n+1,j=>by
    rw [List.replicate_succ,List.flatten_cons,List.getElem?_append]
    by_cases h:j<zs.length
    · rw [if_pos h,if_pos (by rw [Nat.add_mul];omega),Nat.mod_eq_of_lt h]
    · rw [if_neg h,flatten_replicate_get zs n (j - zs.length)]
      by_cases h2:j - zs.length<n*zs.length
      · rw [if_pos h2,if_pos (by rw [Nat.add_mul];omega)]
        congr 1
        exact (Nat.mod_eq_sub_mod (by omega)).symm
      · rw [if_neg h2,if_neg (by rw [Nat.add_mul];omega)]
section
variable {P:Program} {g:Gh} {w w':World} {E:Env} {σ:St} {a:Act}
theorem zeros_rep {zv:Value} {n s:Nat} (hs:(ofVal zv).cells.length=s) (hs0:s≠0) {us:Array Value} (hus:us=(Array.range (n*s)).map (fun i=>zv.cells[i % zv.cells.size]!)) {m:Nat} (hm:m≤n) :
    us.size=n*s∧((List.replicate m (ofVal zv).cells).flatten).length=m*s ∧
    ∀ (j:Nat) (u:Value) (c:V),us[j]? = some u→((List.replicate m (ofVal zv).cells).flatten)[j]? = some c→Rep g w u c:=by
  have hz:zv.cells.size=s:=by rw [← ofVal_cells];exact hs
  refine ⟨by simp [hus],by simp [hs,List.map_const',List.sum_replicate_nat],fun j u c hu hc=>?_⟩
  rw [flatten_replicate_get,hs] at hc
  split at hc
  · rename_i hlt
    have hl2:m*s≤n*s:=Nat.mul_le_mul_right _ hm
    have hj:j<n*s:=by omega
    have hmod:j % s<s:=Nat.mod_lt _ (by omega)
    have hu':zv.cells[j % s]? = some u:=by
      rw [hus] at hu
      simp only [Array.getElem?_map,Array.getElem?_range] at hu
      simp only [hj,if_true,Option.map_some,Option.some.injEq] at hu
      rw [← hu,hz]
      simp [hz,hmod]
    exact ofVal_cells_rep hu' hc
  · cases hc
theorem mksl_ok (hs:SimG E g σ a w) {site:Nat} {t e:TypeId} {s by_:Nat} {vl vc:Value} {l c:V} {z:V} (ht:P.underlying t=some (.slice e)) (hsz:szT P e=some s) (hs0:s≠0) (hby:bytesT P e=some by_)
    (hz:zeroT P e=some z) (hzl:z.cells.length=s) (hl:Rep g w vl l) (hc:Rep g w vc c) :
    LRes.ok P E g σ a w site (do pure (.value (← Instr.makeSlice t vl vc))) (lmksl s by_ z.cells l c):=by
  cases l with
  | int k n =>
    cases c with
    | int k' m =>
      have:=hl.int_inv;subst this
      have:=hc.int_inv;subst this
      intro ⟨h0,h1,h2,h3⟩
      obtain ⟨i,hi,rfl⟩:=bytesT_run hby
      have hsi:i.size=s:=by simpa [szT,hi] using hsz
      unfold zeroT at hz
      rw [hi] at hz
      cases hzz:i.zero with
      | none=>simp [hzz] at hz
      | some zv =>
        simp [hzz] at hz
        subst hz
        have hcomm:(i.bytes:Int)*m=m*i.bytes:=Int.mul_comm _ _
        have run:=run_make (P:=P) w t e i zv ht hi hzz k k' n m h0 h1 (by rw [hcomm];omega) (by omega)
        rw [hsi] at run
        obtain ⟨q1,q2,q3⟩:=zeros_rep (g:=g) (w:=w) (n:=m.toNat) (us:=madeCells zv.cells (m.toNat*s)) hzl hs0 rfl (m:=n.toNat) (by omega)
        have hmul:n.toNat*s≤m.toNat*s:=Nat.mul_le_mul_right _ (by omega)
        refine ⟨_,_,_,run_val run,newRow_obj hs site (cap:=m.toNat) e (by rw [q1,q2];exact hmul) (by rw [q1];exact Nat.le_refl _) q3,?_⟩
        exact .msl _ _ _ _ _ _ (some w.heap.size) m.toNat (Gh.set_same _ _ _ _) (fun _=>rfl) (by omega) (fun b hb _=>by cases hb;rfl) (fun h=>by cases h)
    | _=>trivial
  | _=>trivial
theorem trParts_map {s:Nat} (parts:Array (Nat × Operand)) (ps:List (Nat × Nat × Rd)) (h:parts.toList.map (fun (i,x)=>(i*s,s,rdOf x))=ps) :
    ps.length=parts.toList.length∧∀ (j i:Nat) (x:Operand) (p:Nat × Nat × Rd),parts.toList[j]? = some (i,x)→ps[j]? = some p→(some (i*s,s):Option (Nat × Nat))=some (p.1,p.2.1)∧p.2.2=rdOf x:=by
  subst h
  refine ⟨by simp,fun j i x p h1 h2=>?_⟩
  rw [List.getElem?_map,h1] at h2
  cases h2
  exact ⟨rfl,rfl⟩
theorem mapM_spec {α β:Type} {f:α→Option β}:∀ {l:List α} {l':List β},l.mapM f=some l'→l'.length=l.length∧∀ (j:Nat) (x:α) (y:β),l[j]? = some x→l'[j]? = some y→f x=some y
  | [],l',h=>by simp at h;subst h;exact ⟨rfl,fun j x y h=>by simp at h⟩
  | x::l,l',h=>by
    simp only [List.mapM_cons,Option.bind_eq_bind,Option.bind_eq_some_iff] at h
    obtain ⟨y,hy,l2,h2,h3⟩:=h
    cases h3
    obtain ⟨i1,i2⟩:=mapM_spec h2
    refine ⟨by simp [i1],fun j u v hu hv=>?_⟩
    cases j with
    | zero=>simp at hu hv;subst hu hv;exact hy
    | succ j=>exact i2 j u v hu hv
theorem places_run:∀ (l:List Field),l.all (fun f=>(szT P f.type).isSome)=true →
    (l.mapM fun f=>Prod.mk f.offset <$> sizeOf f.type:Sem (List (Nat × Nat))).run P w = .ok (l.map fun f=>(f.offset,(szT P f.type).getD 0)) w
  | [],_=>by simp
  | f::l,h=>by
    simp only [List.all_cons,Bool.and_eq_true] at h
    obtain ⟨s,hs⟩:=Option.isSome_iff_exists.1 h.1
    simp [List.mapM_cons,szT_run hs,places_run l h.2,hs]
theorem build_ok (hs:SimG E g σ a w) {site:Nat} {t:TypeId} {z:V} {parts:Array (Nat × Operand)} {ps:List (Nat × Nat × Rd)} (hz:zeroT P t=some z) (hps:trParts P t parts=some ps) :
    LRes.ok P E g σ a w site (do pure (.value (← Instr.build t (parts.map fun (i,x)=>(i,a.eval x))))) (.A (partsOk σ.tm z.cells.length ps) (.agg (fillL σ.tm z.cells ps))):=by
  obtain ⟨zv,hzv,rfl⟩:=zeroT_run (w:=w) hz
  intro hok
  have htl:(parts.map fun (i,x)=>(i,a.eval x)).toList=parts.toList.map fun (i,x)=>(i,a.eval x):=by simp
  unfold trParts at hps
  cases hd:P.underlying t with
  | none=>simp [hd] at hps
  | some d =>
    cases d with
    | struct fs =>
      simp only [hd] at hps
      split at hps
      case isFalse=>cases hps
      rename_i hsome
      obtain ⟨m1,m2⟩:=mapM_spec hps
      have hpl:(fs.mapM fun f=>Prod.mk f.offset <$> sizeOf f.type:Sem (Array (Nat × Nat))).run P w = .ok (fs.toList.map fun f=>(f.offset,(szT P f.type).getD 0)).toArray w:=by
        rw [Array.mapM_eq_mapM_toList]
        simp [places_run _ hsome]
      have hpl2:∀ (i:Nat) (f:Field),fs[i]? = some f→∀ s,szT P f.type=some s→(fs.toList.map fun f=>(f.offset,(szT P f.type).getD 0)).toArray[i]? = some (f.offset,s):=by
        intro i f hf s hs'
        simp [hf,hs']
      obtain ⟨us',f1,f2,f3⟩:=fill_ok (g:=g) (w:=w) (place:=((fs.toList.map fun f=>(f.offset,(szT P f.type).getD 0)).toArray[·]?)) hs.tm parts.toList ps zv.cells (ofVal zv).cells m1 (by
        intro j i x p h1 h2
        have:=m2 j _ _ h1 h2
        simp only [Option.bind_eq_bind,Option.bind_eq_some_iff] at this
        obtain ⟨f,hf,s,hs',hp⟩:=this
        cases hp
        exact ⟨hpl2 i f hf s hs',rfl⟩) (by rw [ofVal_cells]) (fun j u c h1 h2=>ofVal_cells_rep h1 h2) hok
      refine ⟨_,w,g,run_val (w':=w) (u:=.agg us') ?_,hs,.agg _ _ f2 f3⟩
      simp only [Instr.build]
      simp at f1
      simp [hzv,run_underlying hd,hpl,f1]
    | array n e =>
      simp only [hd,Option.bind_eq_bind,Option.bind_eq_some_iff] at hps
      obtain ⟨s,hs',hps⟩:=hps
      obtain ⟨m1,m2⟩:=mapM_spec hps
      obtain ⟨us',f1,f2,f3⟩:=fill_ok (g:=g) (w:=w) (place:=fun i=>some (i*s,s)) hs.tm parts.toList ps zv.cells (ofVal zv).cells m1 (by
        intro j i x p h1 h2
        have:=m2 j _ _ h1 h2
        cases this
        exact ⟨rfl,rfl⟩) (by rw [ofVal_cells]) (fun j u c h1 h2=>ofVal_cells_rep h1 h2) hok
      refine ⟨_,w,g,run_val (w':=w) (u:=.agg us') ?_,hs,.agg _ _ f2 f3⟩
      simp only [Instr.build]
      simp [hzv,run_underlying hd,szT_run hs',htl,f1]
    | _=>simp [hd] at hps
theorem imV_rep:∀ (d:Nat) {v:Value} {x:V},Rep g w v x→imV d x=true→RepI g.imm w v x:=by
  intro d
  induction d with
  | zero =>
    intro v x h hi
    cases h with
    | imm _ _ h=>exact h
    | _=>cases hi
  | succ d ih =>
    intro v x h hi
    cases h with
    | imm _ _ h=>exact h
    | agg vs cs hs hr=>exact .agg vs cs hs fun j v c hv hc=>ih (hr j v c hv hc) (List.all_eq_true.1 hi _ (List.mem_of_getElem? hc))
    | tup vs cs hs hr=>exact .tup vs cs hs fun j v c hv hc=>ih (hr j v c hv hc) (List.all_eq_true.1 hi _ (List.mem_of_getElem? hc))
    | fn f vs cs hs hr=>exact .fn f vs cs hs fun j v c hv hc=>ih (hr j v c hv hc) (List.all_eq_true.1 hi _ (List.mem_of_getElem? hc))
    | ifc t v x hr=>exact .ifc t v x (ih hr hi)
    | mp=>cases hi
    | msl=>cases hi
    | msv=>cases hi
    | qsl=>cases hi
    | mm=>cases hi
theorem bsl_ok (hs:SimG E g σ a w) {site:Nat} {t e:TypeId} {n s:Nat} {z:V} {parts:Array (Nat × Operand)} (ht:P.underlying t=some (.slice e)) (hsz:szT P e=some s) (hs0:s≠0) (hz:zeroT P e=some z) (hzl:z.cells.length=s)
    (hn:¬ n*s > 2 ^ 24) (hpn:n=0→parts = #[]) :
    LRes.ok P E g σ a w site (do pure (.value (← Instr.buildSlice t n (parts.map fun (i,x)=>(i,a.eval x)))))
      (if n=0 then .A True .e0 else .A (partsOk σ.tm ((List.replicate n z.cells).flatten).length (parts.toList.map fun (i,x)=>(i*s,s,rdOf x))∧(fillL σ.tm ((List.replicate n z.cells).flatten) (parts.toList.map fun (i,x)=>(i*s,s,rdOf x))).all (imV 3)=true) (.sl n (fillL σ.tm ((List.replicate n z.cells).flatten) (parts.toList.map fun (i,x)=>(i*s,s,rdOf x))))):=by
  obtain ⟨zv,hzv,rfl⟩:=zeroT_run (w:=w) hz
  have htl:(parts.map fun (i,x)=>(i,a.eval x)).toList=parts.toList.map fun (i,x)=>(i,a.eval x):=by simp
  obtain ⟨q1,q2,q3⟩:=zeros_rep (g:=g) (w:=w) (n:=n) hzl hs0 rfl (m:=n) (Nat.le_refl _)
  obtain ⟨m1,m2⟩:=trParts_map (s:=s) parts _ rfl
  -- what runs, once the parts are filled in
  have run:∀ us',Instr.fill (fun i=>some (i*s,s)) ((Array.range (n*s)).map (fun i=>zv.cells[i % zv.cells.size]!)) (parts.toList.map fun (i,x)=>(i,a.eval x))=some us'→n≠0 →
      (Instr.buildSlice t n (parts.map fun (i,x)=>(i,a.eval x))).run P w = .ok (.slice (some ⟨w.heap.size,0,none⟩) n n) (w.alloc (.cells us' e)):=by
    intro us' hf hn0
    have hne:¬ (n*s=0):=by
      intro h
      rcases Nat.mul_eq_zero.1 h with h|h
      · exact hn0 h
      · exact hs0 h
    have hn':¬ (16777216<n*s):=by omega
    simp only [Instr.buildSlice]
    simp [run_underlying ht,szT_run hsz,hn',hne,hn0,hs0,hzv,htl,hf,newRow]
  by_cases h0:n=0
  · rw [if_pos h0]
    subst h0
    intro _
    have hpa:=hpn rfl
    subst hpa
    refine ⟨_,_,_,run_val (w':=w.alloc (.cells #[] e)) (u:=.slice (some ⟨w.heap.size,0,none⟩) 0 0) ?_,hs.grow_same ((BelowD.refl _ _).alloc (Nat.le_refl _) _),.imm _ _ (.e0 _)⟩
    simp only [Instr.buildSlice]
    simp [run_underlying ht,szT_run hsz,Instr.fill,newRow,show Array.range 0 = #[] from rfl]
  · rw [if_neg h0]
    intro ⟨hok,him⟩
    obtain ⟨us',f1,f2,f3⟩:=fill_ok (g:=g) (w:=w) (place:=fun i=>some (i*s,s)) hs.tm parts.toList _ _ _ m1 m2 (by rw [q1,q2]) q3 hok
    have hb:BelowD w.heap.size w (w.alloc (.cells us' e)):=(BelowD.refl _ _).alloc (Nat.le_refl _) _
    refine ⟨_,_,_,run_val (run us' f1 h0),hs.grow (imm':=fun b=>g.imm b∨b=w.heap.size) hb (fun _ h=>.inl h) (fun b h=>?_),?_⟩
    · rcases h with h|h
      · exact .inl h
      · exact .inr (by subst h;simp)
    · have hbk:(w.alloc (.cells us' e)).heap[w.heap.size]? = some (.cells us' e (0,0)):=by
        show (w.heap.push _)[w.heap.size]? = _
        simp
      refine .imm _ _ (.sl w.heap.size 0 n n us' e (0,0) _ (.inr rfl) hbk (by omega) (Nat.le_refl _) fun j u c hu hc=>?_)
      have h1:=f3 j u c (by simpa using hu) hc
      have h2:imV 3 c=true:=List.all_eq_true.1 him _ (List.mem_of_getElem? hc)
      exact (imV_rep _ h1 h2).mono (fun b h=>.inl h) (fun b hm=>hb.block b (hs.immlt b hm))
end
end Go.Lg
