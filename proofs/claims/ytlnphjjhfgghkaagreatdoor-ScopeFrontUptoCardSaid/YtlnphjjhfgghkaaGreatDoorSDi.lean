/-
  RowV RowW SFf: put together.
-/
import Derived.Test.YtlnphjjhfgghkaaGreatDoorSDh
import Derived.JoinedCond
import Derived.Test.YtlnphjjhfgghkaaGreatDoorRows
import Derived.KernelRfl
import Derived.JoinedOf
set_option linter.unusedSimpArgs false
set_option linter.unusedVariables false
namespace Go.Lg
open Go Go.RowKit
def OP.iok (x:OP):Prop:=(InI64 x.kind)∧(InI64 x.n)
def VL.iok (x:VL):Prop:=(InI64 x.kind)∧(x.a.iok)∧(x.b.iok)∧(InI64 x.op)∧(∀ y∈x.args,y.iok)
mutual
def SM.iok:SM→Prop
  | .mk kind pos mu name type has place value cond thn els=>InI64 kind∧InI64 pos∧type.ok∧value.iok∧cond.iok∧SM.iokL thn∧SM.iokL els
def SM.iokL:List SM→Prop
  | []=>True
  | x::r=>SM.iok x∧SM.iokL r
end
theorem SM.iokL_iff:∀ l:List SM,SM.iokL l↔∀ x∈l,x.iok
  | []=>by simp [SM.iokL]
  | x::r=>by rw [SM.iokL,SM.iokL_iff r];simp
theorem SM.iok_iff (t:SM):t.iok↔InI64 t.kind∧InI64 t.at'∧t.type.ok∧t.value.iok∧t.cond.iok∧(∀ x∈t.thn,x.iok)∧(∀ x∈t.els,x.iok):=by
  cases t with
  | mk kind pos mu name type has place value cond thn els=>rw [SM.iok,SM.iokL_iff,SM.iokL_iff];rfl
def FD.iok (x:FD):Prop:=(x.type.ok)
def ST.iok (x:ST):Prop:=(∀ y∈x.fields,y.iok)∧(InI64 x.at')
def FN.iok (x:FN):Prop:=(∀ y∈x.params,y.iok)∧(x.result.ok)∧(∀ y∈x.body,y.iok)∧(InI64 x.at')
def CR.iok (x:CR):Prop:=(∀ y∈x.structs,y.iok)∧(∀ y∈x.funcs,y.iok)
theorem sum_mem {α:Type} {g:α→Nat}:∀ {l:List α} {x:α},x∈l→g x≤(l.map g).sum
  | y::r,x,h=>by
    rw [List.map_cons,List.sum_cons]
    rcases List.mem_cons.1 h with rfl|h
    · omega
    · have:=sum_mem (g:=g) h;omega
theorem sum_len {α:Type} {g:α→Nat} (hg:∀ x,1≤g x):∀ l:List α,l.length≤(l.map g).sum
  | []=>Nat.le_refl _
  | y::r=>by
    rw [List.map_cons,List.sum_cons,List.length_cons]
    have:=sum_len hg r
    have:=hg y
    omega
theorem vs_len (l:List ByteArray):l.length≤(l.map fun x=>vbL (cS x)).sum:=sum_len (fun x=>by simp only [cS,vbL,vb];omega) l
theorem vs_mem {l:List ByteArray} {x:ByteArray} (h:x∈l):x.size≤(l.map fun x=>vbL (cS x)).sum:=by
  have e:vbL (cS x)=x.size+1:=by simp only [cS,vbL,vb]
  have h2:vbL (cS x)≤(l.map fun x=>vbL (cS x)).sum:=sum_mem (g:=fun x=>vbL (cS x)) h
  rw [e] at h2
  omega
theorem TT.vbc (x:TT):vbL x.cells=1+((x.name.size+1)+(((x.lives.map fun y=>vbL (cS y)).sum+1)+(((x.elem.map fun y=>vbL y.cells).sum+1)))):=by
  rw [TT.cells_eq]
  simp only [vbL,vb,encL,vbL_flat]
  try omega
theorem TT.vbp (x:TT):1≤vbL x.cells:=by rw [TT.vbc];omega
theorem PL.vbc (x:PL):vbL x.cells=(x.name.size+1)+(((x.path.map fun y=>vbL (cS y)).sum+1)):=by
  rw [PL.cells_eq]
  simp only [vbL,vb,encL,vbL_flat]
  try omega
theorem PL.vbp (x:PL):1≤vbL x.cells:=by rw [PL.vbc];omega
theorem OP.vbc (x:OP):vbL x.cells=1+(1+(vbL x.place.cells)):=by
  rw [OP.cells_eq]
  simp only [vbL,vb,encL,vbL_flat,PL.vbc x.place]
  try omega
theorem OP.vbp (x:OP):1≤vbL x.cells:=by rw [OP.vbc];omega
theorem VL.vbc (x:VL):vbL x.cells=1+(vbL x.a.cells+(vbL x.b.cells+(1+(vbL x.place.cells+((x.name.size+1)+(((x.names.map fun y=>vbL (cS y)).sum+1)+(((x.args.map fun y=>vbL y.cells).sum+1)))))))):=by
  rw [VL.cells_eq]
  simp only [vbL,vb,encL,vbL_flat,OP.vbc x.a,PL.vbc x.a.place,OP.vbc x.b,PL.vbc x.b.place,PL.vbc x.place]
  try omega
theorem VL.vbp (x:VL):1≤vbL x.cells:=by rw [VL.vbc];omega
theorem FD.vbc (x:FD):vbL x.cells=1+((x.name.size+1)+(vbL x.type.cells)):=by
  rw [FD.cells]
  simp only [vbL,vb,encL,vbL_flat,TT.vbc x.type]
  try omega
theorem FD.vbp (x:FD):1≤vbL x.cells:=by rw [FD.vbc];omega
theorem ST.vbc (x:ST):vbL x.cells=1+((x.name.size+1)+(((x.lives.map fun y=>vbL (cS y)).sum+1)+(((x.fields.map fun y=>vbL y.cells).sum+1)+(1)))):=by
  rw [ST.cells]
  simp only [vbL,vb,encL,vbL_flat]
  try omega
theorem ST.vbp (x:ST):1≤vbL x.cells:=by rw [ST.vbc];omega
theorem SM.vbc (x:SM):vbL x.cells=1+(1+(1+((x.name.size+1)+(vbL x.type.cells+(1+(vbL x.place.cells+(vbL x.value.cells+(vbL x.cond.cells+(((x.thn.map fun y=>vbL y.cells).sum+1)+(((x.els.map fun y=>vbL y.cells).sum+1))))))))))):=by
  rw [SM.cells_eq]
  simp only [vbL,vb,encL,vbL_flat,TT.vbc x.type,PL.vbc x.place,VL.vbc x.value,OP.vbc x.value.a,PL.vbc x.value.a.place,OP.vbc x.value.b,PL.vbc x.value.b.place,PL.vbc x.value.place,OP.vbc x.cond,PL.vbc x.cond.place]
  try omega
theorem SM.vbp (x:SM):1≤vbL x.cells:=by rw [SM.vbc];omega
theorem FN.vbc (x:FN):vbL x.cells=1+((x.name.size+1)+(((x.lives.map fun y=>vbL (cLif y)).sum+1)+(((x.params.map fun y=>vbL y.cells).sum+1)+(vbL x.result.cells+(((x.body.map fun y=>vbL y.cells).sum+1)+(1)))))):=by
  rw [FN.cells_eq]
  simp only [vbL,vb,encL,vbL_flat,TT.vbc x.result]
  try omega
theorem FN.vbp (x:FN):1≤vbL x.cells:=by rw [FN.vbc];omega
theorem CR.vbc (x:CR):vbL x.cells=((x.structs.map fun y=>vbL y.cells).sum+1)+(((x.funcs.map fun y=>vbL y.cells).sum+1)):=by
  rw [CR.cells_eq]
  simp only [vbL,vb,encL,vbL_flat]
  try omega
theorem CR.vbp (x:CR):1≤vbL x.cells:=by rw [CR.vbc];omega
theorem TT.sm_of:∀ x:TT,x.ok→vbL x.cells≤SB→x.sm:=by
  refine TT.ind fun k n r e ih ho hb=>?_
  rw [TT.vbc] at hb
  obtain ⟨o1,o2,o3,o4,o5⟩:=(TT.ok_iff _).1 ho
  refine (TT.sm_iff _).2 ⟨o1,by omega,⟨by have:=vs_len (TT.mk k n r e).lives;omega,fun x hx=>by have:=vs_mem hx;omega⟩,by have:=sum_len TT.vbp (TT.mk k n r e).elem;omega,fun x hx=>?_⟩
  have:=sum_mem (g:=fun y:TT=>vbL y.cells) hx
  exact ih x hx (o5 x hx) (by omega)
theorem PL.sm_of (x:PL) (hb:vbL x.cells≤SB):x.sm:=by
  rw [PL.vbc] at hb
  exact ⟨by omega,by have:=vs_len x.path;omega,fun s hs=>by have:=vs_mem hs;omega⟩
theorem OP.sm_of (x:OP) (ho:x.iok) (hb:vbL x.cells≤SB):x.sm:=by
  rw [OP.vbc] at hb
  exact ⟨ho.1,ho.2,PL.sm_of _ (by omega)⟩
theorem VL.sm_of (x:VL) (ho:x.iok) (hb:vbL x.cells≤SB):x.sm:=by
  rw [VL.vbc] at hb
  obtain ⟨o1,o2,o3,o4,o5⟩:=ho
  refine ⟨OP.sm_of _ o2 (by omega),OP.sm_of _ o3 (by omega),PL.sm_of _ (by omega),by omega,⟨by have:=vs_len x.names;omega,fun s hs=>by have:=vs_mem hs;omega⟩,by have:=sum_len OP.vbp x.args;omega,fun s hs=>?_⟩
  have:=sum_mem (g:=fun y:OP=>vbL y.cells) hs
  exact OP.sm_of _ (o5 s hs) (by omega)
theorem SM.sm_of:∀ x:SM,x.iok→vbL x.cells≤SB→x.sm:=by
  refine SM.ind fun x iht ihe ho hb=>?_
  rw [SM.vbc] at hb
  obtain ⟨o1,o2,o3,o4,o5,o6,o7⟩:=(SM.iok_iff _).1 ho
  refine (SM.sm_iff _).2 ⟨by omega,TT.sm_of _ o3 (by omega),PL.sm_of _ (by omega),VL.sm_of _ o4 (by omega),OP.sm_of _ o5 (by omega),⟨by have:=sum_len SM.vbp x.thn;omega,fun y hy=>?_⟩,by have:=sum_len SM.vbp x.els;omega,fun y hy=>?_⟩
  · have:=sum_mem (g:=fun y:SM=>vbL y.cells) hy
    exact iht y hy (o6 y hy) (by omega)
  · have:=sum_mem (g:=fun y:SM=>vbL y.cells) hy
    exact ihe y hy (o7 y hy) (by omega)
theorem cntL_le:∀ l:List SM,(∀ x∈l,x.cnt≤vbL x.cells)→SM.cntL l≤(l.map fun y=>vbL y.cells).sum
  | [],_=>Nat.le_refl _
  | y::r,h=>by
    rw [SM.cntL,List.map_cons,List.sum_cons]
    have:=h y (List.mem_cons_self ..)
    have:=cntL_le r fun x hx=>h x (List.mem_cons_of_mem _ hx)
    omega
theorem SM.cnt_le:∀ x:SM,x.cnt≤vbL x.cells:=by
  refine SM.ind fun x iht ihe=>?_
  rw [SM.cnt_eq,SM.vbc]
  have:=cntL_le _ iht
  have:=cntL_le _ ihe
  omega
theorem FD.sm_of (x:FD) (ho:x.iok) (hb:vbL x.cells≤SB):x.sm:=by
  rw [FD.vbc] at hb
  exact ⟨by omega,TT.sm_of _ ho (by omega)⟩
theorem ST.sm_of (x:ST) (ho:x.iok) (hb:vbL x.cells≤SB):x.sm:=by
  rw [ST.vbc] at hb
  refine ⟨by omega,⟨by have:=vs_len x.lives;omega,fun s hs=>by have:=vs_mem hs;omega⟩,⟨by have:=sum_len FD.vbp x.fields;omega,fun f hf=>?_⟩,ho.2⟩
  have:=sum_mem (g:=fun y:FD=>vbL y.cells) hf
  exact FD.sm_of _ (ho.1 f hf) (by omega)
theorem lif_vb (p:Lif):vbL (cLif p)=(p.1.size+1)+((p.2.map fun y=>vbL (cS y)).sum+1):=by
  simp only [cLif,vbL,vb,encL,vbL_flat]
  try omega
theorem FN.sm_of (x:FN) (ho:x.iok) (hb:vbL x.cells≤SB):x.sm∧SM.cntL x.body≤SB:=by
  rw [FN.vbc] at hb
  obtain ⟨o1,o2,o3,o4⟩:=ho
  refine ⟨⟨by omega,⟨by have:=sum_len (g:=fun y=>vbL (cLif y)) (fun y=>by rw [lif_vb];omega) x.lives;omega,fun p hp=>?_⟩,⟨by have:=sum_len FD.vbp x.params;omega,fun f hf=>?_⟩,TT.sm_of _ o2 (by omega),⟨by have:=sum_len SM.vbp x.body;omega,fun s hs=>?_⟩,o4⟩,?_⟩
  · have:=sum_mem (g:=fun y=>vbL (cLif y)) hp
    rw [lif_vb] at this
    exact ⟨by omega,by have:=vs_len p.2;omega,fun s hs=>by have:=vs_mem hs;omega⟩
  · have:=sum_mem (g:=fun y:FD=>vbL y.cells) hf
    exact FD.sm_of _ (o1 f hf) (by omega)
  · have:=sum_mem (g:=fun y:SM=>vbL y.cells) hs
    exact SM.sm_of _ (o3 s hs) (by omega)
  · have:=cntL_le x.body fun s _=>SM.cnt_le s
    omega
theorem CR.ok_of (x:CR) (ho:x.iok) (hb:vbL x.cells≤SB):x.ok:=by
  rw [CR.vbc] at hb
  have hf:∀ f∈x.funcs,f.sm∧SM.cntL f.body≤SB:=fun f hf=>by
    have:=sum_mem (g:=fun y:FN=>vbL y.cells) hf
    exact FN.sm_of _ (ho.2 f hf) (by omega)
  refine ⟨⟨⟨by have:=sum_len ST.vbp x.structs;omega,fun s hs=>?_⟩,by have:=sum_len FN.vbp x.funcs;omega,fun f h=>(hf f h).1⟩,fun f h=>(hf f h).2⟩
  have:=sum_mem (g:=fun y:ST=>vbL y.cells) hs
  exact ST.sm_of _ (ho.1 s hs) (by omega)
end Go.Lg
namespace Go.Proofs.YtlnphjjhfgghkaaGreatDoor
open Go Go.Lg Go.RowKit Go.ChangeShapes Go.WideShapes Go.ChangeAt
set_option maxRecDepth 4000
theorem tyTT0:∀ (t:TypeId) (xs:List V),Ty Tryz.prog t xs→(t=48→∃ x:TT,xs=x.cells∧x.ok)∧(t=46→∃ l:List TT,xs=[encL TT.cells l]∧l.length≤maxLen∧∀ x∈l,x.ok):=by
  intro t xs h
  induction h with
  | struct t fs cs hu hl hf ih =>
    refine ⟨fun e=>?_,fun e=>?_⟩
    · subst e
      have hs:stF Tryz.prog 48=some [3,9,45,46]:=by kernel_rfl
      unfold stF at hs
      simp only [hu] at hs
      split at hs
      case isFalse=>cases hs
      rename_i ht
      simp only [Option.some.injEq] at hs
      simp only [tileOk,hu,beq_iff_eq] at ht
      have hp:=pcs_of (Q:=fun t xs=>Ty Tryz.prog t xs∧((t=48→∃ x:TT,xs=x.cells∧x.ok)∧(t=46→∃ l:List TT,xs=[encL TT.cells l]∧l.length≤maxLen∧∀ x∈l,x.ok))) (xs:=cs) fs.toList 0 _ ht hl (fun f hm=>⟨hf f hm,ih f hm⟩)
      rw [hs,List.drop_zero] at hp
      obtain ⟨_,_,rfl,h0,_,_,rfl,h1,_,_,rfl,h2,_,_,rfl,h3,rfl⟩:=hp
      obtain ⟨x0,rfl,o0⟩:=tyInt _ h0.1
      obtain ⟨x1,rfl,o1⟩:=tyStr _ h1.1
      obtain ⟨x2,rfl,o2⟩:=tyStrs _ h2.1
      obtain ⟨x3,rfl,o3⟩:=h3.2.2 rfl
      exact ⟨.mk x0 x1 x2 x3,by rw [TT.cells_eq];rfl,(TT.ok_iff _).2 ⟨o0,o1,o2,o3⟩⟩
    · subst e
      have hs:slF Tryz.prog 46=some (48,4):=by kernel_rfl
      simp [slF,hu] at hs
  | slice t e n cs hu hl hn hi ih =>
    refine ⟨fun e=>?_,fun e=>?_⟩
    · subst e
      have hs:stF Tryz.prog 48=some [3,9,45,46]:=by kernel_rfl
      simp [stF,hu] at hs
    · subst e
      have hs:slF Tryz.prog 46=some (48,4):=by kernel_rfl
      simp only [slF,hu,Option.some.injEq,Prod.mk.injEq] at hs
      obtain ⟨rfl,hs⟩:=hs
      rw [hs] at hl ih
      obtain ⟨l,h1,h2,h3⟩:=list_of_pcs (f:=TT.cells) (ok:=TT.ok) TT.len n cs hl fun i h=>(ih i h).1 rfl
      exact ⟨l,by simp only [encL];rw [← h2,h1],by omega,h3⟩
  | bool t b hu => exact ⟨fun e => by subst e; have hs : stF Tryz.prog 48 = some [3, 9, 45, 46] := by kernel_rfl
                                      simp [stF, hu] at hs, fun e => by subst e; have hs : slF Tryz.prog 46 = some (48, 4) := by kernel_rfl
                                                                        simp [slF,hu] at hs⟩
  | int t k n hu => exact ⟨fun e => by subst e; have hs : stF Tryz.prog 48 = some [3, 9, 45, 46] := by kernel_rfl
                                       simp [stF, hu] at hs, fun e => by subst e; have hs : slF Tryz.prog 46 = some (48, 4) := by kernel_rfl
                                                                         simp [slF,hu] at hs⟩
  | str t s hu => exact ⟨fun e => by subst e; have hs : stF Tryz.prog 48 = some [3, 9, 45, 46] := by kernel_rfl
                                     simp [stF, hu] at hs, fun e => by subst e; have hs : slF Tryz.prog 46 = some (48, 4) := by kernel_rfl
                                                                       simp [slF,hu] at hs⟩
  | array t n e cs hu => exact ⟨fun e => by subst e; have hs : stF Tryz.prog 48 = some [3, 9, 45, 46] := by kernel_rfl
                                            simp [stF, hu] at hs, fun e => by subst e; have hs : slF Tryz.prog 46 = some (48, 4) := by kernel_rfl
                                                                              simp [slF,hu] at hs⟩
  | other t d hu ho => exact ⟨fun e => by subst e; have hs : stF Tryz.prog 48 = some [3, 9, 45, 46] := by kernel_rfl
                                          simp only [stF, hu] at hs; cases d <;> simp_all [otherOk], fun e => by subst e; have hs : slF Tryz.prog 46 = some (48, 4) := by kernel_rfl
                                                                                                                 simp only [slF,hu] at hs;cases d<;>simp_all [otherOk]⟩
theorem tyTT:IsT Tryz.prog 48 TT.cells TT.ok:=fun xs h=>(tyTT0 _ xs h).1 rfl
theorem tyPL:IsT Tryz.prog 133 PL.cells (fun _=>True):=by
  intro xs hx
  have hp:=hx.st (ts:=[9,45]) (by kernel_rfl)
  obtain ⟨_,_,rfl,h0,_,_,rfl,h1,rfl⟩:=hp
  obtain ⟨x0,rfl,o0⟩:=tyStr _ h0
  obtain ⟨x1,rfl,o1⟩:=tyStrs _ h1
  exact ⟨⟨x0,x1⟩,by simp only [PL.cells_eq];rfl,trivial⟩
theorem tyOP:IsT Tryz.prog 135 OP.cells OP.iok:=by
  intro xs hx
  have hp:=hx.st (ts:=[3,3,133]) (by kernel_rfl)
  obtain ⟨_,_,rfl,h0,_,_,rfl,h1,_,_,rfl,h2,rfl⟩:=hp
  obtain ⟨x0,rfl,o0⟩:=tyInt _ h0
  obtain ⟨x1,rfl,o1⟩:=tyInt _ h1
  obtain ⟨x2,rfl,o2⟩:=tyPL _ h2
  exact ⟨⟨x0,x1,x2⟩,by simp only [OP.cells_eq,PL.cells_eq];rfl,⟨o0,o1⟩⟩
theorem tyOPs:IsT Tryz.prog 136 (fun l:List OP=>[encL OP.cells l]) (fun l=>l.length≤maxLen∧∀ x∈l,x.iok):=isSl (e:=135) (s:=4) (by kernel_rfl) (by decide) OP.len tyOP
theorem tyVL:IsT Tryz.prog 138 VL.cells VL.iok:=by
  intro xs hx
  have hp:=hx.st (ts:=[3,135,135,3,133,9,45,136]) (by kernel_rfl)
  obtain ⟨_,_,rfl,h0,_,_,rfl,h1,_,_,rfl,h2,_,_,rfl,h3,_,_,rfl,h4,_,_,rfl,h5,_,_,rfl,h6,_,_,rfl,h7,rfl⟩:=hp
  obtain ⟨x0,rfl,o0⟩:=tyInt _ h0
  obtain ⟨x1,rfl,o1⟩:=tyOP _ h1
  obtain ⟨x2,rfl,o2⟩:=tyOP _ h2
  obtain ⟨x3,rfl,o3⟩:=tyInt _ h3
  obtain ⟨x4,rfl,o4⟩:=tyPL _ h4
  obtain ⟨x5,rfl,o5⟩:=tyStr _ h5
  obtain ⟨x6,rfl,o6⟩:=tyStrs _ h6
  obtain ⟨x7,rfl,o7⟩:=tyOPs _ h7
  exact ⟨⟨x0,x1,x2,x3,x4,x5,x6,x7⟩,by simp only [VL.cells_eq,OP.cells_eq,PL.cells_eq];rfl,⟨o0,o1,o2,o3,o7.2⟩⟩
theorem tyFD:IsT Tryz.prog 65 FD.cells FD.iok:=by
  intro xs hx
  have hp:=hx.st (ts:=[4,9,48]) (by kernel_rfl)
  obtain ⟨_,_,rfl,h0,_,_,rfl,h1,_,_,rfl,h2,rfl⟩:=hp
  obtain ⟨x0,rfl,o0⟩:=tyBool _ h0
  obtain ⟨x1,rfl,o1⟩:=tyStr _ h1
  obtain ⟨x2,rfl,o2⟩:=tyTT _ h2
  exact ⟨⟨x0,x1,x2⟩,by simp only [FD.cells,TT.cells_eq];rfl,o2⟩
theorem tyFDs:IsT Tryz.prog 44 (fun l:List FD=>[encL FD.cells l]) (fun l=>l.length≤maxLen∧∀ x∈l,x.iok):=isSl (e:=65) (s:=6) (by kernel_rfl) (by decide) FD.len tyFD
theorem tyST:IsT Tryz.prog 60 ST.cells ST.iok:=by
  intro xs hx
  have hp:=hx.st (ts:=[4,9,45,44,3]) (by kernel_rfl)
  obtain ⟨_,_,rfl,h0,_,_,rfl,h1,_,_,rfl,h2,_,_,rfl,h3,_,_,rfl,h4,rfl⟩:=hp
  obtain ⟨x0,rfl,o0⟩:=tyBool _ h0
  obtain ⟨x1,rfl,o1⟩:=tyStr _ h1
  obtain ⟨x2,rfl,o2⟩:=tyStrs _ h2
  obtain ⟨x3,rfl,o3⟩:=tyFDs _ h3
  obtain ⟨x4,rfl,o4⟩:=tyInt _ h4
  exact ⟨⟨x0,x1,x2,x3,x4⟩,by simp only [ST.cells];rfl,⟨o3.2,o4⟩⟩
theorem tySTs:IsT Tryz.prog 23 (fun l:List ST=>[encL ST.cells l]) (fun l=>l.length≤maxLen∧∀ x∈l,x.iok):=isSl (e:=60) (s:=5) (by kernel_rfl) (by decide) ST.len tyST
theorem tySM0:∀ (t:TypeId) (xs:List V),Ty Tryz.prog t xs→(t=140→∃ x:SM,xs=x.cells∧x.iok)∧(t=49→∃ l:List SM,xs=[encL SM.cells l]∧l.length≤maxLen∧∀ x∈l,x.iok):=by
  intro t xs h
  induction h with
  | struct t fs cs hu hl hf ih =>
    refine ⟨fun e=>?_,fun e=>?_⟩
    · subst e
      have hs:stF Tryz.prog 140=some [3,3,4,9,48,4,133,138,135,49,49]:=by kernel_rfl
      unfold stF at hs
      simp only [hu] at hs
      split at hs
      case isFalse=>cases hs
      rename_i ht
      simp only [Option.some.injEq] at hs
      simp only [tileOk,hu,beq_iff_eq] at ht
      have hp:=pcs_of (Q:=fun t xs=>Ty Tryz.prog t xs∧((t=140→∃ x:SM,xs=x.cells∧x.iok)∧(t=49→∃ l:List SM,xs=[encL SM.cells l]∧l.length≤maxLen∧∀ x∈l,x.iok))) (xs:=cs) fs.toList 0 _ ht hl (fun f hm=>⟨hf f hm,ih f hm⟩)
      rw [hs,List.drop_zero] at hp
      obtain ⟨_,_,rfl,h0,_,_,rfl,h1,_,_,rfl,h2,_,_,rfl,h3,_,_,rfl,h4,_,_,rfl,h5,_,_,rfl,h6,_,_,rfl,h7,_,_,rfl,h8,_,_,rfl,h9,_,_,rfl,h10,rfl⟩:=hp
      obtain ⟨x0,rfl,o0⟩:=tyInt _ h0.1
      obtain ⟨x1,rfl,o1⟩:=tyInt _ h1.1
      obtain ⟨x2,rfl,o2⟩:=tyBool _ h2.1
      obtain ⟨x3,rfl,o3⟩:=tyStr _ h3.1
      obtain ⟨x4,rfl,o4⟩:=tyTT _ h4.1
      obtain ⟨x5,rfl,o5⟩:=tyBool _ h5.1
      obtain ⟨x6,rfl,o6⟩:=tyPL _ h6.1
      obtain ⟨x7,rfl,o7⟩:=tyVL _ h7.1
      obtain ⟨x8,rfl,o8⟩:=tyOP _ h8.1
      obtain ⟨x9,rfl,o9⟩:=h9.2.2 rfl
      obtain ⟨x10,rfl,o10⟩:=h10.2.2 rfl
      exact ⟨.mk x0 x1 x2 x3 x4 x5 x6 x7 x8 x9 x10,by simp only [SM.cells_eq,TT.cells_eq,PL.cells_eq,VL.cells_eq,OP.cells_eq];rfl,(SM.iok_iff _).2 ⟨o0,o1,o4,o7,o8,o9.2,o10.2⟩⟩
    · subst e
      have hs:slF Tryz.prog 49=some (140,32):=by kernel_rfl
      simp [slF,hu] at hs
  | slice t e n cs hu hl hn hi ih =>
    refine ⟨fun e=>?_,fun e=>?_⟩
    · subst e
      have hs:stF Tryz.prog 140=some [3,3,4,9,48,4,133,138,135,49,49]:=by kernel_rfl
      simp [stF,hu] at hs
    · subst e
      have hs:slF Tryz.prog 49=some (140,32):=by kernel_rfl
      simp only [slF,hu,Option.some.injEq,Prod.mk.injEq] at hs
      obtain ⟨rfl,hs⟩:=hs
      rw [hs] at hl ih
      obtain ⟨l,h1,h2,h3⟩:=list_of_pcs (f:=SM.cells) (ok:=SM.iok) SM.len n cs hl fun i h=>(ih i h).1 rfl
      exact ⟨l,by simp only [encL];rw [← h2,h1],by omega,h3⟩
  | bool t b hu =>
    refine ⟨fun e=>?_,fun e=>?_⟩
    · subst e
      have hs:stF Tryz.prog 140=some [3,3,4,9,48,4,133,138,135,49,49]:=by kernel_rfl
      simp [stF,hu] at hs
    · subst e
      have hs:slF Tryz.prog 49=some (140,32):=by kernel_rfl
      simp [slF,hu] at hs
  | int t k n hu =>
    refine ⟨fun e=>?_,fun e=>?_⟩
    · subst e
      have hs:stF Tryz.prog 140=some [3,3,4,9,48,4,133,138,135,49,49]:=by kernel_rfl
      simp [stF,hu] at hs
    · subst e
      have hs:slF Tryz.prog 49=some (140,32):=by kernel_rfl
      simp [slF,hu] at hs
  | str t s hu =>
    refine ⟨fun e=>?_,fun e=>?_⟩
    · subst e
      have hs:stF Tryz.prog 140=some [3,3,4,9,48,4,133,138,135,49,49]:=by kernel_rfl
      simp [stF,hu] at hs
    · subst e
      have hs:slF Tryz.prog 49=some (140,32):=by kernel_rfl
      simp [slF,hu] at hs
  | array t n e cs hu =>
    refine ⟨fun e=>?_,fun e=>?_⟩
    · subst e
      have hs:stF Tryz.prog 140=some [3,3,4,9,48,4,133,138,135,49,49]:=by kernel_rfl
      simp [stF,hu] at hs
    · subst e
      have hs:slF Tryz.prog 49=some (140,32):=by kernel_rfl
      simp [slF,hu] at hs
  | other t d hu ho =>
    refine ⟨fun e=>?_,fun e=>?_⟩
    · subst e
      have hs:stF Tryz.prog 140=some [3,3,4,9,48,4,133,138,135,49,49]:=by kernel_rfl
      simp only [stF,hu] at hs;cases d<;>simp_all [otherOk]
    · subst e
      have hs:slF Tryz.prog 49=some (140,32):=by kernel_rfl
      simp only [slF,hu] at hs;cases d<;>simp_all [otherOk]
theorem tySMs:IsT Tryz.prog 49 (fun l:List SM=>[encL SM.cells l]) (fun l=>l.length≤maxLen∧∀ x∈l,x.iok):=fun xs h=>(tySM0 _ xs h).2 rfl
theorem tyLifs:IsT Tryz.prog 43 (fun l:List Lif=>[encL cLif l]) (fun l=>l.length≤maxLen∧∀ p∈l,p.2.length≤maxLen):=tyLifes
theorem tyFN:IsT Tryz.prog 51 FN.cells FN.iok:=by
  intro xs hx
  have hp:=hx.st (ts:=[4,9,43,44,48,49,3]) (by kernel_rfl)
  obtain ⟨_,_,rfl,h0,_,_,rfl,h1,_,_,rfl,h2,_,_,rfl,h3,_,_,rfl,h4,_,_,rfl,h5,_,_,rfl,h6,rfl⟩:=hp
  obtain ⟨x0,rfl,o0⟩:=tyBool _ h0
  obtain ⟨x1,rfl,o1⟩:=tyStr _ h1
  obtain ⟨x2,rfl,o2⟩:=tyLifs _ h2
  obtain ⟨x3,rfl,o3⟩:=tyFDs _ h3
  obtain ⟨x4,rfl,o4⟩:=tyTT _ h4
  obtain ⟨x5,rfl,o5⟩:=tySMs _ h5
  obtain ⟨x6,rfl,o6⟩:=tyInt _ h6
  exact ⟨⟨x0,x1,x2,x3,x4,x5,x6⟩,by simp only [FN.cells_eq,TT.cells_eq];rfl,⟨o3.2,o4,o5.2,o6⟩⟩
theorem tyFNs:IsT Tryz.prog 24 (fun l:List FN=>[encL FN.cells l]) (fun l=>l.length≤maxLen∧∀ x∈l,x.iok):=isSl (e:=51) (s:=10) (by kernel_rfl) (by decide) FN.len tyFN
theorem tyCR:IsT Tryz.prog 26 CR.cells CR.iok:=by
  intro xs hx
  have hp:=hx.st (ts:=[23,24]) (by kernel_rfl)
  obtain ⟨_,_,rfl,h0,_,_,rfl,h1,rfl⟩:=hp
  obtain ⟨x0,rfl,o0⟩:=tySTs _ h0
  obtain ⟨x1,rfl,o1⟩:=tyFNs _ h1
  exact ⟨⟨x0,x1⟩,by simp only [CR.cells_eq];rfl,⟨o0.2,o1.2⟩⟩
theorem arg_aggU {H:Type} {enc:TypeId × Value→H} {w:World} {t:TypeId} {fs:Array Field} {α:Type} {f:α→List V} {ok:α→Prop} {r:Reach} {b0:Nat} {v:Value} {d:DataW H} {p:List MemPlace}
    (ht:Tryz.prog.underlying t=some (.struct fs)) (hin:t<Tryz.prog.types.size) (hT:IsT Tryz.prog t f ok) (hv:Value.okWide Tryz.prog w r b0 t v) (h:DataW.Trod enc Tryz.prog w 0 (fun _=>true) true t v d p) :
    ∃ x:α,(ok x∧vbL (f x)≤Rows.uptoBulk d)∧RepI (· < w.heap.size) w v (.agg (f x)):=by
  obtain ⟨cs,rfl,hsz⟩:=okWide_struct ht hv
  obtain ⟨fuel,hf⟩:=h
  obtain ⟨xs,hty,⟨hl,hr⟩,hb⟩:=trod_repU tiles fuel t _ d p hin hf
  obtain ⟨x,rfl,hok⟩:=hT xs hty
  simp only [Value.cells] at hl hr
  exact ⟨x,⟨hok,hb⟩,.agg cs _ (by simpa using hl.symm) fun j v c hv hc=>hr j v c (by simpa using hv) hc⟩
end Go.Proofs.YtlnphjjhfgghkaaGreatDoor

namespace Go.Proofs.YtlnphjjhfgghkaaGreatDoor
open Go Go.Lg Go.RowKit Go.ChangeShapes Go.WideShapes Go.ChangeAt
theorem wf_in {n:Int} (h:(Lit.int .i64 n).wf=true):InI64 n:=by
  simp only [Lit.wf,Bool.and_eq_true,decide_eq_true_eq] at h
  exact h
set_option maxHeartbeats 4000000 in
theorem bulk_of {H:Type} {ds:List (DataW H)} (h:Rows.uptoSmall H ds=true) (j:Nat) {d:DataW H} (hd:ds[j]? = some d):Rows.uptoBulk d≤SB:=by
  have hs:∀ (l:List (DataW H)) (j:Nat),l[j]? = some d→Rows.uptoBulk d≤Rows.uptoBulkAll l:=by
    intro l
    induction l with
    | nil=>intro j h;simp at h
    | cons x r ih =>
      intro j h
      rw [Rows.uptoBulkAll]
      cases j with
      | zero=>simp at h;subst h;omega
      | succ j=>have:=ih j (by simpa using h);omega
  have h1:=hs ds j hd
  have h2:Rows.uptoBulkAll ds≤1048576:=of_decide_eq_true h
  rw [sb_eq];omega
def condB {H:Type} (enc:TypeId × Value→H) (P:Program) (fn:Func) (s:OpenSpec) (k:(H:Type)→List (DataW H)→Bool) (w:World) (args:Array Value) (fuel:Nat):Bool :=
  match DataW.whole enc P w fn.params.toList s.vars false args.toList fuel with
  | some x=>k H (x.1++x.2.1)
  | none=>false
theorem witness_cond {H:Type} {enc:TypeId × Value→H} {C:Checked} {os:Os} {f:FuncId} {fn:Func} {s:OpenSpec} {k:(H:Type)→List (DataW H)→Bool} (hk:s.cond=some k) {X:World→Array Value→Prop} (modest:Bool) (w0:World) (args:Array Value) (fuel:Nat) (hos:w0.os=os)
    (hv:(w0.forCall (fun _ _=>0) ⟨#[],args,[]⟩).variablesB C.prog=true)
    (hr:((w0.forCall (fun _ _=>0) ⟨#[],args,[]⟩).heap.toList.drop C.prog.globals.size).take ((begin C.prog (fun _ _=>0) default).world.heap.size - C.prog.globals.size) =
      (begin C.prog (fun _ _=>0) default).world.heap.toList.drop C.prog.globals.size)
    (hok:Input.okWideB C.prog (w0.forCall (fun _ _=>0) ⟨#[],args,[]⟩) f ⟨#[],args,[]⟩=true)
    (hkk:condB enc C.prog fn s k (w0.forCall (fun _ _=>0) ⟨#[],args,[]⟩).memory args fuel=true)
    (hsz:s.bare.sizedB enc C.prog fn false (w0.forCall (fun _ _=>0) ⟨#[],args,[]⟩).memory args fuel=true)
    (hx:X (w0.forCall (fun _ _=>0) ⟨#[],args,[]⟩).memory args) :
    ∃ (w:World) (tape:Tape) (i:Input),w.os=os∧(w.forCall tape i).Shaped C.prog∧i.vars=[]∧Input.okWide C.prog (w.forCall tape i) .any w.heap.size f i ∧
      ((s.pre enc C.prog fn [] false (w.forCall tape i).memory i.args∧X (w.forCall tape i).memory i.args)∧sizedMet enc C.prog fn s false (w.forCall tape i).memory i.args)∧({ modest:=modest }:Assume).holds C.prog (lone (Frame.enter C.prog f i.args .normal) [] (w.forCall tape i)):=by
  unfold condB at hkk
  split at hkk
  case h_2=>cases hkk
  rename_i x hxx
  exact ⟨w0,fun _ _=>0,⟨#[],args,[]⟩,hos,World.shaped_of_B hv hr,(Input.okWide_of_okWideB (base:=0) hok).1,(Input.okWide_of_okWideB hok).2,
    ⟨⟨(OpenSpec.pre_some hk [] false _ _).2 ⟨x.1,x.2.1,x.2.2,DataW.Whole_of_whole hxx,rfl,hkk⟩,hx⟩,sizedMet_of_sizedB hsz⟩,by
    simp only [Assume.holds]
    exact ⟨by simp,by simp,fun _=>Modest.zero,by simp,by simp⟩⟩
theorem lifted_cond {H:Type} {enc:TypeId × Value→H} {a:Assume} {C:Checked} {os:Os} {f:FuncId} {fn:Func} {s:OpenSpec} {s0:ChangeSpec} {k:(H:Type)→List (DataW H)→Bool} (hk:s.cond=some k) {apart fresh handsOn again:Bool} {X:World→Array Value→Prop}
    (hX:∀ (w w':World) (args:Array Value),w.heap=w'.heap→X w args→X w' args)
    (own:ownKnob C.prog.godebug=none) (started:os.Started) (noInit:C.prog.inits.idxOf? f=none) (hfn:C.prog.funcs[f]? = some fn)
    (witness:∃ (w:World) (tape:Tape) (i:Input),w.os=os∧(w.forCall tape i).Shaped C.prog∧i.vars=[]∧Input.okWide C.prog (w.forCall tape i) .any w.heap.size f i ∧
      ((s.pre enc C.prog fn [] apart (w.forCall tape i).memory i.args∧X (w.forCall tape i).memory i.args)∧sizedMet enc C.prog fn s apart (w.forCall tape i).memory i.args)∧a.holds C.prog (lone (Frame.enter C.prog f i.args .normal) [] (w.forCall tape i)))
    (contract:∀ (W:World) (base:Nat) (args:Array Value) (ds gs:List (DataW H)) (before:List MemPlace),
      (∀ (j:Nat) t v,fn.params[j]? = some t→args[j]? = some v→Value.okWide C.prog W .any base t v) →
      DataW.Whole enc C.prog fn.params.toList s.vars apart W args.toList ds gs before→k H (ds++gs)=true →
      X W args→W.ShapedOpen C.prog →
      Calls C.prog f args W fun e W'=>∃ v,e = .returned v∧s0.post enc C.prog fn apart fresh handsOn again W args v W') :
    ReturnsInHanded a C os f .any (fun w args=>(s.pre enc C.prog fn [] apart w args∧X w args)∧sizedMet enc C.prog fn s apart w args) (s0.post enc C.prog fn apart fresh handsOn again):=by
  refine returnsInHanded_of_calls own started noInit witness ?_
  intro w tape i _ hsh _ hok hpre hholds
  obtain ⟨_,_,_,fn',hfn',_,_,_,_,hval⟩:=hok
  have e:fn' = fn:=Option.some.inj (hfn'.symm.trans hfn)
  subst e
  obtain ⟨⟨hp,hx⟩,hz⟩:=hpre
  obtain ⟨ds,gs,before,hw,hc,hkk⟩:=(OpenSpec.pre_some hk [] apart _ _).1 hp
  have hw':=DataW.Whole.of_heap (w':=w.forCall tape i) (by rfl) hw
  refine (contract (w.forCall tape i) w.heap.size i.args ds gs before hval hw' hkk (hX _ _ _ (by rfl) hx) hsh).mono fun e W' ⟨v,he,hp⟩=>?_
  subst he
  exact ChangeSpec.post_blind hp
end Go.Proofs.YtlnphjjhfgghkaaGreatDoor

namespace Go.Proofs.YtlnphjjhfgghkaaGreatDoor
open Go
set_option maxRecDepth 100000
theorem sfInPlace:(Rows.scopeFrontUptoRow.inPlace == Tryz.prog.inPlace 6)=true:=by kernel_rfl
theorem sfUnfollowed:(Rows.scopeFrontUptoRow.unfollowed == Tryz.prog.unfollowed 6)=true:=by kernel_rfl
theorem sfRecurses:(Rows.scopeFrontUptoRow.recurses == Tryz.prog.recurses 6)=true:=by kernel_rfl
theorem sfNamed:(Rows.scopeFrontUptoRow.named == Tryz.prog.varsNamed 6)=true:=by kernel_rfl
theorem sfEnter:Tryz.prog.mayEnter=true:=by kernel_rfl
theorem sfLifted:(Rows.scopeFrontUptoRow.lifted == Tryz.prog.liftsFinal)=true:=by kernel_rfl
theorem sfWf:Rows.scopeFrontUptoRow.wf (OpenSpec.ofChange (Rows.OpenSpec.upto Rows.scopeFrontSpec).bare)=true:=by kernel_rfl
theorem sfOut:laidOutB Tryz.prog=true:=by kernel_rfl
theorem sfMaps:mapsRowed Tryz.prog=true:=by kernel_rfl
theorem sfKeys:(Rows.scopeFrontUptoRow.plainKeys == Tryz.prog.plainKeys)=true:=by kernel_rfl
theorem scopeFront_closed:joinedFacts Tryz.prog 6 Tryz.f6 (Rows.OpenSpec.upto Rows.scopeFrontSpec).bare Rows.scopeFrontUptoRow=true:=by
  unfold joinedFacts
  rw [sfInPlace,sfUnfollowed,sfRecurses,sfNamed,sfEnter,sfLifted,sfWf,sfOut,sfMaps,sfKeys]
  kernel_rfl
#print axioms scopeFront_closed
end Go.Proofs.YtlnphjjhfgghkaaGreatDoor
